/- The reference of layer 8: May, New, Same. -/
import Derived.Test.YtoapobhdpgcmbaaTapRef2
namespace Go.Proofs.Ytoapobhdpgcmbaa
open Go.RowKit Go.Sort Go.Lib

set_option maxHeartbeats 1000000 in
theorem rt_may (size life : Int) (w : World) : Calls Try.prog 47 #[.int .i64 size, .int .i64 life] w fun e w' => e = .returned (.bool (decide (1 ≤ size ∧ size ≤ 32 ∧ 1 ≤ life ∧ life ≤ 64))) ∧ w = w' := by
  go_enter Try.func47, Try.ntmps47
  go_wp2
  all_goals (go_ret; refine ⟨ret_bool ?_, rfl⟩; (try simp only [ge_iff_le] at *); first | (symm; apply decide_eq_false; omega) | (rw [Bool.eq_iff_iff]; simp; omega) | trace_state)

set_option maxHeartbeats 1000000 in
theorem rt_new (size life : Int) (w : World) (M : List Nat) (hM : ∀ m ∈ M, m < w.heap.size) : Calls Try.prog 48 #[.int .i64 size, .int .i64 life] w fun e w' => e = .returned (.pointer (some ⟨w.heap.size, 0, none⟩)) ∧ RTap (w.heap.size :: M) w' w.heap.size size life [] ∧ Fr [] w w' ∧ w'.heap.size = w.heap.size + 1 := by
  have HM := Lib.hid hM
  clear hM
  go_enter Try.func48, Try.ntmps48
  go_wp2
  go_ret
  refine ⟨rfl, ⟨by simp, fun m hm => ?_, _, by (apply heap_eq_of; (focus (repeat (first | (with_reducible assumption) | ((with_reducible refine heap_alloc_at ?_ _); first | (with_reducible rfl) | (focus (simp; done))) | (with_reducible apply heap_alloc_old) | ((with_reducible apply heap_set_other); (case hne => (first | (with_reducible assumption) | exact Nat.ne_of_lt (by with_reducible assumption) | exact Nat.ne_of_gt (by with_reducible assumption) | (focus (simp +arith; done)) | (simp; done)))) | (with_reducible apply heap_set_eq) | (with_reducible apply heap_drew_of) | (with_reducible apply heap_drewN_of)))); (focus (first | (simp; done) | rfl))), El.Sl.nil _ _ _⟩, (by repeat' (first | (with_reducible exact Fr.refl _ _) | (with_reducible assumption) | (with_reducible refine Fr.drew ?_) | (with_reducible refine Fr.drewN ?_ _) | (with_reducible refine Fr.alloc ?_ _) | ((with_reducible refine Fr.setNew ?_ _ ?_ _); rotate_left; (focus (first | (with_reducible assumption) | exact Nat.le_of_lt (by with_reducible assumption) | (focus (simp +arith; done)) | exact Nat.le_trans (by with_reducible assumption) (by simp +arith; done) | (simp; done)))) | ((with_reducible refine Fr.setOld ?_ _ ?_ _); rotate_left; (focus (simp; done))))), by simp⟩
  rcases List.mem_cons.1 hm with rfl | h
  · simp
  · have := HM.out m h; simp; omega

/-- Are two entries the same? -/
theorem eq_exp (a b c d : Int) (w : World) : (Op.equalIn 10000 110 (.agg #[.int .i64 a, .int .i64 b]) (.agg #[.int .i64 c, .int .i64 d])).run Try.prog w = .ok (a == c && b == d) w := by
  have hu := Try.underlying110
  have a3 := Try.isAgg3
  have u3 := Try.underlying3
  rw [show (10000 : Nat) = 9999 + 1 from rfl, Op.equalIn]
  simp [run_underlying hu, go_sem, List.range', a3]
  by_cases h1 : a = c <;> by_cases h2 : b = d <;> simp [h1, h2, go_sem]

set_option maxHeartbeats 2000000 in
theorem rt_same (va vb : Value) (xs : List (Int × Int)) (hl : xs.length ≤ 100000) (Ma Mb : List Nat) (w : World) (ha : eX.Sl Ma w va xs) (hb : eX.Sl Mb w vb xs) :
    Calls Try.prog 24 #[va, vb] w fun e w' => e = .returned (.bool true) ∧ Fr [] w w' := by
  obtain ⟨A, ca, rfl, _, hA⟩ := ha
  obtain ⟨B, cb, rfl, _, hB⟩ := hb
  have HA := Lib.hid hA
  have HB := Lib.hid hB
  have hl' : (xs.length : Int) ≤ 100000 := by omega
  have heq := eq_exp
  clear hA hB
  go_enter Try.func24, Try.ntmps24
  go_wp2_with fail
  go_loopw [5] (fun v wr => ∃ i : Nat, v = .int .i64 i ∧ i ≤ xs.length ∧ Fr [] w wr) (fun v _ => xs.length - (intOf v).toNat)
  case atStart => exact ⟨0, rfl, by omega, Fr.refl _ _⟩
  case round =>
    obtain ⟨i, rfl, i1, F⟩ := hrel
    by_cases hlt : i < xs.length
    · rcases HA.out with rfl | ⟨b, off, rfl, hb, _, hcl⟩
      · simp at hlt
      rcases HB.out with rfl | ⟨b2, off2, rfl, hb2, _, hcl2⟩
      · simp at hlt
      obtain ⟨c0, c1⟩ := exat hcl (List.getElem?_eq_getElem hlt)
      obtain ⟨e0, e1⟩ := exat hcl2 (List.getElem?_eq_getElem hlt)
      generalize xs[i] = x at *
      have d0 := (F.cell (off := off + i * 2) hb).trans c0
      have d1 := (F.cell (off := off + i * 2 + 1) hb).trans c1
      have d2 := (F.cell (off := off2 + i * 2) hb2).trans e0
      have d3 := (F.cell (off := off2 + i * 2 + 1) hb2).trans e1
      clear hcl hcl2 c0 c1 e0 e1
      go_wp2_with fail
      go_region
      go_wp2_with fail
      go_roundw
      case rel => exact ⟨i + 1, by go_num, by omega, (by repeat' (first | (with_reducible exact Fr.refl _ _) | (with_reducible assumption) | (with_reducible refine Fr.drew ?_) | (with_reducible refine Fr.drewN ?_ _) | (with_reducible refine Fr.alloc ?_ _) | ((with_reducible refine Fr.setNew ?_ _ ?_ _); rotate_left; (focus (first | (with_reducible assumption) | exact Nat.le_of_lt (by with_reducible assumption) | (focus (simp +arith; done)) | exact Nat.le_trans (by with_reducible assumption) (by simp +arith; done) | (simp; done)))) | ((with_reducible refine Fr.setOld ?_ _ ?_ _); rotate_left; (focus (simp; done)))))⟩
      case measure => simp [intOf]; omega
    · have : i = xs.length := by omega
      subst this
      go_wp2
      go_ret
      exact ⟨rfl, F⟩
end Go.Proofs.Ytoapobhdpgcmbaa
