/- Package stream: New. -/
import Derived.Test.YtoapobhdpgcmbaaStr7
namespace Go.Proofs.Ytoapobhdpgcmbaa
open Go.RowKit Go.Lib

section
variable {w : World}
def snewB (st size life deg blk : Int) : Bool := decide (1 ≤ st ∧ st ≤ 16) && decide (1 ≤ size ∧ size ≤ 32 ∧ 1 ≤ life ∧ life ≤ 64) && decide (1 ≤ deg ∧ deg ≤ 16 ∧ 1 ≤ blk ∧ blk ≤ 256)
set_option maxRecDepth 100000 in
set_option maxHeartbeats 4000000 in
theorem snew_ok (st size life deg blk : Int) (h : snewB st size life deg blk = true) (w : World) :
    Calls Try.prog 14 #[.int .i64 st, .int .i64 size, .int .i64 life, .int .i64 deg, .int .i64 blk] w fun e w' => (∃ t tb b base, e = .returned (.tuple #[.pointer (some ⟨t, 0, none⟩), .int .i64 0]) ∧ TrkAt w' t tb b base size life st deg blk (.slice none 0 0) [] 0 0 0 [] ∧ w.heap.size ≤ t ∧ w.heap.size ≤ tb ∧ w.heap.size ≤ b) ∧ Fr [] w w' := by
  simp only [snewB, Bool.and_eq_true, decide_eq_true_eq] at h
  obtain ⟨⟨⟨s1, s2⟩, z1, z2, l1, l2⟩, d1, d2, b1, b2⟩ := h
  have hmy : amayB 0 0 1 0 deg blk = true := (amayB_iff _ _ _ _ _ _).2 ⟨⟨d1, d2⟩, ⟨b1, b2⟩, ⟨by omega, by omega⟩, by omega, ⟨by omega, by omega⟩, by omega, by omega⟩
  have HM := Lib.hid (fun w => amay_any 0 0 1 0 deg blk w)
  rw [hmy] at HM
  clear hmy
  go_enter Try.func14, Try.ntmps14
  go_wp2_with fail
  with_reducible refine (tnew_ok size life z1 z2 l1 l2 _).mono ?_
  rintro e w2 ⟨tb, b, rfl, T2, ht, hb, f2⟩
  have lt2 := T2.lt
  have HT2 := Lib.hid T2
  clear T2
  go_wp2_with fail
  with_reducible refine (astart_any _ _).mono ?_
  rintro e w3 ⟨rfl, f3⟩
  have F3 := f2.trans f3
  go_wp2_with fail
  with_reducible refine (HM.out _).mono ?_
  rintro e w4 ⟨rfl, f4⟩
  have F4 := F3.trans f4
  have h4 : w2.heap.size ≤ w4.heap.size := Nat.le_trans f3.size f4.size
  have T4 := Lib.hid ((HT2.out.fr f3 (by simp) (by simp)).fr f4 (by simp) (by simp))
  go_wp2_with fail
  go_ret2
  refine ⟨⟨_, _, _, w4.heap.size + 1, rfl, ⟨by (apply heap_eq_of; (focus (repeat (first | (with_reducible assumption) | ((with_reducible refine heap_alloc_at ?_ _); first | (with_reducible rfl) | (focus (simp; done))) | (with_reducible apply heap_alloc_old) | ((with_reducible apply heap_set_other); (case hne => (first | (with_reducible assumption) | exact Nat.ne_of_lt (by with_reducible assumption) | exact Nat.ne_of_gt (by with_reducible assumption) | (focus (simp +arith; done)) | (simp; done)))) | (with_reducible apply heap_set_eq) | (with_reducible apply heap_drew_of) | (with_reducible apply heap_drewN_of)))); (focus (first | (simp; done) | rfl))), El.Own.nil _ _ _, T4.out.fr (S := []) (by repeat' (first | (with_reducible exact Fr.refl _ _) | (with_reducible assumption) | (with_reducible refine Fr.drew ?_) | (with_reducible refine Fr.drewN ?_ _) | (with_reducible refine Fr.alloc ?_ _) | ((with_reducible refine Fr.setNew ?_ _ ?_ _); rotate_left; (focus (first | (with_reducible assumption) | exact Nat.le_of_lt (by with_reducible assumption) | (focus (simp +arith; done)) | exact Nat.le_trans (by with_reducible assumption) (by simp +arith; done) | (simp; done)))) | ((with_reducible refine Fr.setOld ?_ _ ?_ _); rotate_left; (focus (simp; done))))) (by simp) (by simp), ⟨by omega, by omega, by omega⟩, ⟨by omega, by omega⟩, by simp⟩, by have := F4.size; omega, ht, hb⟩, Fr.trans (S := []) F4 (by repeat' (first | (with_reducible exact Fr.refl _ _) | (with_reducible assumption) | (with_reducible refine Fr.drew ?_) | (with_reducible refine Fr.drewN ?_ _) | (with_reducible refine Fr.alloc ?_ _) | ((with_reducible refine Fr.setNew ?_ _ ?_ _); rotate_left; (focus (first | (with_reducible assumption) | exact Nat.le_of_lt (by with_reducible assumption) | (focus (simp +arith; done)) | exact Nat.le_trans (by with_reducible assumption) (by simp +arith; done) | (simp; done)))) | ((with_reducible refine Fr.setOld ?_ _ ?_ _); rotate_left; (focus (simp; done)))))⟩
set_option maxRecDepth 100000 in
set_option maxHeartbeats 4000000 in
theorem snew_no (st size life deg blk : Int) (h : snewB st size life deg blk = false) (w : World) :
    Calls Try.prog 14 #[.int .i64 st, .int .i64 size, .int .i64 life, .int .i64 deg, .int .i64 blk] w fun e w' => e = .returned (.tuple #[.pointer none, .int .i64 1]) ∧ Fr [] w w' := by
  by_cases hz : 1 ≤ size ∧ size ≤ 32 ∧ 1 ≤ life ∧ life ≤ 64
  · obtain ⟨z1, z2, l1, l2⟩ := hz
    by_cases hs1 : st < 1
    · clear h
      go_enter Try.func14, Try.ntmps14
      go_wp2_with fail
      with_reducible refine (tnew_ok size life z1 z2 l1 l2 _).mono ?_
      rintro e w2 ⟨tb, b, rfl, T2, ht, hb, f2⟩
      clear T2
      go_wp2_with fail
      go_ret2
      exact ⟨rfl, f2⟩
    · by_cases hs2 : 16 < st
      · clear h
        go_enter Try.func14, Try.ntmps14
        go_wp2_with fail
        with_reducible refine (tnew_ok size life z1 z2 l1 l2 _).mono ?_
        rintro e w2 ⟨tb, b, rfl, T2, ht, hb, f2⟩
        clear T2
        go_wp2_with fail
        go_ret2
        exact ⟨rfl, f2⟩
      · have hmy : amayB 0 0 1 0 deg blk = false := by
          cases q : amayB 0 0 1 0 deg blk with
          | false => rfl
          | true =>
            have q' := (amayB_iff _ _ _ _ _ _).1 q
            have : snewB st size life deg blk = true := by
              simp only [snewB, Bool.and_eq_true, decide_eq_true_eq]; omega
            rw [h] at this; cases this
        have HM := Lib.hid (fun w => amay_any 0 0 1 0 deg blk w)
        rw [hmy] at HM
        have s1 : 1 ≤ st := by omega
        have s2 : st ≤ 16 := by omega
        clear hmy h hs1 hs2
        go_enter Try.func14, Try.ntmps14
        go_wp2_with fail
        with_reducible refine (tnew_ok size life z1 z2 l1 l2 _).mono ?_
        rintro e w2 ⟨tb, b, rfl, T2, ht, hb, f2⟩
        clear T2
        go_wp2_with fail
        with_reducible refine (astart_any _ _).mono ?_
        rintro e w3 ⟨rfl, f3⟩
        have F3 := f2.trans f3
        go_wp2_with fail
        with_reducible refine (HM.out _).mono ?_
        rintro e w4 ⟨rfl, f4⟩
        have F4 := F3.trans f4
        go_wp2_with fail
        go_ret2
        exact ⟨rfl, F4⟩
  · clear h
    have HN := Lib.hid (fun w => tnew_no size life hz w)
    clear hz
    go_enter Try.func14, Try.ntmps14
    go_wp2_with fail
    with_reducible refine (HN.out _).mono ?_
    rintro e w2 ⟨rfl, rfl⟩
    go_wp2_with fail
    go_ret2
    exact ⟨rfl, Fr.refl _ _⟩
end
end Go.Proofs.Ytoapobhdpgcmbaa
