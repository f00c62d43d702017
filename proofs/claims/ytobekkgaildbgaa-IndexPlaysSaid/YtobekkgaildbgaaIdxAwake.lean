/- index: the reference's Ints; awake. -/
import Derived.Test.YtobekkgaildbgaaIdxOk
namespace Go.Proofs.Ytobekkgaildbgaa
open Go.RowKit

theorem enat {w : World} {b off i : Nat} {xs : List Int} {x : Int} (h : ∀ j u, (eN.cs xs)[j]? = some u → w.cell? ⟨b, off + j, none⟩ = some u) (hi : xs[i]? = some x) : w.cell? ⟨b, off + i, none⟩ = some (.int .i64 x) := by
  have := (eNok.at h hi).1
  simpa [eN] using this
set_option maxHeartbeats 2000000 in
theorem r5_ints (va vb : Value) (xs : List Int) (hl : xs.length ≤ 100000) (Ma Mb : List Nat) (w : World) (ha : eN.Sl Ma w va xs) (hb : eN.Sl Mb w vb xs) :
    Calls Try.prog 25 #[va, vb] w fun e w' => e = .returned (.bool true) ∧ Fr [] w w' := by
  obtain ⟨A, ca, rfl, _, hA⟩ := ha
  obtain ⟨B, cb, rfl, _, hB⟩ := hb
  have HA := Lib.hid hA
  have HB := Lib.hid hB
  have hl' : (xs.length : Int) ≤ 100000 := by omega
  clear hA hB
  go_enter Try.func25, Try.ntmps25
  go_wp2_with fail
  go_loopw [5] (fun v wr => ∃ i : Nat, v = .int .i64 i ∧ i ≤ xs.length ∧ Fr [] w wr) (fun v _ => xs.length - (intOf v).toNat)
  case atStart => exact ⟨0, rfl, by omega, Fr.refl _ _⟩
  case round =>
    obtain ⟨i, rfl, i1, F⟩ := hrel
    by_cases hlt : i < xs.length
    · rcases HA.out with rfl | ⟨b, off, rfl, hb, _, hcl⟩
      · simp at hlt
      rcases HB.out with rfl | ⟨b2, off2, rfl, hb2, _, hcl2⟩
      · simp at hlt
      have c0 := enat hcl (List.getElem?_eq_getElem hlt)
      have e0 := enat hcl2 (List.getElem?_eq_getElem hlt)
      generalize xs[i] = x at *
      have d0 := (F.cell (off := off + i) hb).trans c0
      have d2 := (F.cell (off := off2 + i) hb2).trans e0
      clear hcl hcl2 c0 e0
      go_wp2_with fail
      go_region
      go_wp2_with fail
      go_roundw
      case rel => exact ⟨i + 1, by go_num, by omega, (by repeat' (first | (with_reducible exact Fr.refl _ _) | (with_reducible assumption) | (with_reducible refine Fr.drew ?_) | (with_reducible refine Fr.drewN ?_ _) | (with_reducible refine Fr.alloc ?_ _) | ((with_reducible refine Fr.setNew ?_ _ ?_ _); rotate_left; (focus (first | (with_reducible assumption) | exact Nat.le_of_lt (by with_reducible assumption) | (focus (simp +arith; done)) | exact Nat.le_trans (by with_reducible assumption) (by simp +arith; done) | (simp; done)))) | ((with_reducible refine Fr.setOld ?_ _ ?_ _); rotate_left; (focus (simp; done)))))⟩
      case measure => simp [intOf]; omega
    · have : i = xs.length := by omega
      subst this
      go_wp2
      go_ret
      exact ⟨rfl, F⟩

section
variable {x b N : Nat} {T T' : Tb} {c c' : Int} {w : World}
theorem idx_putc (key n κ : Int) (hp : putL N T c key n = (T', c', κ)) (hk : IOk N T c) (H : IdxAt w x b N T c) :
    Calls Try.prog 17 #[.pointer (some ⟨x, 0, none⟩), .int .i64 key, .int .i64 n] w fun e w' => e = .returned (.int .i64 κ) ∧ IdxAt w' x b N T' c' ∧ Fr [x, b] w w' := by
  have := idx_put key n hk H
  rw [hp] at this; exact this
theorem idx_getc (key n : Int) (β : Bool) (hg : getL N T key = (n, β)) (hk : IOk N T c) (H : IdxAt w x b N T c) :
    Calls Try.prog 21 #[.pointer (some ⟨x, 0, none⟩), .int .i64 key] w fun e w' => e = .returned (.tuple #[.int .i64 n, .bool β]) ∧ Fr [] w w' := by
  have := idx_get key hk H
  rw [hg] at this; exact this
theorem idx_farc (key n : Int) (hg : farL N T key = n) (hk : IOk N T c) (H : IdxAt w x b N T c) :
    Calls Try.prog 28 #[.pointer (some ⟨x, 0, none⟩), .int .i64 key] w fun e w' => e = .returned (.int .i64 n) ∧ Fr [] w w' := by
  have := idx_far key hk H
  rw [hg] at this; exact this
theorem idx_keysc (l : List Int) (hl : keysL T = l) (hk : IOk N T c) (H : IdxAt w x b N T c) :
    Calls Try.prog 26 #[.pointer (some ⟨x, 0, none⟩)] w fun e w' => (∃ A cap, e = .returned (.slice A l.length cap) ∧ eN.Own w' w.heap.size (.slice A l.length cap) l) ∧ Fr [] w w' := by
  subst hl; exact idx_keys hk.ok.len hk.le hk.wf H
end

/-- The table of awake, before and behind the deletion. -/
def aw0 : Tb := List.replicate 8 (0, 0)
def aw1 : Tb := [(0, 0), (0, 0), (0, 0), (4, 30), (0, 0), (0, 0), (0, 0), (0, 0)]
def aw2 : Tb := [(0, 0), (0, 0), (0, 0), (4, 30), (12, 110), (0, 0), (0, 0), (0, 0)]
def aw3 : Tb := [(0, 0), (0, 0), (0, 0), (4, 30), (12, 110), (5, 40), (0, 0), (0, 0)]
def aw4 : Tb := [(0, 0), (0, 0), (0, 0), (12, 110), (5, 40), (0, 0), (0, 0), (0, 0)]

set_option maxRecDepth 100000 in
set_option maxHeartbeats 8000000 in
theorem iawake (w : World) : Calls Try.prog 13 #[] w fun e w' => e = .returned (.bool true) ∧ Fr [] w w' := by
  have p1 : putL 8 aw0 0 3 30 = (aw1, 1, 0) := by decide +kernel
  have p2 : putL 8 aw1 1 11 110 = (aw2, 2, 0) := by decide +kernel
  have p3 : putL 8 aw2 2 4 40 = (aw3, 3, 0) := by decide +kernel
  have p4 : putL 8 aw4 2 (-1) 0 = (aw4, 2, 1) := by decide +kernel
  have K0 : IOk 8 aw0 0 := IOk.new (k := 3) (by omega) (by omega)
  have K1 := K0.put 3 30
  rw [p1] at K1
  have K2 := K1.put 11 110
  rw [p2] at K2
  have K3 := K2.put 4 40
  rw [p3] at K3
  simp only at K1 K2 K3
  have g3 : (getL 8 aw3 3).2 = true := by decide +kernel
  have ef : findL 8 aw3 (3 + 1) = 3 := by decide +kernel
  have h3 : Hole 8 aw3 (findL 8 aw3 (3 + 1)) 6 := ⟨K3.ok, by rw [ef]; omega, by omega, by rw [ef]; omega, by decide +kernel, by rw [ef]; decide +kernel⟩
  have ed : delU 8 aw3 (findL 8 aw3 (3 + 1)) 6 = aw4 := by decide +kernel
  have K4 := K3.del g3 h3
  have D := fun (x b : Nat) (w : World) (H : IdxAt w x b 8 aw3 3) => idx_del_ok 3 6 K3 g3 h3 H
  rw [ed] at K4 D
  have K4 : IOk 8 aw4 2 := K4
  have q1 : farL 8 aw3 4 = 1 := by decide +kernel
  have q2 : getL 8 aw4 11 = (110, true) := by decide +kernel
  have q3 : farL 8 aw4 11 = 0 := by decide +kernel
  have q4 : farL 8 aw4 4 = 0 := by decide +kernel
  have q5 : keysL aw4 = [4, 11] := by
    unfold keysL
    rw [show rawL aw4 = [11, 4] by decide +kernel]
    simp [List.mergeSort, List.merge, List.MergeSort.Internal.splitInTwo, leI]
  have q6 : (getL 8 aw4 3).2 = false := by decide +kernel
  have P1 := Lib.hid p1
  have P2 := Lib.hid p2
  have P3 := Lib.hid p3
  have P4 := Lib.hid p4
  have Q1 := Lib.hid q1
  have Q2 := Lib.hid q2
  have Q3 := Lib.hid q3
  have Q4 := Lib.hid q4
  have Q5 := Lib.hid q5
  have Q6 := Lib.hid q6
  have H0 := Lib.hid K0
  have H1 := Lib.hid K1
  have H2 := Lib.hid K2
  have H3 := Lib.hid K3
  have H4 := Lib.hid K4
  have HD := Lib.hid D
  clear p1 p2 p3 p4 K0 K1 K2 K3 K4 g3 ef h3 ed D q1 q2 q3 q4 q5 q6
  go_enter Try.func13, Try.ntmps13
  go_wp2_with fail
  with_reducible refine (idx_new 3 (by omega) (by omega) 8 rfl _).mono ?_
  rintro e w1 ⟨rfl, I1, F1⟩
  have I1 : IdxAt w1 (w.heap.size + 1) w.heap.size 8 aw0 0 := I1
  obtain ⟨x, hx⟩ : ∃ x, x = w.heap.size + 1 := ⟨_, rfl⟩
  obtain ⟨b, hb⟩ : ∃ b, b = w.heap.size := ⟨_, rfl⟩
  rw [← hx, ← hb] at I1
  rw [← hx]
  have hxb : w.heap.size ≤ x ∧ w.heap.size ≤ b := ⟨by omega, by omega⟩
  have HXB := Lib.hid hxb
  clear hx hb hxb
  go_wp2_with fail
  with_reducible refine (idx_new_6 _).mono ?_
  rintro e w2 ⟨rfl, rfl⟩
  go_wp2_with fail
  with_reducible refine (idx_putc 3 30 0 P1.out H0.out I1).mono ?_
  rintro e w2 ⟨rfl, I2, f2⟩
  have F2 : Fr [] w w2 := F1.trans' f2 (by have := HXB.out; simp; omega)
  clear I1 F1 f2
  go_wp2_with fail
  with_reducible refine (idx_putc 11 110 0 P2.out H1.out I2).mono ?_
  rintro e w3 ⟨rfl, I3, f3⟩
  have F3 : Fr [] w w3 := F2.trans' f3 (by have := HXB.out; simp; omega)
  clear I2 F2 f3
  go_wp2_with fail
  with_reducible refine (idx_putc 4 40 0 P3.out H2.out I3).mono ?_
  rintro e w4 ⟨rfl, I4, f4⟩
  have F4 : Fr [] w w4 := F3.trans' f4 (by have := HXB.out; simp; omega)
  clear I3 F3 f4
  go_wp2_with fail
  with_reducible refine (idx_farc 4 1 Q1.out H3.out I4).mono ?_
  rintro e w5 ⟨rfl, f5⟩
  have I5 := I4.fr f5 (by simp) (by simp)
  have F5 := F4.trans f5
  clear I4 F4 f5
  go_wp2_with fail
  with_reducible refine (HD.out _ _ _ I5).mono ?_
  rintro e w6 ⟨rfl, I6, f6⟩
  have I6 : IdxAt w6 x b 8 aw4 2 := I6
  have F6 : Fr [] w w6 := F5.trans' f6 (by have := HXB.out; simp; omega)
  clear I5 F5 f6
  go_wp2_with fail
  with_reducible refine (idx_getc 11 110 true Q2.out H4.out I6).mono ?_
  rintro e w7 ⟨rfl, f7⟩
  have I7 := I6.fr f7 (by simp) (by simp)
  have F7 := F6.trans f7
  clear I6 F6 f7
  go_wp2_with fail
  with_reducible refine (idx_farc 11 0 Q3.out H4.out I7).mono ?_
  rintro e w8 ⟨rfl, f8⟩
  have I8 := I7.fr f8 (by simp) (by simp)
  have F8 := F7.trans f8
  clear I7 F7 f8
  go_wp2_with fail
  with_reducible refine (idx_farc 4 0 Q4.out H4.out I8).mono ?_
  rintro e w9 ⟨rfl, f9⟩
  have I9 := I8.fr f9 (by simp) (by simp)
  have F9 := F8.trans f9
  clear I8 F8 f9
  go_wp2_with fail
  with_reducible refine (idx_len I9).mono ?_
  rintro e w10 ⟨rfl, rfl⟩
  go_wp2_with fail
  with_reducible refine (idx_keysc [4, 11] Q5.out H4.out I9).mono ?_
  rintro e w10 ⟨⟨A10, c10, rfl, O10⟩, f10⟩
  have I10 := I9.fr f10 (by simp) (by simp)
  have F10 := F9.trans f10
  have S10 := O10.sl (M := []) (by simp)
  have S10 : Hid (eN.Sl [] w10 (.slice A10 2 c10) [4, 11]) := S10
  clear I9 F9 f10 O10
  go_wp2_with fail
  have L10 : eN.Own (w10.alloc (.cells #[.int .i64 4, .int .i64 11] 3)) 0 (.slice (some ⟨w10.heap.size, 0, none⟩) 2 2) [4, 11] := El.Own.lit [4, 11] (heap_alloc_new _ _) (by omega) rfl eNok (by simp [maxLen]) 2 rfl
  with_reducible refine (r5_ints _ _ [4, 11] (by simp) _ _ _ (S10.out.fr (S := []) (by repeat' (first | (with_reducible exact Fr.refl _ _) | (with_reducible assumption) | (with_reducible refine Fr.drew ?_) | (with_reducible refine Fr.drewN ?_ _) | (with_reducible refine Fr.alloc ?_ _) | ((with_reducible refine Fr.setNew ?_ _ ?_ _); rotate_left; (focus (first | (with_reducible assumption) | exact Nat.le_of_lt (by with_reducible assumption) | (focus (simp +arith; done)) | exact Nat.le_trans (by with_reducible assumption) (by simp +arith; done) | (simp; done)))) | ((with_reducible refine Fr.setOld ?_ _ ?_ _); rotate_left; (focus (simp; done))))) (by simp)) (L10.sl (M := []) (by simp))).mono ?_
  rintro e w11 ⟨rfl, f11⟩
  have F11 : Fr [] w w11 := Fr.trans (by repeat' (first | (with_reducible exact Fr.refl _ _) | (with_reducible assumption) | (with_reducible refine Fr.drew ?_) | (with_reducible refine Fr.drewN ?_ _) | (with_reducible refine Fr.alloc ?_ _) | ((with_reducible refine Fr.setNew ?_ _ ?_ _); rotate_left; (focus (first | (with_reducible assumption) | exact Nat.le_of_lt (by with_reducible assumption) | (focus (simp +arith; done)) | exact Nat.le_trans (by with_reducible assumption) (by simp +arith; done) | (simp; done)))) | ((with_reducible refine Fr.setOld ?_ _ ?_ _); rotate_left; (focus (simp; done))))) f11
  have I11 := (I10.fr (S := []) (w' := w10.alloc (.cells #[.int .i64 4, .int .i64 11] 3)) (by repeat' (first | (with_reducible exact Fr.refl _ _) | (with_reducible assumption) | (with_reducible refine Fr.drew ?_) | (with_reducible refine Fr.drewN ?_ _) | (with_reducible refine Fr.alloc ?_ _) | ((with_reducible refine Fr.setNew ?_ _ ?_ _); rotate_left; (focus (first | (with_reducible assumption) | exact Nat.le_of_lt (by with_reducible assumption) | (focus (simp +arith; done)) | exact Nat.le_trans (by with_reducible assumption) (by simp +arith; done) | (simp; done)))) | ((with_reducible refine Fr.setOld ?_ _ ?_ _); rotate_left; (focus (simp; done))))) (by simp) (by simp)).fr f11 (by simp) (by simp)
  clear I10 F10 f11 L10 S10
  go_wp2_with fail
  with_reducible refine (idx_del_no 3 H4.out Q6.out I11).mono ?_
  rintro e w12 ⟨rfl, rfl⟩
  go_wp2_with fail
  with_reducible refine (idx_putc (-1) 0 1 P4.out H4.out I11).mono ?_
  rintro e w12 ⟨rfl, I12, f12⟩
  have F12 : Fr [] w w12 := F11.trans' f12 (by have := HXB.out; simp; omega)
  go_wp2_with fail
  go_ret
  exact ⟨rfl, F12⟩
end Go.Proofs.Ytobekkgaildbgaa
