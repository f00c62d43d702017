/- PoolPins answers true at every count, number of pins and value, and changes nothing that was there. -/
import Derived.Test.YtmhdnafdbgbmfaaPoolAwake
import Derived.Test.YtmhdnafdbgbmfaaGlue
namespace Go.Proofs.Ytmhdnafdbgbmfaa
open Go.RowKit

theorem stepAt_head (f : Fm) (R : List Fm) (k : Fm → Int × Fm) : stepAt (f :: R) 0 k = ((k f).1, (k f).2 :: R) := by simp [stepAt]
theorem sumP_head (f : Fm) (K : Nat) : sumP (f :: List.replicate K fm0) = f.p := by
  have : ∀ K : Nat, (List.map Fm.p (List.replicate K fm0)).sum = 0 := by
    intro K
    induction K with
    | zero => rfl
    | succ K ih => rw [List.replicate_succ, List.map_cons, List.sum_cons, ih]; rfl
  rw [sumP, List.map_cons, List.sum_cons, this]
  omega
theorem head_sane {N : Int} {f : Fm} (hN : 0 ≤ N) (h : Fm.ok N f) {K : Nat} (hK : K ≤ 63) : Sane N (f :: List.replicate K fm0) := ⟨by simp; omega, by
  intro g hg
  rcases List.mem_cons.1 hg with rfl | hg
  · exact h
  · rw [(List.mem_replicate.1 hg).2]; exact fm0_ok hN⟩
/-- The first frame, doomed with j pins. -/
def headF (j v : Int) : Fm := if j = 0 then ⟨0, 0, 1, 0, 0⟩ else ⟨3, 5, 1, j, v⟩

set_option maxRecDepth 100000 in
set_option maxHeartbeats 4000000 in
theorem pins_any (n m v : Int) (n0 : 0 ≤ n) (n1 : n ≤ 255) (m0 : 0 ≤ m) (m1 : m ≤ 255) (w : World) :
    Calls Try.prog 13 #[.int .u8 n, .int .u8 m, .int .u64 v] w fun e w' => e = .returned (.bool true) ∧ Fr [] w w' := by
  obtain ⟨R, hK⟩ : ∃ R : Nat, ((R + 1 : Nat) : Int) = 1 + n % 64 := ⟨(n % 64).toNat, by omega⟩
  have k2 : R ≤ 63 := by omega
  obtain ⟨M, hM⟩ : ∃ M : Nat, (M : Int) = m % 40 := ⟨(m % 40).toNat, by omega⟩
  have mM : M ≤ 39 := by omega
  have ok1 : ∀ j : Int, 0 ≤ j → j ≤ 40 → Fm.ok 60 ⟨1, 5, 1, j, 0⟩ := fun j h1 h2 => ⟨by simp, by simp, by simpa using h1, by simp; omega, by simp, by simp, by simp⟩
  have ok3 : ∀ j : Int, 0 ≤ j → j ≤ 40 → Fm.ok 60 ⟨3, 5, 1, j, v⟩ := fun j h1 h2 => ⟨by simp, by simp, by simpa using h1, by simp; omega, by simp, by simp, by simp⟩
  have okF : ∀ j : Int, 0 ≤ j → j ≤ 40 → Fm.ok 60 (headF j v) := fun j h1 h2 => by
    unfold headF; split
    · exact ⟨by simp, by simp, by simp, by simp, by simp, by simp, by simp⟩
    · exact ok3 j h1 h2
  have a0 : takeL (List.replicate (R + 1) fm0) 5 = (0, 0, ⟨1, 5, 1, 0, 0⟩ :: List.replicate R fm0) := by
    rw [takeL_some (f := fm0) (i := 0) (by omega) (freeIx_some (f := fm0) (by simp) rfl (fun j hj => by omega)) (by simp)]
    simp [List.replicate_succ, fm0]
  have a1 : ∀ j : Int, stepAt (⟨1, 5, 1, j, 0⟩ :: List.replicate R fm0) 0 (pinK 1) = (0, ⟨1, 5, 1, j + 1, 0⟩ :: List.replicate R fm0) := fun j => by rw [stepAt_head]; simp [pinK]
  have a2 : stepAt (⟨1, 5, 1, m % 40, 0⟩ :: List.replicate R fm0) 0 (fillK v) = (0, ⟨2, 5, 1, m % 40, v⟩ :: List.replicate R fm0) := by rw [stepAt_head]; simp [fillK]
  have a3 : stepAt (⟨2, 5, 1, m % 40, v⟩ :: List.replicate R fm0) 0 doomK = (0, headF (m % 40) v :: List.replicate R fm0) := by
    rw [stepAt_head]; unfold headF doomK
    by_cases h : m % 40 = 0 <;> simp [h, Fm.freed]
  have b1 : ∀ j : Int, stepAt (⟨3, 5, 1, j, v⟩ :: List.replicate R fm0) 0 (pinK 1) = (5, ⟨3, 5, 1, j, v⟩ :: List.replicate R fm0) := fun j => by rw [stepAt_head]; simp [pinK]
  have b2 : ∀ j : Int, stepAt (⟨3, 5, 1, j, v⟩ :: List.replicate R fm0) 0 doomK = (5, ⟨3, 5, 1, j, v⟩ :: List.replicate R fm0) := fun j => by rw [stepAt_head]; simp [doomK]
  have b3 : ∀ j : Int, stepAt (⟨3, 5, 1, j, v⟩ :: List.replicate R fm0) 0 (fillK 1) = (5, ⟨3, 5, 1, j, v⟩ :: List.replicate R fm0) := fun j => by rw [stepAt_head]; simp [fillK]
  have b4 : ∀ j : Int, stepAt (⟨3, 5, 1, j, v⟩ :: List.replicate R fm0) 0 (unpinK 2) = (3, ⟨3, 5, 1, j, v⟩ :: List.replicate R fm0) := fun j => by rw [stepAt_head]; simp [unpinK]
  have b5 : ∀ j : Int, 0 < j → stepAt (⟨3, 5, 1, j, v⟩ :: List.replicate R fm0) 0 (unpinK 1) = (0, headF (j - 1) v :: List.replicate R fm0) := fun j hj => by
    rw [stepAt_head]; unfold headF unpinK
    by_cases h : j = 1
    · subst h; simp [Fm.freed]
    · simp [h, show ¬ j ≤ 0 by omega, show ¬ j - 1 = 0 by omega]
  have b6 : stepAt (headF 0 v :: List.replicate R fm0) 0 (unpinK 1) = (3, headF 0 v :: List.replicate R fm0) := by rw [stepAt_head]; simp [unpinK, headF]
  have A0 := Lib.hid a0
  have A1 := Lib.hid a1
  have A2 := Lib.hid a2
  have A3 := Lib.hid a3
  have E1 := Lib.hid b1
  have E2 := Lib.hid b2
  have E3 := Lib.hid b3
  have E4 := Lib.hid b4
  have E5 := Lib.hid b5
  have E6 := Lib.hid b6
  have O1 := Lib.hid ok1
  have O3 := Lib.hid ok3
  have OF := Lib.hid okF
  have S0 : Hid (Sane 60 (List.replicate (R + 1) fm0)) := ⟨by simp; omega, fun f hf => by rw [(List.mem_replicate.1 hf).2]; exact fm0_ok (by omega)⟩
  have HK := Lib.hid hK
  have HM := Lib.hid hM
  clear a0 a1 a2 a3 b1 b2 b3 b4 b5 b6 ok1 ok3 okF hK
  go_enter Try.func13, Try.ntmps13
  go_wp2_with (first
    | (go_at_call 25; (with_reducible refine (pawake _).mono ?_); rintro e w1 ⟨rfl, f1⟩)
    | (go_at_call 26; (with_reducible refine (pnewc (1 + n % 64) (R + 1) HK.out.symm (by omega) (by omega)).mono ?_); rintro e w2 ⟨rfl, P2, f2⟩; have F2 : Fr [] w w2 := Fr.trans f1 f2)
    | (go_at_call 34; (with_reducible refine (ptakec _ _ _ A0.out S0.out (by omega) P2).mono ?_); rintro e w3 ⟨rfl, P3, f3⟩; have F3 : Fr [] w w3 := Fr.trans' F2 f3 (by have := f1.size; simpa using this)))
  have B2 : w.heap.size ≤ w1.heap.size := f1.size
  generalize hbp : w1.heap.size + 1 = bp at *
  generalize hbf : w1.heap.size = bf at *
  clear hbp hbf f1 f2 F2 P2
  go_loopw [13] (fun v w' => ∃ j : Nat, v = .int .i64 j ∧ j ≤ M ∧ PoolAt pT w' bp bf (⟨1, 5, 1, j, 0⟩ :: List.replicate R fm0) ∧ Fr [] w w') (fun v _ => M - (intOf v).toNat)
  case atStart => exact ⟨0, rfl, by omega, P3, F3⟩
  case round =>
    clear P3 F3
    obtain ⟨j, rfl, j1, P3, F3⟩ := hrel
    by_cases hj : j < M
    · have HP3 := Lib.hid P3
      clear P3
      go_wp2_with (first
        | (go_at_call 36; (with_reducible refine (ppinc _ _ _ (A1.out j) (head_sane (by omega) (O1.out j (by omega) (by omega)) k2) (by omega) HP3.out).mono ?_); rintro e w4 ⟨rfl, P4, f4⟩; have F4 : Fr [] w w4 := Fr.trans' F3 f4 (by simpa using B2))
        | (go_at_call 31; (with_reducible refine (ppinsc (j + 1) (sumP_head _ _) (head_sane (by omega) (O1.out (j + 1) (by omega) (by omega)) k2) (by omega) P4).mono ?_); rintro e w5 ⟨rfl, f5⟩; have F5 : Fr [] w w5 := Fr.trans F4 f5; have P5 := P4.fr f5 (by simp) (by simp); clear P4 F4 f4 f5))
      go_roundw
      case rel => exact ⟨j + 1, by go_num, by omega, by simpa using P5, F5⟩
      case measure => simp [intOf]; omega
    · have hj' : j = M := by omega
      subst hj'
      have P4 : PoolAt pT wr bp bf (⟨1, 5, 1, m % 40, 0⟩ :: List.replicate R fm0) := by
        have e := HM.out
        rw [← e]; exact P3
      have B3 := Lib.hid B2
      clear P3 j1 hj
      go_wp2_with (first
        | (go_at_call 37; (with_reducible refine (pfillc 0 v 0 A2.out P4).mono ?_); rintro e w5 ⟨rfl, P5, f5⟩; have F5 : Fr [] w w5 := Fr.trans' F3 f5 (by simpa using B3.out); clear P4 F3 f5)
        | (go_at_call 35; (with_reducible refine (pdoomc 0 0 A3.out P5).mono ?_); rintro e w6 ⟨rfl, P6, f6⟩; have F6 : Fr [] w w6 := Fr.trans' F5 f6 (by simpa using B3.out); clear P5 F5 f6))
      go_loopw [14] (fun u w' => ∃ k : Nat, u = .int .i64 k ∧ k ≤ 40 ∧ PoolAt pT w' bp bf (headF k v :: List.replicate R fm0) ∧ Fr [] w w') (fun u _ => (intOf u).toNat)
      case atStart => exact ⟨j, by rw [HM.out], by omega, by rw [HM.out]; exact P6, F6⟩
      case round =>
        clear P6 F6
        obtain ⟨k, rfl, k1, P7, F7⟩ := hrel
        by_cases hk : 0 < k
        · obtain ⟨q, rfl⟩ : ∃ q, k = q + 1 := ⟨k - 1, by omega⟩
          have hh : headF ((q + 1 : Nat) : Int) v = ⟨3, 5, 1, ((q + 1 : Nat) : Int), v⟩ := by unfold headF; rw [if_neg (by omega)]
          rw [hh] at P7
          clear hh
          have h5 := E5.out ((q + 1 : Nat) : Int) (by omega)
          have HK5 := Lib.hid h5
          have HO := Lib.hid (head_sane (N := 60) (by omega) (O3.out ((q + 1 : Nat) : Int) (by omega) (by omega)) k2)
          have X1 := Lib.hid (E1.out ((q + 1 : Nat) : Int))
          have X2 := Lib.hid (E2.out ((q + 1 : Nat) : Int))
          have X3 := Lib.hid (E3.out ((q + 1 : Nat) : Int))
          have X4 := Lib.hid (E4.out ((q + 1 : Nat) : Int))
          clear h5
          generalize hz : ((q + 1 : Nat) : Int) = z at *
          have HZ := Lib.hid hz
          clear hz
          have hz0 : ¬ z = 0 := by have := HZ.out; omega
          have hz1 : 0 < z := by have := HZ.out; omega
          have hz2 : z ≤ 41 := by have := HZ.out; omega
          go_wp2_with (first
            | (go_at_call 33; (with_reducible refine (pframec 0 3 5 1 z v (by omega) rfl P7).mono ?_); rintro e w8 ⟨rfl, f8⟩; have F8 : Fr [] w w8 := Fr.trans F7 f8; have P8 := P7.fr f8 (by simp) (by simp); clear P7 F7 f8)
            | (go_at_call 36; (with_reducible refine (ppinc _ _ _ X1.out HO.out (by omega) (P8.fr (S := []) (by repeat' (first | (with_reducible exact Fr.refl _ _) | (with_reducible assumption) | (with_reducible refine Fr.drew ?_) | (with_reducible refine Fr.drewN ?_ _) | (with_reducible refine Fr.alloc ?_ _) | ((with_reducible refine Fr.setNew ?_ _ ?_ _); rotate_left; (focus (first | (with_reducible assumption) | exact Nat.le_of_lt (by with_reducible assumption) | (focus (simp +arith; done)) | exact Nat.le_trans (by with_reducible assumption) (by simp +arith; done) | (simp; done)))) | ((with_reducible refine Fr.setOld ?_ _ ?_ _); rotate_left; (focus (simp; done))))) (by simp) (by simp))).mono ?_); rintro e w9 ⟨rfl, P9, f9⟩; have F9 : Fr [] w w9 := Fr.trans' (by repeat' (first | (with_reducible exact Fr.refl _ _) | (with_reducible assumption) | (with_reducible refine Fr.drew ?_) | (with_reducible refine Fr.drewN ?_ _) | (with_reducible refine Fr.alloc ?_ _) | ((with_reducible refine Fr.setNew ?_ _ ?_ _); rotate_left; (focus (first | (with_reducible assumption) | exact Nat.le_of_lt (by with_reducible assumption) | (focus (simp +arith; done)) | exact Nat.le_trans (by with_reducible assumption) (by simp +arith; done) | (simp; done)))) | ((with_reducible refine Fr.setOld ?_ _ ?_ _); rotate_left; (focus (simp; done))))) f9 (by simpa using B3.out); clear P8 F8 f9)
            | (go_at_call 35; (with_reducible refine (pdoomc _ _ X2.out P9).mono ?_); rintro e w10 ⟨rfl, P10, f10⟩; have F10 : Fr [] w w10 := Fr.trans' F9 f10 (by simpa using B3.out); clear P9 F9 f10)
            | (go_at_call 37; (with_reducible refine (pfillc _ _ _ X3.out P10).mono ?_); rintro e w11 ⟨rfl, P11, f11⟩; have F11 : Fr [] w w11 := Fr.trans' F10 f11 (by simpa using B3.out); clear P10 F10 f11)
            | (go_at_call 38; first
               | ((with_reducible refine (punpinc _ _ _ X4.out HO.out (by omega) P11).mono ?_); rintro e w12 ⟨rfl, P12, f12⟩; have F12 : Fr [] w w12 := Fr.trans' F11 f12 (by simpa using B3.out); clear P11 F11 f12)
               | ((with_reducible refine (punpinc _ _ _ HK5.out HO.out (by omega) P12).mono ?_); rintro e w13 ⟨rfl, P13, f13⟩; have F13 : Fr [] w w13 := Fr.trans' F12 f13 (by simpa using B3.out); clear P12 F12 f13)))
          go_roundw
          case rel => exact ⟨q, by rw [show z - 1 = (q : Int) by have := HZ.out; omega], by omega, by rw [show (q : Int) = z - 1 by have := HZ.out; omega]; exact P13, F13⟩
          case measure => simp [intOf]; omega
        · have hk' : k = 0 := by omega
          subst hk'
          have E7 := E6
          have HO := Lib.hid (head_sane (N := 60) (by omega) (OF.out 0 (by omega) (by omega)) k2)
          have HS : Hid (sumP (headF 0 v :: List.replicate R fm0) = 0) := by unfold Hid; rw [sumP_head]; rfl
          have P7' : PoolAt pT wr bp bf (headF 0 v :: List.replicate R fm0) := P7
          clear P7 hk k1
          go_wp2_with (first
            | (go_at_call 33; (with_reducible refine (pframec 0 0 0 1 0 0 (by omega) rfl P7').mono ?_); rintro e w8 ⟨rfl, f8⟩; have F8 : Fr [] w w8 := Fr.trans F7 f8; have P8 := P7'.fr f8 (by simp) (by simp); clear P7' F7 f8)
            | (go_at_call 31; (with_reducible refine (ppinsc 0 HS.out HO.out (by omega) (P8.fr (S := []) (by repeat' (first | (with_reducible exact Fr.refl _ _) | (with_reducible assumption) | (with_reducible refine Fr.drew ?_) | (with_reducible refine Fr.drewN ?_ _) | (with_reducible refine Fr.alloc ?_ _) | ((with_reducible refine Fr.setNew ?_ _ ?_ _); rotate_left; (focus (first | (with_reducible assumption) | exact Nat.le_of_lt (by with_reducible assumption) | (focus (simp +arith; done)) | exact Nat.le_trans (by with_reducible assumption) (by simp +arith; done) | (simp; done)))) | ((with_reducible refine Fr.setOld ?_ _ ?_ _); rotate_left; (focus (simp; done))))) (by simp) (by simp))).mono ?_); rintro e w9 ⟨rfl, f9⟩; have F9 : Fr [] w w9 := Fr.trans (by repeat' (first | (with_reducible exact Fr.refl _ _) | (with_reducible assumption) | (with_reducible refine Fr.drew ?_) | (with_reducible refine Fr.drewN ?_ _) | (with_reducible refine Fr.alloc ?_ _) | ((with_reducible refine Fr.setNew ?_ _ ?_ _); rotate_left; (focus (first | (with_reducible assumption) | exact Nat.le_of_lt (by with_reducible assumption) | (focus (simp +arith; done)) | exact Nat.le_trans (by with_reducible assumption) (by simp +arith; done) | (simp; done)))) | ((with_reducible refine Fr.setOld ?_ _ ?_ _); rotate_left; (focus (simp; done))))) f9; have P9 := (P8.fr (S := []) (by repeat' (first | (with_reducible exact Fr.refl _ _) | (with_reducible assumption) | (with_reducible refine Fr.drew ?_) | (with_reducible refine Fr.drewN ?_ _) | (with_reducible refine Fr.alloc ?_ _) | ((with_reducible refine Fr.setNew ?_ _ ?_ _); rotate_left; (focus (first | (with_reducible assumption) | exact Nat.le_of_lt (by with_reducible assumption) | (focus (simp +arith; done)) | exact Nat.le_trans (by with_reducible assumption) (by simp +arith; done) | (simp; done)))) | ((with_reducible refine Fr.setOld ?_ _ ?_ _); rotate_left; (focus (simp; done))))) (by simp) (by simp)).fr f9 (by simp) (by simp); clear P8 F8 f9)
            | (go_at_call 38; (with_reducible refine (punpinc _ _ _ E7.out HO.out (by omega) P9).mono ?_); rintro e w10 ⟨rfl, P10, f10⟩; have F10 : Fr [] w w10 := Fr.trans' F9 f10 (by simpa using B3.out); clear P9 F9 f10))
          go_ret
          exact ⟨rfl, F10⟩

theorem pins_walk (n m v : Int) (wn : (Lit.int .u8 n).wf = true) (wm : (Lit.int .u8 m).wf = true) (_ : (Lit.int .u64 v).wf = true) (w : World) :
    Calls Try.prog 13 #[.int .u8 n, .int .u8 m, .int .u64 v] w fun e w' => e = .returned (.bool true) ∧ Fr [] w w' :=
  pins_any n m v (u8_bounds wn).1 (u8_bounds wn).2 (u8_bounds wm).1 (u8_bounds wm).2 w

end Go.Proofs.Ytmhdnafdbgbmfaa
