/- PoolFull answers true at every count and frame, and changes nothing that was there. -/
import Derived.Test.YtmhdnafdbgbmfaaPoolAwake
import Derived.Test.YtmhdnafdbgbmfaaGlue
namespace Go.Proofs.Ytmhdnafdbgbmfaa
open Go.RowKit

/-- A pool of K frames of which the first j are taken. -/
def took (K j : Nat) : List Fm := (List.range K).map fun i => if i < j then ⟨1, 100 + (i : Int), 1, 0, 0⟩ else fm0
theorem took_get (K j i : Nat) : (took K j)[i]? = if i < K then some (if i < j then ⟨1, 100 + (i : Int), 1, 0, 0⟩ else fm0) else none := by
  by_cases hi : i < K <;> simp [took, hi]
theorem took_len (K j : Nat) : (took K j).length = K := by simp [took]
theorem took_zero (K : Nat) : took K 0 = List.replicate K fm0 := by
  apply List.ext_getElem?
  intro i
  rw [took_get, List.getElem?_replicate]
  by_cases hi : i < K <;> simp [hi]
theorem took_ok (K j : Nat) : ∀ f ∈ took K j, Fm.ok 5 f := by
  intro f hf
  obtain ⟨i, hi⟩ := List.mem_iff_getElem?.1 hf
  rw [took_get] at hi
  split at hi
  · cases hi
    split
    · exact ⟨by simp, by simp, by simp, by simp, by simp, by simp, by simp⟩
    · exact fm0_ok (by omega)
  · cases hi
theorem took_sane {K : Nat} (h : K ≤ 64) (j : Nat) : Sane 5 (took K j) := ⟨by rw [took_len]; exact h, took_ok K j⟩
theorem took_take {K j : Nat} (h : j < K) : takeL (took K j) (100 + (j : Int)) = ((j : Int), 0, took K (j + 1)) := by
  have h0 : (took K j)[j]? = some fm0 := by rw [took_get]; simp [h]
  have hx : freeIx (took K j) = some j := freeIx_some h0 rfl (fun i hi g hg => by
    rw [took_get] at hg
    rw [if_pos (by omega), if_pos hi] at hg
    cases hg; simp)
  rw [takeL_some (by omega) hx h0]
  congr 2
  apply List.ext_getElem?
  intro i
  rw [took_get, List.getElem?_set, took_len]
  by_cases hi : j = i
  · subst hi; simp [h, fm0]
  · rw [if_neg hi, took_get]
    by_cases hk : i < K
    · simp only [hk, if_true]
      by_cases h1 : i < j
      · rw [if_pos h1, if_pos (by omega)]
      · rw [if_neg h1, if_neg (by omega)]
    · simp [hk]
theorem took_all {K : Nat} {f : Fm} (i : Nat) : ∀ (j : Nat) (g : Fm), ((took K K).set i f)[j]? = some g → (j = i ∧ g = f) ∨ (j ≠ i ∧ g = ⟨1, 100 + (j : Int), 1, 0, 0⟩) := by
  intro j g hg
  rw [List.getElem?_set] at hg
  by_cases hj : i = j
  · subst hj
    simp only [if_true] at hg
    split at hg
    · left; cases hg; exact ⟨rfl, rfl⟩
    · cases hg
  · rw [if_neg hj, took_get] at hg
    right
    split at hg
    · cases hg; exact ⟨fun h => hj h.symm, rfl⟩
    · cases hg
theorem took_none {K : Nat} : freeIx (took K K) = none := freeIx_none (fun j g hg => by
  rw [took_get] at hg
  split at hg
  · cases hg; simp
  · cases hg)
theorem cnt_all {l : List Fm} (h : ∀ f ∈ l, f.s = 1) : cntS l 0 = 0 ∧ cntS l 1 = l.length ∧ cntS l 2 = 0 ∧ cntS l 3 = 0 := by
  unfold cntS
  refine ⟨?_, ?_, ?_, ?_⟩
  · rw [List.countP_eq_zero.2 (fun f hf => by simp [h f hf])]; rfl
  · rw [List.countP_eq_length.2 (fun f hf => by simp [h f hf])]
  · rw [List.countP_eq_zero.2 (fun f hf => by simp [h f hf])]; rfl
  · rw [List.countP_eq_zero.2 (fun f hf => by simp [h f hf])]; rfl

set_option maxRecDepth 100000 in
set_option maxHeartbeats 4000000 in
theorem full_any (n c : Int) (n0 : 0 ≤ n) (n1 : n ≤ 255) (c0 : 0 ≤ c) (c1 : c ≤ 255) (w : World) :
    Calls Try.prog 12 #[.int .u8 n, .int .u8 c] w fun e w' => e = .returned (.bool true) ∧ Fr [] w w' := by
  obtain ⟨K, hK⟩ : ∃ K : Nat, (K : Int) = 1 + n % 64 := ⟨(1 + n % 64).toNat, by omega⟩
  have k1 : 1 ≤ K := by omega
  have k2 : K ≤ 64 := by omega
  have kpos : 0 < 1 + n % 64 := by omega
  obtain ⟨i, hi⟩ : ∃ i : Nat, (i : Int) = c % (1 + n % 64) := ⟨(c % (1 + n % 64)).toNat, by have := Int.emod_nonneg c (by omega : 1 + n % 64 ≠ 0); omega⟩
  have hil : i < K := by have := Int.emod_lt_of_pos c kpos; omega
  have hget : (took K K)[i]? = some ⟨1, 100 + (i : Int), 1, 0, 0⟩ := by rw [took_get]; simp [hil]
  have a1 : takeL (took K K) 1 = (0, 2, took K K) := takeL_none (by omega) took_none
  have a2 : stepAt (took K K) (c % (1 + n % 64)) doomK = (0, (took K K).set i ⟨0, 0, 1, 0, 0⟩) := by
    rw [← hi, stepAt_in _ hget]; simp [doomK, Fm.freed]
  have hl : ∀ f, ((took K K).set i f)[i]? = some f := by intro f; rw [List.getElem?_set, took_len]; simp [hil]
  have a3 : takeL ((took K K).set i ⟨0, 0, 1, 0, 0⟩) 7 = (c % (1 + n % 64), 0, (took K K).set i ⟨1, 7, 2, 0, 0⟩) := by
    rw [takeL_some (by omega) (freeIx_some (hl _) rfl (fun j hj g hg => by
      rcases took_all i j g hg with ⟨h, _⟩ | ⟨_, h⟩
      · omega
      · rw [h]; simp)) (hl _), List.set_set, hi]
    rfl
  have a4 : takeL ((took K K).set i ⟨1, 7, 2, 0, 0⟩) 1 = (0, 2, (took K K).set i ⟨1, 7, 2, 0, 0⟩) := takeL_none (by omega) (freeIx_none (fun j g hg => by
    rcases took_all i j g hg with ⟨_, h⟩ | ⟨_, h⟩ <;> rw [h] <;> simp))
  have hall : ∀ f ∈ (took K K).set i ⟨1, 7, 2, 0, 0⟩, f.s = 1 := by
    intro f hf
    obtain ⟨j, hj⟩ := List.mem_iff_getElem?.1 hf
    rcases took_all i j f hj with ⟨_, h⟩ | ⟨_, h⟩ <;> rw [h]
  have sane : ∀ f, Fm.ok 5 f → Sane 5 ((took K K).set i f) := fun f hf => ⟨by simp [took_len]; omega, fun g hg => by
    rcases List.mem_or_eq_of_mem_set hg with h | rfl
    · exact took_ok K K g h
    · exact hf⟩
  have A1 := Lib.hid a1
  have A2 := Lib.hid a2
  have A3 := Lib.hid a3
  have A4 := Lib.hid a4
  have S0 := Lib.hid (took_sane k2)
  have S2 := Lib.hid (sane ⟨0, 0, 1, 0, 0⟩ ⟨by simp, by simp, by simp, by simp, by simp, by simp, by simp⟩)
  have S3 := Lib.hid (sane ⟨1, 7, 2, 0, 0⟩ ⟨by simp, by simp, by simp, by simp, by simp, by simp, by simp⟩)
  have HC : Hid (cntS ((took K K).set i ⟨1, 7, 2, 0, 0⟩) 0 = 0 ∧ cntS ((took K K).set i ⟨1, 7, 2, 0, 0⟩) 1 = 1 + n % 64 ∧ cntS ((took K K).set i ⟨1, 7, 2, 0, 0⟩) 2 = 0 ∧ cntS ((took K K).set i ⟨1, 7, 2, 0, 0⟩) 3 = 0) := by
    obtain ⟨h1, h2, h3, h4⟩ := cnt_all hall
    refine ⟨h1, ?_, h3, h4⟩
    rw [h2, ← hK]; simp [took_len]
  have HI := Lib.hid hi
  have HL := Lib.hid (hl ⟨1, 7, 2, 0, 0⟩)
  have heq := eq_arr4
  have hi0 : 0 ≤ c % (1 + n % 64) := by omega
  have HK := Lib.hid hK
  clear a1 a2 a3 a4 hl hall sane hget hi hil
  go_enter Try.func12, Try.ntmps12
  go_wp2_with (first
    | (go_at_call 25; (with_reducible refine (pawake _).mono ?_); rintro e w1 ⟨rfl, f1⟩)
    | (go_at_call 26; (with_reducible refine (pnewc (1 + n % 64) K HK.out.symm k1 k2).mono ?_); rintro e w2 ⟨rfl, P2, f2⟩; have F2 : Fr [] w w2 := Fr.trans f1 f2))
  have B1 : w.heap.size ≤ w1.heap.size := f1.size
  generalize hbp : w1.heap.size + 1 = bp at *
  generalize hbf : w1.heap.size = bf at *
  have B2 : w.heap.size ≤ bf := by omega
  clear B1 hbp hbf f1 f2
  go_loopw [8] (fun v w' => ∃ j : Nat, v = .int .i64 j ∧ j ≤ K ∧ PoolAt pT w' bp bf (took K j) ∧ Fr [] w w') (fun v _ => K - (intOf v).toNat)
  case atStart => exact ⟨0, rfl, by omega, by rw [took_zero]; exact P2, F2⟩
  case round =>
    clear P2 F2
    obtain ⟨j, rfl, j1, P3, F3⟩ := hrel
    have HK2 := HK.out
    by_cases hj : j < K
    · have T := Lib.hid (took_take hj)
      have HP3 := Lib.hid P3
      clear P3
      go_wp2_with (go_at_call 34; (with_reducible refine (ptakec _ _ _ T.out (S0.out j) (by omega) HP3.out).mono ?_); rintro e w4 ⟨rfl, P4, f4⟩; have F4 : Fr [] w w4 := Fr.trans' F3 f4 (by simpa using B2))
      go_roundw
      case rel => exact ⟨j + 1, by go_num, by omega, P4, F4⟩
      case measure => simp [intOf]; omega
    · have hj' : j = K := by omega
      subst hj'
      have HF : Hid (((took j j).set i ⟨1, 7, 2, 0, 0⟩)[(c % (1 + n % 64)).toNat]? = some ⟨1, 7, 2, 0, 0⟩) := by
        unfold Hid
        rw [show (c % (1 + n % 64)).toNat = i by rw [← HI.out]; simp]
        exact HL.out
      clear hj j1
      go_wp2_with (first
        | (go_at_call 34; first
          | ((with_reducible refine (ptakec 1 0 2 A1.out (S0.out j) (by omega) P3).mono ?_); rintro e w4 ⟨rfl, P4, f4⟩; have F4 : Fr [] w w4 := Fr.trans' F3 f4 (by simpa using B2); clear P3 F3 f4)
          | ((with_reducible refine (ptakec _ _ _ A3.out S2.out (by omega) P5).mono ?_); rintro e w6 ⟨rfl, P6, f6⟩; have F6 : Fr [] w w6 := Fr.trans' F5 f6 (by simpa using B2); clear P5 F5 f6)
          | ((with_reducible refine (ptakec _ _ _ A4.out S3.out (by omega) (P7.fr (S := []) (by repeat' (first | (with_reducible exact Fr.refl _ _) | (with_reducible assumption) | (with_reducible refine Fr.drew ?_) | (with_reducible refine Fr.drewN ?_ _) | (with_reducible refine Fr.alloc ?_ _) | ((with_reducible refine Fr.setNew ?_ _ ?_ _); rotate_left; (focus (first | (with_reducible assumption) | exact Nat.le_of_lt (by with_reducible assumption) | (focus (simp +arith; done)) | exact Nat.le_trans (by with_reducible assumption) (by simp +arith; done) | (simp; done)))) | ((with_reducible refine Fr.setOld ?_ _ ?_ _); rotate_left; (focus (simp; done))))) (by simp) (by simp))).mono ?_); rintro e w8 ⟨rfl, P8, f8⟩; apply f8.use (k := w7.heap.size); (focus (repeat (first | (with_reducible assumption) | ((with_reducible refine heap_alloc_at ?_ _); first | (with_reducible rfl) | (focus (simp; done))) | (with_reducible apply heap_alloc_old) | ((with_reducible apply heap_set_other); (case hne => (first | (with_reducible assumption) | exact Nat.ne_of_lt (by with_reducible assumption) | exact Nat.ne_of_gt (by with_reducible assumption) | (focus (simp +arith; done)) | (simp; done)))) | (with_reducible apply heap_set_eq) | (with_reducible apply heap_drew_of) | (with_reducible apply heap_drewN_of)))); (focus (first | (simp; done) | (simp; assumption))); intro hg8 hc8 hz8 _ _ _ _ _; (try simp only [List.setIfInBounds_toArray, List.set_cons_zero, List.set_cons_succ] at hg8 hc8); have F8 : Fr [] w w8 := Fr.trans' (by repeat' (first | (with_reducible exact Fr.refl _ _) | (with_reducible assumption) | (with_reducible refine Fr.drew ?_) | (with_reducible refine Fr.drewN ?_ _) | (with_reducible refine Fr.alloc ?_ _) | ((with_reducible refine Fr.setNew ?_ _ ?_ _); rotate_left; (focus (first | (with_reducible assumption) | exact Nat.le_of_lt (by with_reducible assumption) | (focus (simp +arith; done)) | exact Nat.le_trans (by with_reducible assumption) (by simp +arith; done) | (simp; done)))) | ((with_reducible refine Fr.setOld ?_ _ ?_ _); rotate_left; (focus (simp; done))))) f8 (by simpa using B2); clear P7 F7 f8))
        | (go_at_call 35; (with_reducible refine (pdoomc _ _ A2.out P4).mono ?_); rintro e w5 ⟨rfl, P5, f5⟩; have F5 : Fr [] w w5 := Fr.trans' F4 f5 (by simpa using B2); clear P4 F4 f5)
        | (go_at_call 33; (with_reducible refine (pframec _ 1 7 2 0 0 hi0 HF.out P6).mono ?_); rintro e w7 ⟨rfl, f7⟩; have F7 : Fr [] w w7 := Fr.trans F6 f7; have P7 := P6.fr f7 (by simp) (by simp); have n7 : w7.heap.size ≠ bf := (by have := P7.lt.2; omega); clear P6 F6 f7)
        | (go_at_call 29; (with_reducible refine (pcountc 0 (1 + n % 64) 0 0 HC.out S3.out P8).mono ?_); rintro e w9 ⟨rfl, f9⟩; have F9 : Fr [] w w9 := Fr.trans F8 f9; clear P8 F8 f9))
      go_ret
      exact ⟨rfl, F9⟩

theorem full_walk (n c : Int) (wn : (Lit.int .u8 n).wf = true) (wc : (Lit.int .u8 c).wf = true) (w : World) :
    Calls Try.prog 12 #[.int .u8 n, .int .u8 c] w fun e w' => e = .returned (.bool true) ∧ Fr [] w w' :=
  full_any n c (u8_bounds wn).1 (u8_bounds wn).2 (u8_bounds wc).1 (u8_bounds wc).2 w

end Go.Proofs.Ytmhdnafdbgbmfaa
