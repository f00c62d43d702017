/- Rows of whole numbers: int and uint64. -/
import Derived.Test.YtobekkgaildbgaaGen
import Derived.Test.YtobekkgaildbgaaSlice
import Derived.Lib.SliceRun
namespace Go.Proofs.Ytobekkgaildbgaa
open Go.RowKit Go.Lib

def eNi : El Int := ⟨3, 38, 1, fun n => [.int .i64 n]⟩
theorem eNiok : eNi.Ok where
  len _ := rfl
  one x u hu := by simp [eNi] at hu; subst hu; rfl
  und := Try.underlying38
  pos := by decide
  info := by
    obtain ⟨ti, h1, h2, h3, h4⟩ := info_parts (P := Try.prog) (e := 3) (z := .int .i64 0) (size := 1) (bytes := 8) (by kernel_rfl)
    exact ⟨ti, _, h1, h2, h3, by omega, rfl⟩
theorem eNi_cs : ∀ l : List Int, eNi.cs l = l.map (Value.int .i64)
  | [] => rfl
  | x :: r => by simp [El.cs, eNi_cs r]; simp [eNi]
theorem eNi_at {w : World} {b off i : Nat} {xs : List Int} {x : Int} (h : ∀ j u, (eNi.cs xs)[j]? = some u → w.cell? ⟨b, off + j, none⟩ = some u) (hi : xs[i]? = some x) : w.cell? ⟨b, off + i, none⟩ = some (.int .i64 x) := by
  refine h i _ ?_
  rw [eNi_cs]; simp [hi]
def eU : El Int := ⟨52, 63, 1, fun n => [.int .u64 n]⟩
theorem eUok : eU.Ok where
  len _ := rfl
  one x u hu := by simp [eU] at hu; subst hu; rfl
  und := Try.underlying63
  pos := by decide
  info := by
    obtain ⟨ti, h1, h2, h3, h4⟩ := info_parts (P := Try.prog) (e := 52) (z := .int .u64 0) (size := 1) (bytes := 8) (by kernel_rfl)
    exact ⟨ti, _, h1, h2, h3, by omega, rfl⟩
theorem eU_cs : ∀ l : List Int, eU.cs l = l.map (Value.int .u64)
  | [] => rfl
  | x :: r => by simp [El.cs, eU_cs r]; simp [eU]
theorem eU_at {w : World} {b off i : Nat} {xs : List Int} {x : Int} (h : ∀ j u, (eU.cs xs)[j]? = some u → w.cell? ⟨b, off + j, none⟩ = some u) (hi : xs[i]? = some x) : w.cell? ⟨b, off + i, none⟩ = some (.int .u64 x) := by
  refine h i _ ?_
  rw [eU_cs]; simp [hi]
/-- The place of the first one; -1: there is none. -/
def idxI (y : Int) (xs : List Int) : Int := match xs.findIdx? (fun x => decide (x = y)) with
  | some i => i
  | none => -1
theorem idxI_hit {y : Int} {xs : List Int} {i : Nat} (hi : xs[i]? = some y) (hn : ∀ j z, j < i → xs[j]? = some z → z ≠ y) : idxI y xs = i := by
  have hl := (List.getElem?_eq_some_iff.1 hi).1
  have : xs.findIdx? (fun x => decide (x = y)) = some i := by
    rw [List.findIdx?_eq_some_iff_getElem]
    refine ⟨hl, by simpa using (List.getElem?_eq_some_iff.1 hi).2, fun j hj => ?_⟩
    have := hn j _ hj (List.getElem?_eq_getElem (by omega))
    simpa using this
  unfold idxI; rw [this]
theorem idxI_no {y : Int} {xs : List Int} (hn : ∀ (j : Nat) z, xs[j]? = some z → z ≠ y) : idxI y xs = -1 := by
  have : xs.findIdx? (fun x => decide (x = y)) = none := by
    rw [List.findIdx?_eq_none_iff]
    intro x hx
    obtain ⟨j, hj, e⟩ := List.getElem_of_mem hx
    have := hn j x (by rw [List.getElem?_eq_getElem hj, e])
    simpa using this
  unfold idxI; rw [this]
theorem idxI_mem {y : Int} {xs : List Int} : 0 ≤ idxI y xs ↔ y ∈ xs := by
  unfold idxI
  cases h : xs.findIdx? (fun x => decide (x = y)) with
  | none =>
    rw [List.findIdx?_eq_none_iff] at h
    constructor
    · intro h; simp at h
    · intro hy; have := h y hy; simp at this
  | some i =>
    rw [List.findIdx?_eq_some_iff_getElem] at h
    obtain ⟨hl, h1, _⟩ := h
    simp only [decide_eq_true_eq] at h1
    constructor
    · intro _; rw [← h1]; exact List.getElem_mem _
    · intro _; show (0 : Int) ≤ ((i : Nat) : Int); omega
set_option maxHeartbeats 2000000 in
theorem sindexI (va : Value) (xs : List Int) (y : Int) (hl : xs.length ≤ 100000) (M : List Nat) (w : World) (ha : eNi.Sl M w va xs) :
    Calls Try.prog 72 #[va, .int .i64 y] w fun e w' => e = .returned (.int .i64 (idxI y xs)) ∧ Fr [] w w' := by
  obtain ⟨A, ca, rfl, _, hA⟩ := ha
  have HA := Lib.hid hA
  have hl' : (xs.length : Int) ≤ 100000 := by omega
  clear hA
  go_enter Try.func72, Try.ntmps72
  go_wp2_with fail
  go_loopw [8] (fun v wr => ∃ i : Nat, v = .int .i64 i ∧ i ≤ xs.length ∧ (∀ j z, j < i → xs[j]? = some z → z ≠ y) ∧ Fr [] w wr) (fun v _ => xs.length - (intOf v).toNat)
  case atStart => exact ⟨0, rfl, by omega, fun j z h => by omega, (by repeat' (first | (with_reducible exact Fr.refl _ _) | (with_reducible assumption) | (with_reducible refine Fr.drew ?_) | (with_reducible refine Fr.drewN ?_ _) | (with_reducible refine Fr.alloc ?_ _) | ((with_reducible refine Fr.setNew ?_ _ ?_ _); rotate_left; (focus (first | (with_reducible assumption) | exact Nat.le_of_lt (by with_reducible assumption) | (focus (simp +arith; done)) | exact Nat.le_trans (by with_reducible assumption) (by simp +arith; done) | (simp; done)))) | ((with_reducible refine Fr.setOld ?_ _ ?_ _); rotate_left; (focus (simp; done)))))⟩
  case round =>
    obtain ⟨i, rfl, i1, hno, F⟩ := hrel
    have HNO := Lib.hid hno
    clear hno
    by_cases hlt : i < xs.length
    · rcases HA.out with rfl | ⟨b, off, rfl, hb, _, hcl⟩
      · simp at hlt
      have hx : xs[i]? = some xs[i] := List.getElem?_eq_getElem hlt
      have c0 := (F.cell (off := off + i) hb).trans (eNi_at hcl hx)
      generalize xs[i] = x at *
      have HX := Lib.hid hx
      clear hcl hx
      by_cases hy : y = x
      · subst hy
        go_wp2_with fail
        go_ret
        exact ⟨ret_int (by rw [idxI_hit HX.out HNO.out]), F⟩
      · have hy2 : (y == x) = false := by simpa using hy
        have HY := Lib.hid hy
        clear hy
        go_wp2_with fail
        go_roundw
        case rel => exact ⟨i + 1, by go_num, by omega, fun j z hj hz => by
          rcases Nat.lt_succ_iff_lt_or_eq.1 hj with q | rfl
          · exact HNO.out j z q hz
          · rw [HX.out] at hz; injection hz with hz; subst hz; exact fun e => HY.out e.symm, (by repeat' (first | (with_reducible exact Fr.refl _ _) | (with_reducible assumption) | (with_reducible refine Fr.drew ?_) | (with_reducible refine Fr.drewN ?_ _) | (with_reducible refine Fr.alloc ?_ _) | ((with_reducible refine Fr.setNew ?_ _ ?_ _); rotate_left; (focus (first | (with_reducible assumption) | exact Nat.le_of_lt (by with_reducible assumption) | (focus (simp +arith; done)) | exact Nat.le_trans (by with_reducible assumption) (by simp +arith; done) | (simp; done)))) | ((with_reducible refine Fr.setOld ?_ _ ?_ _); rotate_left; (focus (simp; done)))))⟩
        case measure => simp [intOf]; omega
    · have : i = xs.length := by omega
      subst this
      go_wp2
      go_ret
      exact ⟨ret_int (by rw [idxI_no fun j z hz => HNO.out j z (List.getElem?_eq_some_iff.1 hz).1 hz]), F⟩
set_option maxHeartbeats 2000000 in
theorem scontI (va : Value) (xs : List Int) (y : Int) (hl : xs.length ≤ 100000) (M : List Nat) (w : World) (ha : eNi.Sl M w va xs) :
    Calls Try.prog 86 #[va, .int .i64 y] w fun e w' => e = .returned (.bool (decide (y ∈ xs))) ∧ Fr [] w w' := by
  have HC := Lib.hid (sindexI va xs y hl M w ha)
  have hb : -1 ≤ idxI y xs := by
    unfold idxI; split <;> omega
  have HM : Hid (decide (0 ≤ idxI y xs) = decide (y ∈ xs)) := by unfold Hid; rw [decide_eq_decide]; exact idxI_mem
  generalize idxI y xs = n at *
  go_enter Try.func86, Try.ntmps86
  go_wp2_with fail
  with_reducible refine HC.out.mono ?_
  rintro e w1 ⟨rfl, f1⟩
  go_wp2_with fail
  go_ret
  exact ⟨ret_bool HM.out, f1⟩
set_option maxRecDepth 100000 in
set_option maxHeartbeats 4000000 in
theorem scloneU (v : Value) (xs : List Int) (hl : xs.length ≤ 1000) (M : List Nat) (w : World) (H : eU.Sl M w v xs) :
    Calls Try.prog 87 #[v] w fun e w' => (∃ v', e = .returned v' ∧ eU.Own w' w.heap.size v' xs) ∧ Fr [] w w' := by
  obtain ⟨A, c, rfl, hcap, hc⟩ := H
  cases A with
  | none =>
    rcases hc with hz | ⟨b, off, hA, _⟩
    · subst hz
      have hn := run_eql_slice_nil (P := Try.prog)
      go_enter Try.func87, Try.ntmps87
      go_wp2
      go_ret
      exact ⟨⟨_, rfl, El.Own.nil _ _ _⟩, (by repeat' (first | (with_reducible exact Fr.refl _ _) | (with_reducible assumption) | (with_reducible refine Fr.drew ?_) | (with_reducible refine Fr.drewN ?_ _) | (with_reducible refine Fr.alloc ?_ _) | ((with_reducible refine Fr.setNew ?_ _ ?_ _); rotate_left; (focus (first | (with_reducible assumption) | exact Nat.le_of_lt (by with_reducible assumption) | (focus (simp +arith; done)) | exact Nat.le_trans (by with_reducible assumption) (by simp +arith; done) | (simp; done)))) | ((with_reducible refine Fr.setOld ?_ _ ?_ _); rotate_left; (focus (simp; done)))))⟩
    · cases hA
  | some A =>
    have hn : ∀ w, (binOp .eql 63 (.slice (some A) xs.length c) (.slice none 0 0)).run Try.prog w = .ok (.bool false) w := fun w => run_eql_slice_nil w _ _ (some A) xs.length c 0 0 Try.underlying63
    have HS : Hid (eU.Sl M w (.slice (some A) xs.length c) xs) := ⟨some A, c, rfl, hcap, hc⟩
    clear hc
    have hl' : (xs.length : Int) ≤ 1000 := by omega
    go_enter Try.func87, Try.ntmps87
    go_wp2_with (at_builtin; go_must (refine wpList_appG eUok _ rfl (.tmp 5) (.tmp 6) rfl rfl w.heap.size (.slice (some ⟨w.heap.size, 0, none⟩) 0 0) [] rfl (El.Own.lit [] (by (apply heap_eq_of; (focus (repeat (first | (with_reducible assumption) | ((with_reducible refine heap_alloc_at ?_ _); first | (with_reducible rfl) | (focus (simp; done))) | (with_reducible apply heap_alloc_old) | ((with_reducible apply heap_set_other); (case hne => (first | (with_reducible assumption) | exact Nat.ne_of_lt (by with_reducible assumption) | exact Nat.ne_of_gt (by with_reducible assumption) | (focus (simp +arith; done)) | (simp; done)))) | (with_reducible apply heap_set_eq) | (with_reducible apply heap_drew_of) | (with_reducible apply heap_drewN_of)))); (focus (first | (simp; done) | rfl)))) (Nat.le_refl _) rfl eUok (by simp [maxLen]) 0 rfl) _ xs rfl (HS.out.fr (S := []) (by repeat' (first | (with_reducible exact Fr.refl _ _) | (with_reducible assumption) | (with_reducible refine Fr.drew ?_) | (with_reducible refine Fr.drewN ?_ _) | (with_reducible refine Fr.alloc ?_ _) | ((with_reducible refine Fr.setNew ?_ _ ?_ _); rotate_left; (focus (first | (with_reducible assumption) | exact Nat.le_of_lt (by with_reducible assumption) | (focus (simp +arith; done)) | exact Nat.le_trans (by with_reducible assumption) (by simp +arith; done) | (simp; done)))) | ((with_reducible refine Fr.setOld ?_ _ ?_ _); rotate_left; (focus (simp; done))))) (by simp)) (by simp; omega) (by simp) ?_; intro v8 w8 O8 G8 U8; have F8 : Fr [] w w8 := Fr.trans' (by repeat' (first | (with_reducible exact Fr.refl _ _) | (with_reducible assumption) | (with_reducible refine Fr.drew ?_) | (with_reducible refine Fr.drewN ?_ _) | (with_reducible refine Fr.alloc ?_ _) | ((with_reducible refine Fr.setNew ?_ _ ?_ _); rotate_left; (focus (first | (with_reducible assumption) | exact Nat.le_of_lt (by with_reducible assumption) | (focus (simp +arith; done)) | exact Nat.le_trans (by with_reducible assumption) (by simp +arith; done) | (simp; done)))) | ((with_reducible refine Fr.setOld ?_ _ ?_ _); rotate_left; (focus (simp; done))))) G8 (by simp [Value.ownBlock]); have HO8 := Lib.hid O8; clear O8 G8 U8))
    go_ret
    exact ⟨⟨_, rfl, HO8.out⟩, F8⟩
set_option maxHeartbeats 2000000 in
theorem rints (va vb : Value) (xs : List Int) (hl : xs.length ≤ 100000) (Ma Mb : List Nat) (w : World) (ha : eNi.Sl Ma w va xs) (hb : eNi.Sl Mb w vb xs) :
    Calls Try.prog 34 #[va, vb] w fun e w' => e = .returned (.bool true) ∧ Fr [] w w' := by
  obtain ⟨A, ca, rfl, _, hA⟩ := ha
  obtain ⟨B, cb, rfl, _, hB⟩ := hb
  have HA := Lib.hid hA
  have HB := Lib.hid hB
  have hl' : (xs.length : Int) ≤ 100000 := by omega
  clear hA hB
  go_enter Try.func34, Try.ntmps34
  go_wp2_with fail
  go_loopw [5] (fun v wr => ∃ i : Nat, v = .int .i64 i ∧ i ≤ xs.length ∧ Fr [] w wr) (fun v _ => xs.length - (intOf v).toNat)
  case atStart => exact ⟨0, rfl, by omega, Fr.refl _ _⟩
  case round =>
    obtain ⟨i, rfl, i1, F⟩ := hrel
    by_cases hlt : i < xs.length
    · rcases HA.out with rfl | ⟨b, off, rfl, hb, _, hcl⟩
      · simp at hlt
      rcases HB.out with rfl | ⟨b2, off2, rfl, hb2, _, hcl2⟩
      · simp at hlt
      have hx : xs[i]? = some xs[i] := List.getElem?_eq_getElem hlt
      have a0 := (F.cell (off := off + i) hb).trans (eNi_at hcl hx)
      have d0 := (F.cell (off := off2 + i) hb2).trans (eNi_at hcl2 hx)
      generalize xs[i] = x at *
      clear hcl hcl2 hx
      go_wp2_with fail
      go_region
      go_wp2_with fail
      go_roundw
      case rel => exact ⟨i + 1, by go_num, by omega, (by repeat' (first | (with_reducible exact Fr.refl _ _) | (with_reducible assumption) | (with_reducible refine Fr.drew ?_) | (with_reducible refine Fr.drewN ?_ _) | (with_reducible refine Fr.alloc ?_ _) | ((with_reducible refine Fr.setNew ?_ _ ?_ _); rotate_left; (focus (first | (with_reducible assumption) | exact Nat.le_of_lt (by with_reducible assumption) | (focus (simp +arith; done)) | exact Nat.le_trans (by with_reducible assumption) (by simp +arith; done) | (simp; done)))) | ((with_reducible refine Fr.setOld ?_ _ ?_ _); rotate_left; (focus (simp; done)))))⟩
      case measure => simp [intOf]; omega
    · have : i = xs.length := by omega
      subst this
      go_wp2
      go_ret
      exact ⟨rfl, F⟩
end Go.Proofs.Ytobekkgaildbgaa
