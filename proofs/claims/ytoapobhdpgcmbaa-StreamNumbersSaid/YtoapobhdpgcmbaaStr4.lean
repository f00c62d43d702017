/- Package stream: slices.Clone and slices.IndexFunc at streams; the tracker in memory; find, begin, tune. -/
import Derived.Test.YtoapobhdpgcmbaaStr2
import Derived.Test.YtoapobhdpgcmbaaStr3
import Derived.Test.YtoapobhdpgcmbaaTapUse
namespace Go.Proofs.Ytoapobhdpgcmbaa
open Go.RowKit Go.Lib

set_option maxRecDepth 100000 in
set_option maxHeartbeats 4000000 in
theorem sclone (v : Value) (xs : List Str) (hl : xs.length ≤ 1000) (M : List Nat) (w : World) (H : eS.Sl M w v xs) :
    Calls Try.prog 60 #[v] w fun e w' => (∃ v', e = .returned v' ∧ eS.Own w' w.heap.size v' xs) ∧ Fr [] w w' := by
  obtain ⟨A, c, rfl, hcap, hc⟩ := H
  cases A with
  | none =>
    rcases hc with hz | ⟨b, off, hA, _⟩
    · subst hz
      have hn := run_eql_slice_nil (P := Try.prog)
      go_enter Try.func60, Try.ntmps60
      go_wp2
      go_ret
      exact ⟨⟨_, rfl, El.Own.nil _ _ _⟩, (by repeat' (first | (with_reducible exact Fr.refl _ _) | (with_reducible assumption) | (with_reducible refine Fr.drew ?_) | (with_reducible refine Fr.drewN ?_ _) | (with_reducible refine Fr.alloc ?_ _) | ((with_reducible refine Fr.setNew ?_ _ ?_ _); rotate_left; (focus (first | (with_reducible assumption) | exact Nat.le_of_lt (by with_reducible assumption) | (focus (simp +arith; done)) | exact Nat.le_trans (by with_reducible assumption) (by simp +arith; done) | (simp; done)))) | ((with_reducible refine Fr.setOld ?_ _ ?_ _); rotate_left; (focus (simp; done)))))⟩
    · cases hA
  | some A =>
    have hn : ∀ w, (binOp .eql 44 (.slice (some A) xs.length c) (.slice none 0 0)).run Try.prog w = .ok (.bool false) w := fun w => run_eql_slice_nil w _ _ (some A) xs.length c 0 0 Try.underlying44
    have HS : Hid (eS.Sl M w (.slice (some A) xs.length c) xs) := ⟨some A, c, rfl, hcap, hc⟩
    clear hc
    have hl' : (xs.length : Int) ≤ 1000 := by omega
    go_enter Try.func60, Try.ntmps60
    go_wp2_with (at_builtin; go_must (refine wpList_appG eSok _ rfl (.tmp 5) (.tmp 6) rfl rfl w.heap.size (.slice (some ⟨w.heap.size, 0, none⟩) 0 0) [] rfl (El.Own.lit [] (by (apply heap_eq_of; (focus (repeat (first | (with_reducible assumption) | ((with_reducible refine heap_alloc_at ?_ _); first | (with_reducible rfl) | (focus (simp; done))) | (with_reducible apply heap_alloc_old) | ((with_reducible apply heap_set_other); (case hne => (first | (with_reducible assumption) | exact Nat.ne_of_lt (by with_reducible assumption) | exact Nat.ne_of_gt (by with_reducible assumption) | (focus (simp +arith; done)) | (simp; done)))) | (with_reducible apply heap_set_eq) | (with_reducible apply heap_drew_of) | (with_reducible apply heap_drewN_of)))); (focus (first | (simp; done) | rfl)))) (Nat.le_refl _) rfl eSok (by simp [maxLen]) 0 rfl) _ xs rfl (HS.out.fr (S := []) (by repeat' (first | (with_reducible exact Fr.refl _ _) | (with_reducible assumption) | (with_reducible refine Fr.drew ?_) | (with_reducible refine Fr.drewN ?_ _) | (with_reducible refine Fr.alloc ?_ _) | ((with_reducible refine Fr.setNew ?_ _ ?_ _); rotate_left; (focus (first | (with_reducible assumption) | exact Nat.le_of_lt (by with_reducible assumption) | (focus (simp +arith; done)) | exact Nat.le_trans (by with_reducible assumption) (by simp +arith; done) | (simp; done)))) | ((with_reducible refine Fr.setOld ?_ _ ?_ _); rotate_left; (focus (simp; done))))) (by simp)) (by simp; omega) (by simp) ?_; intro v8 w8 O8 G8 U8; have F8 : Fr [] w w8 := Fr.trans' (by repeat' (first | (with_reducible exact Fr.refl _ _) | (with_reducible assumption) | (with_reducible refine Fr.drew ?_) | (with_reducible refine Fr.drewN ?_ _) | (with_reducible refine Fr.alloc ?_ _) | ((with_reducible refine Fr.setNew ?_ _ ?_ _); rotate_left; (focus (first | (with_reducible assumption) | exact Nat.le_of_lt (by with_reducible assumption) | (focus (simp +arith; done)) | exact Nat.le_trans (by with_reducible assumption) (by simp +arith; done) | (simp; done)))) | ((with_reducible refine Fr.setOld ?_ _ ?_ _); rotate_left; (focus (simp; done))))) G8 (by simp [Value.ownBlock]); have HO8 := Lib.hid O8; clear O8 G8 U8))
    go_ret
    exact ⟨⟨_, rfl, HO8.out⟩, F8⟩
/-- The place of the stream of a number; -1: there is none. -/
def idxS (id : Int) (xs : List Str) : Int := match xs.findIdx? (fun s => decide (s.id = id)) with
  | some i => i
  | none => -1
theorem idxS_no {id : Int} {xs : List Str} (h : ∀ (j : Nat) (y : Str), xs[j]? = some y → y.id ≠ id) : idxS id xs = -1 := by
  have : xs.findIdx? (fun s => decide (s.id = id)) = none := by
    rw [List.findIdx?_eq_none_iff]
    intro x hx
    obtain ⟨j, hj, e⟩ := List.getElem_of_mem hx
    have := h j x (by rw [List.getElem?_eq_getElem hj, e])
    simpa using this
  unfold idxS; rw [this]
theorem idxS_at {id : Int} {xs : List Str} {i : Nat} {x : Str} (hx : xs[i]? = some x) (he : x.id = id) (h : ∀ (j : Nat) (y : Str), j < i → xs[j]? = some y → y.id ≠ id) : idxS id xs = i := by
  have : xs.findIdx? (fun s => decide (s.id = id)) = some i := by
    obtain ⟨hi, e⟩ := List.getElem?_eq_some_iff.1 hx
    rw [List.findIdx?_eq_some_iff_getElem]
    refine ⟨hi, by simp [e, he], fun j hj => ?_⟩
    have := h j xs[j] hj (List.getElem?_eq_getElem (by omega))
    simpa using this
  unfold idxS; rw [this]
set_option maxRecDepth 100000 in
set_option maxHeartbeats 4000000 in
theorem sindex (v : Value) (xs : List Str) (hl : xs.length ≤ 100000) (M : List Nat) (p : Nat) (id : Int) (w : World) (hp : w.heap[p]? = some (.cells #[.int .i64 id] 3)) (H : eS.Sl M w v xs) :
    Calls Try.prog 79 #[v, .func (.func 80) #[] #[.pointer (some ⟨p, 0, none⟩)]] w fun e w' => e = .returned (.int .i64 (idxS id xs)) ∧ Fr [] w w' := by
  obtain ⟨A, c, rfl, hcap, hc⟩ := H
  have HC := Lib.hid hc
  have HP := Lib.hid hp
  have hl' : (xs.length : Int) ≤ 100000 := by omega
  clear hc hp
  go_enter Try.func79, Try.ntmps79
  go_wp2_with fail
  go_loopw [8] (fun u wr => ∃ i : Nat, u = .int .i64 i ∧ i ≤ xs.length ∧ (∀ j y, j < i → xs[j]? = some y → y.id ≠ id) ∧ Fr [] w wr) (fun u _ => xs.length - (intOf u).toNat)
  case atStart => exact ⟨0, rfl, by omega, fun j y h => by omega, Fr.refl _ _⟩
  case round =>
    obtain ⟨i, rfl, i1, hno, G⟩ := hrel
    have HNO := Lib.hid hno
    clear hno
    by_cases hlt : i < xs.length
    · rcases HC.out with hz | ⟨b9, o9, rfl, hb9, hM9, hcl⟩
      · rw [hz] at hlt; simp at hlt
      have hx : xs[i]? = some xs[i] := List.getElem?_eq_getElem hlt
      obtain ⟨c0, c1, c2, c3, c4, c5⟩ := esat hcl hx
      have d0 := (G.cell (off := o9 + i * 6) hb9).trans c0
      have d1 := (G.cell (off := o9 + i * 6 + 1) hb9).trans c1
      have d2 := (G.cell (off := o9 + i * 6 + 2) hb9).trans c2
      have d3 := (G.cell (off := o9 + i * 6 + 3) hb9).trans c3
      have d4 := (G.cell (off := o9 + i * 6 + 4) hb9).trans c4
      have d5 := (G.cell (off := o9 + i * 6 + 5) hb9).trans c5
      have HXX := Lib.hid hx
      have hil : (i : Int) < (xs.length : Int) := by omega
      generalize xs[i] = X at *
      clear c0 c1 c2 c3 c4 c5 hcl hx
      have HPG := Lib.hid (G.heap HP.out (by simp))
      by_cases hm : X.id = id
      · have hmd : decide (X.id = id) = true := by simp [hm]
        have HM := Lib.hid hm
        clear hm
        go_wp2_with fail
        with_reducible refine (stune1 X p id _ HPG.out).mono ?_
        rintro e w5 ⟨rfl, f5⟩
        go_wp2_with fail
        go_ret
        exact ⟨ret_int (idxS_at HXX.out HM.out HNO.out).symm, G.trans f5⟩
      · have hmd : decide (X.id = id) = false := by simp [hm]
        have HM := Lib.hid hm
        clear hm
        go_wp2_with fail
        with_reducible refine (stune1 X p id _ HPG.out).mono ?_
        rintro e w5 ⟨rfl, f5⟩
        go_wp2_with fail
        go_roundw
        case rel => exact ⟨i + 1, by go_num, by omega, fun j y hj hy => by
          by_cases e : j = i
          · subst e; rw [HXX.out] at hy; injection hy with hy; subst hy; exact HM.out
          · exact HNO.out j y (by omega) hy, G.trans f5⟩
        case measure => simp [intOf]; omega
    · obtain rfl : i = xs.length := by omega
      go_wp2_with fail
      go_ret
      exact ⟨ret_int (idxS_no (fun j y hy => HNO.out j y (List.getElem?_eq_some_iff.1 hy).1 hy)).symm, G⟩
end Go.Proofs.Ytoapobhdpgcmbaa
