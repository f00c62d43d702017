/- Rows of whole numbers, slices.Sort on them, and index.Keys. -/
import Derived.Test.YtobekkgaildbgaaIdx4
import Derived.Test.YtobekkgaildbgaaSortI
import Derived.Shelf.Sort.Plain
import Derived.Shelf.Slices.In.SortNone
namespace Go.Proofs.Ytobekkgaildbgaa
open Go.RowKit

def eN : El Int := ⟨3, 38, 1, fun n => [.int .i64 n]⟩
theorem eNok : eN.Ok where
  len _ := rfl
  one x u hu := by simp [eN] at hu; subst hu; rfl
  und := Try.underlying38
  pos := by decide
  info := by
    obtain ⟨ti, h1, h2, h3, h4⟩ := info_parts (P := Try.prog) (e := 3) (z := .int .i64 0) (size := 1) (bytes := 8) (by kernel_rfl)
    exact ⟨ti, _, h1, h2, h3, by omega, rfl⟩
theorem eN_cs : ∀ l : List Int, eN.cs l = l.map (Value.int .i64)
  | [] => rfl
  | x :: r => by simp [El.cs, eN_cs r]; simp [eN]
def leI (x y : Int) : Bool := decide (x ≤ y)

open Go.Sort in
set_option maxHeartbeats 1000000 in
/-- slices.Sort on a row of the call's own. -/
theorem isort (base : Nat) (v : Value) (xs : List Int) (hl : xs.length ≤ 100000) (w : World) (H : eN.Own w base v xs) :
    Calls Try.prog 54 #[v] w fun e w' => e = .returned (.tuple #[]) ∧ eN.Own w' base v (xs.mergeSort leI) ∧ Fr v.ownBlock.toList w w' := by
  have hlm : (xs.mergeSort leI).length = xs.length := (List.mergeSort_perm xs leI).length_eq
  obtain ⟨h1, ⟨rfl, hn⟩ | ⟨g, cap, cur, rfl, hg, hb, hc, hm, hz, ht⟩⟩ := H
  · have hx : xs = [] := List.length_eq_zero_iff.1 hn
    subst hx
    refine (Any.slices_Sort_int_none Try.sortI none 0 w).mono ?_
    rintro e w' ⟨rfl, rfl⟩
    refine ⟨rfl, ?_, Fr.refl _ _⟩
    have : ([] : List Int).mergeSort leI = [] := by simp
    rw [this]; exact ⟨rfl, Or.inl ⟨rfl, rfl⟩⟩
  · have hrow : w.heap[g]? = some (.cells cur 3 (0, 0)) := hb
    have hz1 : cur.size = cap := by rw [hz]; show cap * 1 = cap; omega
    have hH : Holds (Value.int .i64) w g 0 xs.toArray := by
      intro j hj
      have hj' : j < xs.length := by simpa using hj
      refine ⟨?_, blk_frozen hrow _⟩
      rw [blk_cell hrow, Nat.zero_add]
      have := congrArg (fun l => l[j]?) ht
      simp only [List.getElem?_take] at this
      rw [if_pos (by show j < xs.length * 1; omega), eN_cs] at this
      simp [hj'] at this ⊢
      exact this
    have hcon := Any.slices_Sort_int Try.sortI g 0 cap xs w hH (lt_of_heap hrow) (by omega)
    refine Calls.mono hcon ?_
    rintro e w' ⟨rfl, n, os, rfl⟩
    change _ ∧ eN.Own (grow (putRow (Value.int .i64) (Sort.ahead w n) g 0 (xs.mergeSort leI).toArray) os) base _ (xs.mergeSort leI) ∧ Fr _ w (grow (putRow (Value.int .i64) (Sort.ahead w n) g 0 (xs.mergeSort leI).toArray) os)
    generalize xs.mergeSort leI = ys at *
    refine ⟨rfl, ⟨eNok.cs_len ys, Or.inr ⟨g, cap, putCells (Value.int .i64) 0 ys.toArray cur, by rw [hlm], hg, ?_, by omega, hm, by simp [putCells, hz], ?_⟩⟩, ?_⟩
    · show (grow (putRow (Value.int .i64) (Sort.ahead w n) g 0 ys.toArray) os).heap[g]? = _
      rw [heap_grow_old _ _ (by simp [putRow, mapBlock, Sort.ahead]; exact lt_of_heap hrow)]
      simp [putRow, mapBlock, Sort.ahead, Array.getElem?_modify, hrow, onCells]
      rfl
    · rw [eN_cs]
      apply List.ext_getElem?
      intro t
      rw [List.getElem?_take]
      show (if t < ys.length * 1 then _ else _) = _
      by_cases hlt : t < ys.length
      · rw [if_pos (by omega)]
        simp [putCells, hlt, show t < cur.size by omega]
      · rw [if_neg (by omega), List.getElem?_eq_none (by simp; omega)]
    · refine ⟨rfl, rfl, rfl, by simp [putRow, mapBlock, Sort.ahead], ?_⟩
      intro k hk hn
      show (grow (putRow (Value.int .i64) (Sort.ahead w n) g 0 ys.toArray) os).heap[k]? = _
      rw [heap_grow_old _ _ (by simp [putRow, mapBlock, Sort.ahead]; exact hk)]
      have : g ≠ k := fun e => hn (by simp [Value.ownBlock, e])
      simp [putRow, mapBlock, Sort.ahead, Array.getElem?_modify, this]

def rawL (T : Tb) : List Int := (T.filter fun p => decide (0 < p.1)).map fun p => p.1 - 1
/-- All keys, rising. -/
def keysL (T : Tb) : List Int := (rawL T).mergeSort leI
theorem rawL_app (T U : Tb) : rawL (T ++ U) = rawL T ++ rawL U := by simp [rawL]
theorem rawL_len (T : Tb) : (rawL T).length ≤ T.length := by unfold rawL; rw [List.length_map]; exact List.length_filter_le _ _
theorem rawL_one (p : Int × Int) : rawL [p] = if 0 < p.1 then [p.1 - 1] else [] := by
  by_cases h : 0 < p.1 <;> simp [rawL, h]

section
variable {x b N : Nat} {T : Tb} {c : Int} {w : World}
set_option maxRecDepth 100000 in
set_option maxHeartbeats 4000000 in
theorem idx_keys (hl : T.length = N) (hN : N ≤ 256) (hw : ∀ y, y < N → 0 ≤ (gt T y).1 ∧ (gt T y).1 ≤ 1048577) (H : IdxAt w x b N T c) :
    Calls Try.prog 26 #[.pointer (some ⟨x, 0, none⟩)] w fun e w' => (∃ A cap, e = .returned (.slice A (keysL T).length cap) ∧ eN.Own w' w.heap.size (.slice A (keysL T).length cap) (keysL T)) ∧ Fr [] w w' := by
  have hlk : (keysL T).length ≤ 256 := by
    unfold keysL; rw [(List.mergeSort_perm _ leI).length_eq]; have := rawL_len T; omega
  have HLK := Lib.hid hlk
  have HKE : Hid (keysL T = (rawL T).mergeSort leI) := rfl
  generalize keysL T = KL at *
  have n1' : (N : Int) ≤ 256 := by omega
  have HX := H.hx
  have HH := Lib.hid H
  have HW := Lib.hid hw
  have HLN := Lib.hid hl
  have hlt := H.lt
  apply blk_use HX; intro hg1 hc1 hz1 _ _ _ _ _
  clear H hw hl hlk
  go_enter Try.func26, Try.ntmps26
  go_wp2_with fail
  go_loopw [3, 5, 11] (fun u _ v wr => ∃ i : Nat, v = .int .i64 i ∧ i ≤ N ∧ eN.Own wr w.heap.size u (rawL (T.take i)) ∧ Fr [] w wr) (fun _ _ v _ => N - (intOf v).toNat)
  case atStart => exact ⟨0, rfl, by omega, El.Own.nil _ _ _, Fr.refl _ _⟩
  case round =>
    clear hg1 hc1 hz1
    obtain ⟨i, rfl, i1, hO, F⟩ := hrel
    have HO := Lib.hid hO
    have hlo : ((rawL (T.take i)).length : Int) ≤ 256 := by have := rawL_len (T.take i); have := List.length_take_le i T; have := HLN.out; omega
    have hsz := F.size
    clear hO
    by_cases hi : i < N
    · obtain ⟨c0, c1⟩ := HH.out.cell (i := i) (by have := HLN.out; omega)
      obtain ⟨y0, y1⟩ := HW.out i hi
      have d0 := (F.cell (off := i * 2) hlt.2).trans c0
      have d1 := (F.cell (off := i * 2 + 1) hlt.2).trans c1
      have hD : Hid (rawL (T.take (i + 1)) = rawL (T.take i) ++ if 0 < (gt T i).1 then [(gt T i).1 - 1] else []) := by
        unfold Hid
        have e : T[i]'(by have := HLN.out; omega) = gt T i := by unfold gt; rw [List.getD_eq_getElem?_getD, List.getElem?_eq_getElem (by have := HLN.out; omega)]; rfl
        rw [List.take_succ_eq_append_getElem (by have := HLN.out; omega), rawL_app, e, rawL_one]
      generalize gt T i = g at *
      obtain ⟨g1, g2⟩ := g
      simp only at d0 d1 y0 y1
      have hbx : b ≠ wr.heap.size := by have := hlt.2; omega
      have hbs : b < wr.heap.size := by have := hlt.2; omega
      clear c0 c1
      by_cases hp : 0 < g1
      · have hw9 : wrap64 (g1 - 1) = g1 - 1 := by unfold wrap64; omega
        go_wp2_with (at_builtin; go_must (refine wpList_appN eNok _ rfl (.tmp 18) (.tmp 22) rfl rfl w.heap.size _ _ rfl (HO.out.fr (S := []) (by repeat' (first | (with_reducible exact Fr.refl _ _) | (with_reducible assumption) | (with_reducible refine Fr.drew ?_) | (with_reducible refine Fr.drewN ?_ _) | (with_reducible refine Fr.alloc ?_ _) | ((with_reducible refine Fr.setNew ?_ _ ?_ _); rotate_left; (focus (first | (with_reducible assumption) | exact Nat.le_of_lt (by with_reducible assumption) | (focus (simp +arith; done)) | exact Nat.le_trans (by with_reducible assumption) (by simp +arith; done) | (simp; done)))) | ((with_reducible refine Fr.setOld ?_ _ ?_ _); rotate_left; (focus (simp; done))))) (by simp)) _ [g1 - 1] rfl (((El.Own.lit (base := 0) [g1 - 1] (by (apply heap_eq_of; (focus (repeat (first | (with_reducible assumption) | ((with_reducible refine heap_alloc_at ?_ _); first | (with_reducible rfl) | (focus (simp; done))) | (with_reducible apply heap_alloc_old) | ((with_reducible apply heap_set_other); (case hne => (first | (with_reducible assumption) | exact Nat.ne_of_lt (by with_reducible assumption) | exact Nat.ne_of_gt (by with_reducible assumption) | (focus (simp +arith; done)) | (simp; done)))) | (with_reducible apply heap_set_eq) | (with_reducible apply heap_drew_of) | (with_reducible apply heap_drewN_of)))); (focus (first | (simp; done) | rfl)))) (by omega) rfl eNok (by simp [maxLen]) 1 rfl).sl (M := []) (by simp))) (by simp; omega) (by simp; omega) ?_; intro A8 c8 w8 O8 F8; have F9 : Fr [] w w8 := F8.after (S := []) (by repeat' (first | (with_reducible exact Fr.refl _ _) | (with_reducible assumption) | (with_reducible refine Fr.drew ?_) | (with_reducible refine Fr.drewN ?_ _) | (with_reducible refine Fr.alloc ?_ _) | ((with_reducible refine Fr.setNew ?_ _ ?_ _); rotate_left; (focus (first | (with_reducible assumption) | exact Nat.le_of_lt (by with_reducible assumption) | (focus (simp +arith; done)) | exact Nat.le_trans (by with_reducible assumption) (by simp +arith; done) | (simp; done)))) | ((with_reducible refine Fr.setOld ?_ _ ?_ _); rotate_left; (focus (simp; done))))) (Nat.le_refl _) (by simp); have HO8 := Lib.hid O8; clear O8 F8))
        go_roundw
        case rel => exact ⟨i + 1, by go_num, by omega, by have e := hD.out; rw [if_pos hp] at e; rw [e]; exact HO8.out, F9⟩
        case measure => simp [intOf]; omega
      · have hp0 : g1 = 0 := by omega
        go_wp2_with fail
        go_roundw
        case rel => exact ⟨i + 1, by go_num, by omega, by have e := hD.out; rw [if_neg hp, List.append_nil] at e; rw [e]; exact HO.out.fr (S := []) (by repeat' (first | (with_reducible exact Fr.refl _ _) | (with_reducible assumption) | (with_reducible refine Fr.drew ?_) | (with_reducible refine Fr.drewN ?_ _) | (with_reducible refine Fr.alloc ?_ _) | ((with_reducible refine Fr.setNew ?_ _ ?_ _); rotate_left; (focus (first | (with_reducible assumption) | exact Nat.le_of_lt (by with_reducible assumption) | (focus (simp +arith; done)) | exact Nat.le_trans (by with_reducible assumption) (by simp +arith; done) | (simp; done)))) | ((with_reducible refine Fr.setOld ?_ _ ?_ _); rotate_left; (focus (simp; done))))) (by simp), (by repeat' (first | (with_reducible exact Fr.refl _ _) | (with_reducible assumption) | (with_reducible refine Fr.drew ?_) | (with_reducible refine Fr.drewN ?_ _) | (with_reducible refine Fr.alloc ?_ _) | ((with_reducible refine Fr.setNew ?_ _ ?_ _); rotate_left; (focus (first | (with_reducible assumption) | exact Nat.le_of_lt (by with_reducible assumption) | (focus (simp +arith; done)) | exact Nat.le_trans (by with_reducible assumption) (by simp +arith; done) | (simp; done)))) | ((with_reducible refine Fr.setOld ?_ _ ?_ _); rotate_left; (focus (simp; done)))))⟩
        case measure => simp [intOf]; omega
    · obtain rfl : i = N := by omega
      have hO2 : Hid (eN.Own wr w.heap.size u3 (rawL T)) := by unfold Hid; have := HO.out; rw [List.take_of_length_le (by have := HLN.out; omega)] at this; exact this
      have hlr : (rawL T).length ≤ 100000 := by have := rawL_len T; have := HLN.out; omega
      clear HO hlo
      go_wp2_with fail
      with_reducible refine (isort w.heap.size _ (rawL T) hlr _ hO2.out).mono ?_
      rintro e w5 ⟨rfl, O5, f5⟩
      go_wp2_with fail
      go_ret
      rw [← HKE.out] at O5
      have hge := hO2.out.ge
      obtain ⟨A5, c5, rfl⟩ := O5.shape
      exact ⟨⟨A5, c5, rfl, O5⟩, F.trans' f5 (fun x hx => Or.inr (hge x hx))⟩
end
end Go.Proofs.Ytobekkgaildbgaa
