/- The reference of layer 10: Same. -/
import Derived.Test.YtoapobhdpgcmbaaStrM
namespace Go.Proofs.Ytoapobhdpgcmbaa
open Go.RowKit Go.Lib

set_option maxHeartbeats 2000000 in
theorem rs_sameR (va vb : Value) (xs : List Str) (hl : xs.length ≤ 100000) (Ma Mb : List Nat) (w : World) (ha : eS.Sl Ma w va xs) (hb : eS.Sl Mb w vb xs) :
    Calls Try.prog 22 #[va, vb] w fun e w' => e = .returned (.bool true) ∧ Fr [] w w' := by
  obtain ⟨A, ca, rfl, _, hA⟩ := ha
  obtain ⟨B, cb, rfl, _, hB⟩ := hb
  have HA := Lib.hid hA
  have HB := Lib.hid hB
  have hl' : (xs.length : Int) ≤ 100000 := by omega
  have heq := eq_str
  clear hA hB
  go_enter Try.func22, Try.ntmps22
  go_wp2_with fail
  go_loopw [5] (fun v wr => ∃ i : Nat, v = .int .i64 i ∧ i ≤ xs.length ∧ Fr [] w wr) (fun v _ => xs.length - (intOf v).toNat)
  case atStart => exact ⟨0, rfl, by omega, Fr.refl _ _⟩
  case round =>
    obtain ⟨i, rfl, i1, F⟩ := hrel
    by_cases hlt : i < xs.length
    · rcases HA.out with rfl | ⟨b, off, rfl, hb, _, hcl⟩
      · simp at hlt
      rcases HB.out with rfl | ⟨b2, off2, rfl, hb2, _, hcl2⟩
      · simp at hlt
      obtain ⟨c0, c1, c2, c3, c4, c5⟩ := esat hcl (List.getElem?_eq_getElem hlt)
      obtain ⟨e0, e1, e2, e3, e4, e5⟩ := esat hcl2 (List.getElem?_eq_getElem hlt)
      generalize xs[i] = x at *
      have a0 := (F.cell (off := off + i * 6) hb).trans c0
      have a1 := (F.cell (off := off + i * 6 + 1) hb).trans c1
      have a2 := (F.cell (off := off + i * 6 + 2) hb).trans c2
      have a3 := (F.cell (off := off + i * 6 + 3) hb).trans c3
      have a4 := (F.cell (off := off + i * 6 + 4) hb).trans c4
      have a5 := (F.cell (off := off + i * 6 + 5) hb).trans c5
      have d0 := (F.cell (off := off2 + i * 6) hb2).trans e0
      have d1 := (F.cell (off := off2 + i * 6 + 1) hb2).trans e1
      have d2 := (F.cell (off := off2 + i * 6 + 2) hb2).trans e2
      have d3 := (F.cell (off := off2 + i * 6 + 3) hb2).trans e3
      have d4 := (F.cell (off := off2 + i * 6 + 4) hb2).trans e4
      have d5 := (F.cell (off := off2 + i * 6 + 5) hb2).trans e5
      clear hcl hcl2 c0 c1 c2 c3 c4 c5 e0 e1 e2 e3 e4 e5
      go_wp2_with fail
      go_region
      go_wp2_with fail
      go_roundw
      case rel => exact ⟨i + 1, by go_num, by omega, (by repeat' (first | (with_reducible exact Fr.refl _ _) | (with_reducible assumption) | (with_reducible refine Fr.drew ?_) | (with_reducible refine Fr.drewN ?_ _) | (with_reducible refine Fr.alloc ?_ _) | ((with_reducible refine Fr.setNew ?_ _ ?_ _); rotate_left; (focus (first | (with_reducible assumption) | exact Nat.le_of_lt (by with_reducible assumption) | (focus (simp +arith; done)) | exact Nat.le_trans (by with_reducible assumption) (by simp +arith; done) | (simp; done)))) | ((with_reducible refine Fr.setOld ?_ _ ?_ _); rotate_left; (focus (simp; done)))))⟩
      case measure => simp [intOf]; omega
    · have : i = xs.length := by omega
      subst this
      go_wp2
      go_ret
      exact ⟨rfl, F⟩
theorem Sl_turn {α : Type} {E : El α} {M M' S : List Nat} {w w' : World} {v : Value} {xs : List α} (h : E.Sl M w v xs) (f : Fr S w w') (hS : ∀ x ∈ S, x ∈ M ∨ w.heap.size ≤ x) (hM : ∀ x ∈ M', x ∈ M ∨ w.heap.size ≤ x) : E.Sl M' w' v xs := by
  obtain ⟨A, cap, rfl, hc, h0 | ⟨b, off, rfl, hb, hMb, hcl⟩⟩ := h
  · exact ⟨A, cap, rfl, hc, Or.inl h0⟩
  · refine ⟨_, cap, rfl, hc, Or.inr ⟨b, off, rfl, Nat.lt_of_lt_of_le hb f.size, fun hx => (hM b hx).elim hMb (fun q => by omega), fun j u hj => ?_⟩⟩
    have hbS : b ∉ S := fun hx => (hS b hx).elim hMb (fun h => by omega)
    rw [← hcl j u hj]; simp only [World.cell?, f.block b hb hbS]
theorem KeepM.low {B : Nat} {M : List Nat} {w w' : World} (h : KeepM B M w w') {k : Nat} {o : Obj} (hk : w.heap[k]? = some o) (hM : k < B) : w'.heap[k]? = some o := by
  obtain ⟨N, F, hN⟩ := h
  exact F.heap hk (fun q => by have := (hN k q).1; omega)
theorem KeepM.mono {B : Nat} {M M' : List Nat} {w w' : World} (h : KeepM B M w w') (hM : ∀ x ∈ M', x ∈ M) : KeepM B M' w w' := by
  obtain ⟨N, F, hN⟩ := h
  exact ⟨N, F, fun x hx => ⟨(hN x hx).1, fun q => (hN x hx).2 (hM x q)⟩⟩
theorem KeepM.after {B : Nat} {M : List Nat} {w0 w w' : World} (h : KeepM B M w w') (f : Fr [] w0 w) : KeepM B M w0 w' := by
  obtain ⟨N, F, hN⟩ := h
  exact ⟨N, (f.mono (by simp)).trans F, hN⟩
theorem KeepM.then {B : Nat} {M : List Nat} {w0 w w' : World} (h : KeepM B M w0 w) (f : Fr [] w w') : KeepM B M w0 w' := by
  obtain ⟨N, F, hN⟩ := h
  exact ⟨N, F.trans (f.mono (by simp)), hN⟩
theorem tuneS_no {late : Bool} {id : Int} {s : TS} (h : idxS id s.xs = -1) : tuneS late id s = s := by
  have : ¬ 0 ≤ idxS id s.xs := by omega
  cases late <;> simp only [tuneS, tunLate, tunWaste, if_neg this, Bool.false_eq_true, if_true, if_false]
end Go.Proofs.Ytoapobhdpgcmbaa
