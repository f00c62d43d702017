/- What is known in a region 'x, y, e := f(..)' whose order is open: two variables are made, and laid. -/
import Derived.Test.YtoapobhdpgcmbaaReg4
namespace Go.Proofs.Ytoapobhdpgcmbaa
open Go.RowKit

/-- A variable that is made at place k, and laid at place s. -/
def BoxAt (base k s : Nat) (T : TypeId) (X0 X : Array Value) (β : Nat → Nat) (b : Nat → Bool) (w : World) : Prop := b k = true → base ≤ β k ∧ w.heap[β k]? = some (.cells (bif b s then X else X0) T)

structure CutS (base : Nat) (R : World → Prop) (kx sx ky sy : Nat) (TX TY : TypeId) (X0 X Y0 Y : Array Value) (β : Nat → Nat) (b : Nat → Bool) (w : World) : Prop where
  r : R w
  x : BoxAt base kx sx TX X0 X β b w
  y : BoxAt base ky sy TY Y0 Y β b w
  ne : b kx = true → b ky = true → β kx ≠ β ky
  sz : base ≤ w.heap.size
  dx : b sx = true → b kx = true
  dy : b sy = true → b ky = true

section
variable {base kx sx ky sy : Nat} {R : World → Prop} {TX TY : TypeId} {X0 X Y0 Y : Array Value} {β : Nat → Nat} {b : Nat → Bool} {w w' : World}

theorem CutS.cong {β' : Nat → Nat} (hβ : ∀ j, b j = true → β j = β' j) (h : CutS base R kx sx ky sy TX TY X0 X Y0 Y β b w) : CutS base R kx sx ky sy TX TY X0 X Y0 Y β' b w :=
  ⟨h.r, fun hk => by rw [← hβ kx hk]; exact h.x hk, fun hk => by rw [← hβ ky hk]; exact h.y hk, fun h1 h2 => by rw [← hβ kx h1, ← hβ ky h2]; exact h.ne h1 h2, h.sz, h.dx, h.dy⟩

theorem updD_ne {k j : Nat} (h : j ≠ k) : updD b k j = b j := by simp [updD, h]
theorem updD_eq (k : Nat) : updD b k k = true := by simp [updD]
theorem updB_ne {k j n : Nat} (h : j ≠ k) : updB β k n j = β j := by simp [updB, h]
theorem updB_eq (k n : Nat) : updB β k n k = n := by simp [updB]

theorem CutS.plain (hR : ∀ w w' S, (∀ x ∈ S, base ≤ x) → R w → Fr S w w' → R w') (h : CutS base R kx sx ky sy TX TY X0 X Y0 Y β b w) {k : Nat} (hk : k ≠ kx ∧ k ≠ sx ∧ k ≠ ky ∧ k ≠ sy) (f : Fr [] w w') : CutS base R kx sx ky sy TX TY X0 X Y0 Y β (updD b k) w' := by
  obtain ⟨h1, h2, h3, h4⟩ := hk
  refine ⟨hR w w' [] (by simp) h.r f, ?_, ?_, ?_, Nat.le_trans h.sz f.size, ?_, ?_⟩
  · intro hb
    rw [updD_ne h1.symm] at hb
    rw [updD_ne h2.symm]
    obtain ⟨q1, q2⟩ := h.x hb
    exact ⟨q1, f.heap q2 (by simp)⟩
  · intro hb
    rw [updD_ne h3.symm] at hb
    rw [updD_ne h4.symm]
    obtain ⟨q1, q2⟩ := h.y hb
    exact ⟨q1, f.heap q2 (by simp)⟩
  · rw [updD_ne h1.symm, updD_ne h3.symm]; exact h.ne
  · rw [updD_ne h1.symm, updD_ne h2.symm]; exact h.dx
  · rw [updD_ne h3.symm, updD_ne h4.symm]; exact h.dy

theorem CutS.allocx (hR : ∀ w w' S, (∀ x ∈ S, base ≤ x) → R w → Fr S w w' → R w') (hd : kx ≠ ky ∧ kx ≠ sx ∧ kx ≠ sy) (h : CutS base R kx sx ky sy TX TY X0 X Y0 Y β b w) (hb : b kx = false) :
    CutS base R kx sx ky sy TX TY X0 X Y0 Y (updB β kx w.heap.size) (updD b kx) (w.alloc (.cells X0 TX)) := by
  obtain ⟨h1, h2, h3⟩ := hd
  have f : Fr [] w (w.alloc (.cells X0 TX)) := (Fr.refl _ _).alloc _
  have hs : b sx = false := by
    cases hq : b sx with
    | false => rfl
    | true => rw [h.dx hq] at hb; cases hb
  refine ⟨hR w _ [] (by simp) h.r f, ?_, ?_, ?_, Nat.le_trans h.sz f.size, ?_, ?_⟩
  · intro _
    rw [updB_eq, updD_ne h2.symm, hs]
    exact ⟨h.sz, heap_alloc_new _ _⟩
  · intro hq
    rw [updD_ne h1.symm] at hq
    rw [updB_ne h1.symm, updD_ne h3.symm]
    obtain ⟨q1, q2⟩ := h.y hq
    exact ⟨q1, f.heap q2 (by simp)⟩
  · intro _ hq
    rw [updD_ne h1.symm] at hq
    rw [updB_eq, updB_ne h1.symm]
    have := lt_of_heap (h.y hq).2
    omega
  · intro _; exact updD_eq _
  · rw [updD_ne h1.symm, updD_ne h3.symm]; exact h.dy

theorem CutS.allocy (hR : ∀ w w' S, (∀ x ∈ S, base ≤ x) → R w → Fr S w w' → R w') (hd : ky ≠ kx ∧ ky ≠ sx ∧ ky ≠ sy) (h : CutS base R kx sx ky sy TX TY X0 X Y0 Y β b w) (hb : b ky = false) :
    CutS base R kx sx ky sy TX TY X0 X Y0 Y (updB β ky w.heap.size) (updD b ky) (w.alloc (.cells Y0 TY)) := by
  obtain ⟨h1, h2, h3⟩ := hd
  have f : Fr [] w (w.alloc (.cells Y0 TY)) := (Fr.refl _ _).alloc _
  have hs : b sy = false := by
    cases hq : b sy with
    | false => rfl
    | true => rw [h.dy hq] at hb; cases hb
  refine ⟨hR w _ [] (by simp) h.r f, ?_, ?_, ?_, Nat.le_trans h.sz f.size, ?_, ?_⟩
  · intro hq
    rw [updD_ne h1.symm] at hq
    rw [updB_ne h1.symm, updD_ne h2.symm]
    obtain ⟨q1, q2⟩ := h.x hq
    exact ⟨q1, f.heap q2 (by simp)⟩
  · intro _
    rw [updB_eq, updD_ne h3.symm, hs]
    exact ⟨h.sz, heap_alloc_new _ _⟩
  · intro hq _
    rw [updD_ne h1.symm] at hq
    rw [updB_eq, updB_ne h1.symm]
    have := lt_of_heap (h.x hq).2
    omega
  · rw [updD_ne h1.symm, updD_ne h2.symm]; exact h.dx
  · intro _; exact updD_eq _

theorem CutS.storex (hR : ∀ w w' S, (∀ x ∈ S, base ≤ x) → R w → Fr S w w' → R w') (hd : sx ≠ kx ∧ sx ≠ ky ∧ sx ≠ sy) (h : CutS base R kx sx ky sy TX TY X0 X Y0 Y β b w) (hk : b kx = true) (hw : w'.heap[β kx]? = some (.cells X TX)) (f : Fr [β kx] w w') :
    CutS base R kx sx ky sy TX TY X0 X Y0 Y β (updD b sx) w' := by
  obtain ⟨h1, h2, h3⟩ := hd
  obtain ⟨q1, q2⟩ := h.x hk
  refine ⟨hR w w' [β kx] (by simpa using q1) h.r f, ?_, ?_, ?_, Nat.le_trans h.sz f.size, ?_, ?_⟩
  · intro _
    rw [updD_eq]
    exact ⟨q1, hw⟩
  · intro hq
    rw [updD_ne h2.symm] at hq
    rw [updD_ne h3.symm]
    obtain ⟨q3, q4⟩ := h.y hq
    exact ⟨q3, f.heap q4 (by simpa using (h.ne hk hq).symm)⟩
  · rw [updD_ne h1.symm, updD_ne h2.symm]; exact h.ne
  · intro _; rw [updD_ne h1.symm]; exact hk
  · rw [updD_ne h2.symm, updD_ne h3.symm]; exact h.dy

theorem CutS.storey (hR : ∀ w w' S, (∀ x ∈ S, base ≤ x) → R w → Fr S w w' → R w') (hd : sy ≠ kx ∧ sy ≠ ky ∧ sy ≠ sx) (h : CutS base R kx sx ky sy TX TY X0 X Y0 Y β b w) (hk : b ky = true) (hw : w'.heap[β ky]? = some (.cells Y TY)) (f : Fr [β ky] w w') :
    CutS base R kx sx ky sy TX TY X0 X Y0 Y β (updD b sy) w' := by
  obtain ⟨h1, h2, h3⟩ := hd
  obtain ⟨q1, q2⟩ := h.y hk
  refine ⟨hR w w' [β ky] (by simpa using q1) h.r f, ?_, ?_, ?_, Nat.le_trans h.sz f.size, ?_, ?_⟩
  · intro hq
    rw [updD_ne h1.symm] at hq
    rw [updD_ne h3.symm]
    obtain ⟨q3, q4⟩ := h.x hq
    exact ⟨q3, f.heap q4 (by simpa using h.ne hq hk)⟩
  · intro _
    rw [updD_eq]
    exact ⟨q1, hw⟩
  · rw [updD_ne h1.symm, updD_ne h2.symm]; exact h.ne
  · rw [updD_ne h1.symm, updD_ne h3.symm]; exact h.dx
  · intro _; rw [updD_ne h2.symm]; exact hk
end
end Go.Proofs.Ytoapobhdpgcmbaa
