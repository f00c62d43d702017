/- How an argument that is a slice of structs reads, cell by cell: plain lemmas for the rows of this seat. -/
import Derived.Test.YtoapobhdpgcmbaaGlue
import Derived.Deep.Slices
namespace Go.Proofs.Ytoapobhdpgcmbaa
open Go.ChangeShapes Go.WideShapes Go.ChangeAt Go.RowKit Go.Deep

section
variable {H : Type} {enc : TypeId × Value → H} {P : Program} {w : World} {base : Nat} {spare : Nat → Bool} {held : Bool}

/-- Each cell of each element of a slice. -/
theorem slice_leaves {r : Reach} {b0 : Nat} {t e : TypeId} {v : Value} {d : DataW H} {p : List MemPlace} {l : List TypeId} (f : Nat) (ht : P.underlying t = some (.slice e)) (hl : leavesT P f e = some l) (hpos : 0 < l.length)
    (hv : Value.okWide P w r b0 t v) (h : DataW.Trod enc P w base spare held t v d p) :
    ∃ (A : Option Addr) (len cap : Nat), v = .slice A len cap ∧ len ≤ maxLen ∧ (len = 0 ∨ ∃ b off, A = some ⟨b, off, none⟩ ∧ b < w.heap.size ∧
      ∀ i, i < len → ∀ j t', l[j]? = some t' → LeafAt enc P w base spare held t' (w.cell? ⟨b, off + (i * l.length + j), none⟩)) := by
  obtain ⟨A, len, cap, rfl⟩ := okWide_slice ht hv
  obtain ⟨fuel, hf⟩ := h
  rcases open_slice ht hf with ⟨h0, _⟩ | ⟨a, len', cap', m, n, D, Pl, hcs, hb, hlc, hcm, hm, hx, hi⟩
  · simp [Value.cells] at h0
    obtain ⟨rfl, rfl, rfl⟩ := h0
    exact ⟨none, 0, 0, rfl, by simp [maxLen], .inl rfl⟩
  · simp [Value.cells] at hcs
    obtain ⟨rfl, rfl, rfl⟩ := hcs
    refine ⟨some a, len, cap, rfl, by omega, ?_⟩
    rcases Nat.eq_zero_or_pos len with h0 | h0
    · exact .inl h0
    · right
      have hlm : len ≤ m := by rw [hm]; split <;> omega
      have leaf : ∀ i, i < len → ∀ j t', l[j]? = some t' → LeafAt enc P w base spare held t' (w.cell? (a.add (i * l.length + j))) := by
        intro i hil j t' hj
        obtain ⟨cs', hc, htr⟩ := hi i (by omega)
        obtain ⟨g1, g2⟩ := leavesT_ok f e l _ _ _ hl htr
        obtain ⟨_, hcl, hat⟩ := World.cells?_some hc
        have hjl : j < l.length := by
          rcases Nat.lt_or_ge j l.length with h | h
          · exact h
          · rw [List.getElem?_eq_none h] at hj; cases hj
        have := g2 j t' hj
        rw [← hat j (by omega), Go.Deep.add_add, ← hcl, g1] at this
        exact this
      obtain ⟨v0, _, _, hv0, _⟩ := leaf 0 h0 0 l[0] (by simp [hpos])
      obtain ⟨b, off, sp⟩ := a
      have e0 : (⟨b, off, sp⟩ : Addr).add (0 * l.length + 0) = ⟨b, off, sp⟩ := by simp [Addr.add]
      rw [e0] at hv0
      cases sp with
      | some s =>
        unfold World.cell? at hv0
        split at hv0 <;> simp at hv0
      | none =>
        refine ⟨b, off, rfl, ?_, fun i hil j t' hj => ?_⟩
        · unfold World.cell? at hv0
          split at hv0
          · rename_i hh; exact lt_of_heap hh
          · cases hv0
        · have := leaf i hil j t' hj
          rwa [show (⟨b, off, none⟩ : Addr).add (i * l.length + j) = ⟨b, off + (i * l.length + j), none⟩ by unfold Addr.add; split <;> simp_all] at this

/-- Are the leaves whole numbers of these kinds? -/
def kindsOk (P : Program) : List TypeId → List IntKind → Bool
  | [], [] => true
  | t :: l, k :: r => (match P.underlying t with | some (.int k') => k' == k | _ => false) && kindsOk P l r
  | _, _ => false
theorem kindsOk_len : ∀ (l : List TypeId) (ks : List IntKind), kindsOk P l ks = true → l.length = ks.length
  | [], [], _ => rfl
  | t :: l, k :: r, h => by
    simp only [kindsOk, Bool.and_eq_true] at h
    simp [kindsOk_len l r h.2]
  | [], _ :: _, h => by cases h
  | _ :: _, [], h => by cases h
theorem kindsOk_at : ∀ (l : List TypeId) (ks : List IntKind), kindsOk P l ks = true → ∀ (j : Nat) (k : IntKind), ks[j]? = some k → ∃ t, l[j]? = some t ∧ P.underlying t = some (.int k)
  | [], [], _ => fun j k h => by simp at h
  | t :: l, k :: r, h => by
    simp only [kindsOk, Bool.and_eq_true] at h
    intro j k' hj
    cases j with
    | zero =>
      simp at hj; subst hj
      refine ⟨t, rfl, ?_⟩
      have h1 := h.1
      split at h1
      · rename_i k2 hk; rw [beq_iff_eq] at h1; rw [hk, h1]
      · cases h1
    | succ j => simpa using kindsOk_at l r h.2 j k' (by simpa using hj)
  | [], _ :: _, h => by cases h
  | _ :: _, [], h => by cases h

/-- The cells of a slice of structs of whole numbers: F i j is the j-th number of the i-th. -/
def IntsAt (w : World) (ks : List IntKind) (A : Option Addr) (len : Nat) : Prop :=
  ∃ (b off : Nat) (F : Nat → Nat → Int), (0 < len → A = some ⟨b, off, none⟩ ∧ b < w.heap.size) ∧ ∀ i, i < len → ∀ j k, ks[j]? = some k → w.cell? ⟨b, off + i * ks.length + j, none⟩ = some (.int k (F i j)) ∧ (Lit.int k (F i j)).wf = true

theorem slice_ints {r : Reach} {b0 : Nat} {t e : TypeId} {v : Value} {d : DataW H} {p : List MemPlace} {l : List TypeId} (ks : List IntKind) (f : Nat) (ht : P.underlying t = some (.slice e)) (hl : leavesT P f e = some l) (hk : kindsOk P l ks = true) (hpos : 0 < ks.length)
    (hv : Value.okWide P w r b0 t v) (h : DataW.Trod enc P w base spare held t v d p) :
    ∃ (A : Option Addr) (len cap : Nat), v = .slice A len cap ∧ len ≤ maxLen ∧ IntsAt w ks A len := by
  have hlen := kindsOk_len l ks hk
  obtain ⟨A, len, cap, hv', hm, hs⟩ := slice_leaves f ht hl (by omega) hv h
  refine ⟨A, len, cap, hv', hm, ?_⟩
  rcases hs with h0 | ⟨b, off, hA, hb, hc⟩
  · exact ⟨0, 0, fun _ _ => 0, fun h => by omega, fun i hi => by omega⟩
  · have : ∀ i j, ∃ n : Int, i < len → ∀ k, ks[j]? = some k → w.cell? ⟨b, off + i * ks.length + j, none⟩ = some (.int k n) ∧ (Lit.int k n).wf = true := by
      intro i j
      by_cases hi : i < len
      · cases hk2 : ks[j]? with
        | none => exact ⟨0, fun _ k h => by cases h⟩
        | some k =>
          obtain ⟨t', ht', hu⟩ := kindsOk_at l ks hk j k hk2
          obtain ⟨n, hn, hw⟩ := (hc i hi j t' ht').int hu
          refine ⟨n, fun _ k' hk' => ?_⟩
          cases hk'
          rw [hlen, ← Nat.add_assoc] at hn
          exact ⟨hn, hw⟩
      · exact ⟨0, fun h => absurd h hi⟩
    exact ⟨b, off, fun i j => Classical.choose (this i j), fun _ => ⟨hA, hb⟩, fun i hi j k hk2 => Classical.choose_spec (this i j) hi k hk2⟩
end

/-- Cells of blocks that were there read as before. -/
theorem Fr.cell {w w' : World} (h : Fr [] w w') {b off : Nat} (hb : b < w.heap.size) : w'.cell? ⟨b, off, none⟩ = w.cell? ⟨b, off, none⟩ := by
  simp only [World.cell?, h.block b hb (by simp)]
end Go.Proofs.Ytoapobhdpgcmbaa
