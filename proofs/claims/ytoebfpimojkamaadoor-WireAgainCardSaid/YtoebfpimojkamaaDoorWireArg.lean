/- How slices of whole numbers come in, as arguments and inside structs. -/
import Derived.Test.YtoebfpimojkamaaDoorWireGl
import Derived.Test.YtoebfpimojkamaaDoorSlice
namespace Go.Proofs.YtoebfpimojkamaaDoor
open Go.ChangeShapes Go.WideShapes Go.ChangeAt Go.RowKit Go.Deep

section
variable {H : Type} {enc : TypeId × Value → H} {P : Program} {w : World} {base : Nat} {spare : Nat → Bool} {held : Bool}
/-- A slice of whole numbers that is read reads as numbers. -/
theorem slice_nums {t e : TypeId} {k : IntKind} {m : Int} {v : Value} {fuel : Nat} {x : DataW H × List MemPlace} (ht : P.underlying t = some (.slice e)) (he : P.underlying e = some (.int k)) (hl : leavesT P 1 e = some [e]) (hm : ∀ n, (Lit.int k n).wf = true → 0 ≤ n ∧ n ≤ m)
    (hf : DataW.trod enc P w base spare held fuel t [v] = some x) :
    ∃ (A : Option Addr) (vs : List Int) (cap : Nat), v = .slice A vs.length cap ∧ vs.length ≤ maxLen ∧ vs.length ≤ cap ∧ NAt w k m w.heap.size A vs := by
  rcases open_slice ht hf with ⟨h0, _⟩ | ⟨a, len, cap, q, n, D, Pl, hcs, hb, hlc, hcm, hmq, hx, hi⟩
  · simp at h0
    subst h0
    exact ⟨none, [], 0, rfl, by simp, by simp, NAt.nil _ _ _ _ _⟩
  · simp at hcs
    subst hcs
    have hlm : len ≤ q := by rw [hmq]; split <;> omega
    have leaf : ∀ i, i < len → ∃ z : Int, w.cell? (a.add i) = some (.int k z) ∧ 0 ≤ z ∧ z ≤ m := by
      intro i hil
      obtain ⟨cs', hc, htr⟩ := hi i (by omega)
      obtain ⟨g1, g2⟩ := leavesT_ok 1 e [e] _ _ _ hl htr
      obtain ⟨_, hcl, hat⟩ := World.cells?_some hc
      have h1 : P.cellsOf e = 1 := by rw [← hcl, g1]; rfl
      obtain ⟨z, hz, hw⟩ := (g2 0 e rfl).int he
      rw [← hat 0 (by omega), Go.Deep.add_add, h1, Nat.mul_one, Nat.add_zero] at hz
      exact ⟨z, hz, hm z hw⟩
    rcases Nat.eq_zero_or_pos len with h0 | h0
    · subst h0
      exact ⟨some a, [], cap, rfl, by simp, by simp, NAt.nil _ _ _ _ _⟩
    obtain ⟨v0, hv0, _⟩ := leaf 0 h0
    obtain ⟨b, off, sp⟩ := a
    have e0 : (⟨b, off, sp⟩ : Addr).add 0 = ⟨b, off, sp⟩ := by simp [Addr.add]
    rw [e0] at hv0
    cases sp with
    | some s =>
      unfold World.cell? at hv0
      split at hv0 <;> simp at hv0
    | none =>
      have hblt : b < w.heap.size := by
        unfold World.cell? at hv0
        split at hv0
        · rename_i hh; exact lt_of_heap hh
        · cases hv0
      have cell : ∀ i, ∃ z : Int, i < len → w.cell? ⟨b, off + i, none⟩ = some (.int k z) ∧ 0 ≤ z ∧ z ≤ m := by
        intro i
        by_cases hil : i < len
        · obtain ⟨z, hz, hw⟩ := leaf i hil
          rw [show (⟨b, off, none⟩ : Addr).add i = ⟨b, off + i, none⟩ by unfold Addr.add; split <;> simp_all] at hz
          exact ⟨z, fun _ => ⟨hz, hw⟩⟩
        · exact ⟨0, fun h => absurd h hil⟩
      have hlen : ((List.range len).map fun i => Classical.choose (cell i)).length = len := by simp
      refine ⟨some ⟨b, off, none⟩, (List.range len).map fun i => Classical.choose (cell i), cap, by rw [hlen], by rw [hlen]; omega, by rw [hlen]; exact hlc, Or.inr ⟨b, off, rfl, hblt, fun i z hz => ?_⟩⟩
      simp only [List.getElem?_map, Option.map_eq_some_iff] at hz
      obtain ⟨j, hj, rfl⟩ := hz
      have hjl := (List.getElem?_eq_some_iff.1 hj).1
      simp at hjl
      simp [hjl] at hj
      subst hj
      exact Classical.choose_spec (cell _) hjl
theorem LeafAt.nums {t e : TypeId} {k : IntKind} {m : Int} {c : Option Value} (h : LeafAt enc P w base spare held t c) (ht : P.underlying t = some (.slice e)) (he : P.underlying e = some (.int k)) (hl : leavesT P 1 e = some [e]) (hm : ∀ n, (Lit.int k n).wf = true → 0 ≤ n ∧ n ≤ m) :
    ∃ (A : Option Addr) (vs : List Int) (cap : Nat), c = some (.slice A vs.length cap) ∧ vs.length ≤ maxLen ∧ vs.length ≤ cap ∧ NAt w k m w.heap.size A vs := by
  obtain ⟨v, fuel, y, rfl, hy⟩ := h
  obtain ⟨A, vs, cap, rfl, h1, h2, h3⟩ := slice_nums ht he hl hm hy
  exact ⟨A, vs, cap, rfl, h1, h2, h3⟩
theorem arg_nums {r : Reach} {b0 : Nat} {t e : TypeId} {k : IntKind} {m : Int} {v : Value} {d : DataW H} {p : List MemPlace} (ht : P.underlying t = some (.slice e)) (he : P.underlying e = some (.int k)) (hl : leavesT P 1 e = some [e]) (hm : ∀ n, (Lit.int k n).wf = true → 0 ≤ n ∧ n ≤ m)
    (hv : Value.okWide P w r b0 t v) (h : DataW.Trod enc P w base spare held t v d p) :
    ∃ (A : Option Addr) (vs : List Int) (cap : Nat), v = .slice A vs.length cap ∧ vs.length ≤ maxLen ∧ vs.length ≤ cap ∧ NAt w k m w.heap.size A vs := by
  obtain ⟨A, len, cap, rfl⟩ := okWide_slice ht hv
  obtain ⟨fuel, hf⟩ := h
  exact slice_nums ht he hl hm (by simpa [Value.cells] using hf)
end

end Go.Proofs.YtoebfpimojkamaaDoor
