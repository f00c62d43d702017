/- tap: the table's state and the reference's, in plain lists. -/
import Derived.Test.YtoapobhdpgcmbaaTapRef2
namespace Go.Proofs.Ytoapobhdpgcmbaa
open Go.RowKit Go.Sort Go.Lib

theorem mem_keys_ag {L n : Int} {E : List (Int × Int)} : n ∈ (E.map (ag L)).map Prod.fst ↔ n ∈ E.map Prod.fst := by
  rw [List.map_map]; rfl
theorem cutk_ag {L n : Int} {E : List (Int × Int)} : cutk n (E.map (ag L)) = (cutk n E).map (ag L) := by
  unfold cutk; rw [List.filter_map]; rfl
theorem young_ag {life L : Int} {E : List (Int × Int)} : youngR life (E.map (ag L)) = (E.filter (young life (L + 1))).map (ag (L + 1)) := by
  unfold youngR
  rw [List.filter_map, List.map_map]
  have e1 : ((fun p : Int × Int => decide (p.2 + 1 ≤ life)) ∘ ag L) = young life (L + 1) := by
    funext p; simp only [Function.comp, ag, young]; congr 1; simp only [eq_iff_iff]; omega
  rw [e1]
  apply List.map_congr_left
  intro p _
  simp only [Function.comp, ag]
  congr 1; omega
theorem cutk_none {n : Int} {E : List (Int × Int)} (h : n ∉ E.map Prod.fst) : cutk n E = E := by
  unfold cutk
  rw [List.filter_eq_self]
  intro p hp
  have : p.1 ≠ n := fun e => h (by rw [← e]; exact List.mem_map_of_mem hp)
  simpa using this
theorem look_rel {size life f c L : Int} {E : List (Int × Int)} (h : ¬ (f < 0 ∨ 1048576 < f ∨ c < 1 ∨ 8 < c)) (hl : (E.length : Int) ≤ size) :
    lookR size life f c (E.map (ag L)) = (lookE size life f c (L, E)).2.map (ag (lookE size life f c (L, E)).1) ∧ lookRB life f (E.map (ag L)) = lookB life f c (L, E) ∧ (lookE size life f c (L, E)).1 = L + 1 := by
  unfold lookR lookE lookRB lookB
  rw [if_neg h, if_neg h, young_ag]
  simp only [mem_keys_ag, cutk_ag, List.length_map]
  have hl2 : (((E.filter (young life (L + 1))).length : Nat) : Int) ≤ size := by
    have := List.length_filter_le (young life (L + 1)) E; omega
  generalize E.filter (young life (L + 1)) = E1 at *
  refine ⟨?_, trivial, ?_⟩
  · by_cases h1 : f ∈ E1.map Prod.fst
    · simp only [if_pos h1]
    · simp only [if_neg h1]
      by_cases h2 : f + c ∈ E1.map Prod.fst
      · simp only [if_pos h2, if_pos (Or.inl h2 : f + c ∈ E1.map Prod.fst ∨ (E1.length : Int) ≠ size), List.map_cons, ag, Int.sub_self]
      · by_cases h3 : (E1.length : Int) = size
        · rw [if_neg h2, if_pos (by omega), if_neg (by rintro (q | q); exact h2 q; exact q h3)]
          have : f + c ∉ E1.dropLast.map Prod.fst := fun q => h2 ((List.dropLast_sublist _).map _ |>.subset q)
          simp only [List.map_cons, cutk_none this, ag, Int.sub_self, List.map_dropLast]
        · rw [if_neg h2, if_neg (by omega), if_pos (Or.inr h3)]
          simp only [List.map_cons, cutk_none h2, ag, Int.sub_self]
  · split
    · rfl
    · split <;> rfl
theorem lookE_le (size life f c L : Int) (E : List (Int × Int)) : (lookE size life f c (L, E)).1 ≤ L + 1 := by
  by_cases h : f < 0 ∨ 1048576 < f ∨ c < 1 ∨ 8 < c
  · unfold lookE; rw [if_pos h]; simp only; omega
  · unfold lookE; rw [if_neg h]; dsimp only
    split
    · exact Int.le_refl _
    · split <;> exact Int.le_refl _
theorem cutk_sub (n : Int) (E : List (Int × Int)) : (cutk n E).Sublist E := List.filter_sublist
theorem cutk_no (n : Int) (E : List (Int × Int)) : ∀ p ∈ cutk n E, p.1 ≠ n := fun p hp => by unfold cutk at hp; simpa using (List.mem_filter.1 hp).2
theorem TapOk.new (size : Int) (h : 0 ≤ size) : TapOk size (0, []) := ⟨by simp, by simp, by simp, by simp, by simp, by simpa using h⟩
theorem TapOk.nil {size L : Int} {E : List (Int × Int)} (h : TapOk size (L, E)) : TapOk size (L, []) := ⟨h.lo, by simp, by simp, by simp, by simp, by have := h.len; simp at this ⊢; omega⟩
theorem TapOk.look {size life f c : Int} {s : Int × List (Int × Int)} (h : TapOk size s) (hs : 1 ≤ size) : TapOk size (lookE size life f c s) := by
  by_cases ha : f < 0 ∨ 1048576 < f ∨ c < 1 ∨ 8 < c
  · unfold lookE; rw [if_pos ha]; exact h
  obtain ⟨L, E⟩ := s
  have hlo := h.lo
  have sub : (E.filter (young life (L + 1))).Sublist E := List.filter_sublist
  have gen : ∀ E' : List (Int × Int), E'.Sublist E → TapOk size (L + 1, E') := fun E' hs => ⟨by simp at hlo ⊢; omega, fun p hp => by have := h.ages p (hs.subset hp); simp at this ⊢; omega, fun p hp => h.keys p (hs.subset hp), h.ord.sublist hs, h.nd.sublist hs, by have := hs.length_le; have := h.len; simp at this ⊢; omega⟩
  have put : ∀ E' : List (Int × Int), E'.Sublist E → (∀ p ∈ E', p.1 ≠ f + c) → (E'.length : Int) < size → TapOk size (L + 1, (f + c, L + 1) :: E') := by
    intro E' hs hk hl
    have g := gen E' hs
    refine ⟨g.lo, fun p hp => ?_, fun p hp => ?_, ?_, ?_, by simp; omega⟩
    · rcases List.mem_cons.1 hp with rfl | hp
      · simp at hlo ⊢; omega
      · exact g.ages p hp
    · rcases List.mem_cons.1 hp with rfl | hp
      · simp; omega
      · exact g.keys p hp
    · refine List.pairwise_cons.2 ⟨fun p hp => ?_, g.ord⟩
      have := h.ages p (hs.subset hp); simp at this ⊢; omega
    · exact List.pairwise_cons.2 ⟨fun p hp => (hk p hp).symm, g.nd⟩
  unfold lookE
  rw [if_neg ha]
  have hl := h.len
  have hsl := sub.length_le
  simp only at hl ⊢
  generalize E.filter (young life (L + 1)) = E1 at *
  split
  · exact gen _ ((cutk_sub _ _).trans sub)
  · rename_i h1
    by_cases h2 : f + c ∈ E1.map Prod.fst
    · rw [if_pos (Or.inl h2)]
      refine put _ ((cutk_sub _ _).trans sub) (cutk_no _ _) ?_
      obtain ⟨p, hp, e⟩ := List.mem_map.1 h2
      have : (cutk (f + c) E1).length < E1.length := by
        unfold cutk
        rw [List.length_filter_lt_length_iff_exists]
        exact ⟨p, hp, by simp [e]⟩
      omega
    · by_cases h3 : (E1.length : Int) = size
      · rw [if_neg (by rintro (q | q); exact h2 q; exact q h3)]
        refine put _ ((cutk_sub _ _).trans ((List.dropLast_sublist _).trans sub)) (cutk_no _ _) ?_
        have := (cutk_sub (f + c) E1.dropLast).length_le
        rw [List.length_dropLast] at this
        omega
      · rw [if_pos (Or.inr h3)]
        refine put _ ((cutk_sub _ _).trans sub) (cutk_no _ _) ?_
        have := (cutk_sub (f + c) E1).length_le
        omega
theorem look_same {size life f c L L' : Int} {E E' : List (Int × Int)} (hl : (E.length : Int) ≤ size) (hl' : (E'.length : Int) ≤ size) (h : E.map (ag L) = E'.map (ag L')) :
    (lookE size life f c (L, E)).2.map (ag (lookE size life f c (L, E)).1) = (lookE size life f c (L', E')).2.map (ag (lookE size life f c (L', E')).1) ∧ lookB life f c (L', E') = lookB life f c (L, E) := by
  by_cases ha : f < 0 ∨ 1048576 < f ∨ c < 1 ∨ 8 < c
  · unfold lookE lookB; rw [if_pos ha, if_pos ha, if_pos ha, if_pos ha]; exact ⟨h, rfl⟩
  · obtain ⟨a1, a2, _⟩ := look_rel (life := life) (L := L) (E := E) ha hl
    obtain ⟨b1, b2, _⟩ := look_rel (life := life) (L := L') (E := E') ha hl'
    rw [h] at a1 a2
    exact ⟨by rw [← a1, ← b1], by rw [← a2, ← b2]⟩
theorem lookE_young {size life f c L : Int} {E : List (Int × Int)} (hl : 0 ≤ life) (h : ∀ p ∈ E, L - p.2 ≤ life) : ∀ p ∈ (lookE size life f c (L, E)).2, (lookE size life f c (L, E)).1 - p.2 ≤ life := by
  by_cases ha : f < 0 ∨ 1048576 < f ∨ c < 1 ∨ 8 < c
  · unfold lookE; rw [if_pos ha]; exact h
  · unfold lookE; rw [if_neg ha]; dsimp only
    have k : ∀ p ∈ E.filter (young life (L + 1)), L + 1 - p.2 ≤ life := fun p hp => by simpa [young] using (List.mem_filter.1 hp).2
    generalize E.filter (young life (L + 1)) = E1 at *
    split
    · exact fun p hp => k p ((cutk_sub _ _).subset hp)
    · split
      · intro p hp
        rcases List.mem_cons.1 hp with rfl | hp
        · simp; omega
        · exact k p ((cutk_sub _ _).subset hp)
      · intro p hp
        rcases List.mem_cons.1 hp with rfl | hp
        · simp; omega
        · exact k p ((List.dropLast_sublist _).subset ((cutk_sub _ _).subset hp))
theorem lookBC (life f c : Int) (s : Int × List (Int × Int)) : lookC f c = 0 ∨ (lookC f c = 1 ∧ lookB life f c s = false) := by
  by_cases ha : f < 0 ∨ 1048576 < f ∨ c < 1 ∨ 8 < c
  · right; unfold lookC lookB; rw [if_pos ha, if_pos ha]; exact ⟨rfl, rfl⟩
  · left; unfold lookC; rw [if_neg ha]
end Go.Proofs.Ytoapobhdpgcmbaa
