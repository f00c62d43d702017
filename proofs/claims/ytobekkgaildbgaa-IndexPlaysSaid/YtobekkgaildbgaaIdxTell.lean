/- index: what Get tells behind Put and Del. -/
import Derived.Test.YtobekkgaildbgaaIdxFacts
namespace Go.Proofs.Ytobekkgaildbgaa
open Go.RowKit

section
variable {N : Nat} {T : Tb} {c : Int}
theorem iput_get (h : IOk N T c) (key n : Int) {T' : Tb} {c' κ : Int} (e : putL N T c key n = (T', c', κ)) :
    (κ = 0 → getL N T' key = (n, true)) ∧ (κ ≠ 0 → (getL N T' key).2 = false) ∧ ∀ k m, k ≠ key → (getL N T' k = (m, true) ↔ getL N T k = (m, true)) := by
  have hk' := h.put key n
  rw [e] at hk'
  simp only at hk'
  unfold putL at e
  by_cases hr : rightK key = false
  · rw [if_pos hr] at e
    simp only [Prod.mk.injEq] at e
    obtain ⟨rfl, rfl, rfl⟩ := e
    refine ⟨fun q => by omega, fun _ => ?_, fun k m _ => Iff.rfl⟩
    unfold getL; rw [if_pos hr]
  · rw [if_neg hr] at e
    have hr' : rightK key = true := by simpa using hr
    obtain ⟨k0, k1⟩ := rightK_of hr'
    have hf := h.found (key + 1)
    have fin : ∀ c2, (T.set (findL N T (key + 1)) (key + 1, n), c2, (0 : Int)) = (T', c', κ) → (κ = 0 → getL N T' key = (n, true)) ∧ (κ ≠ 0 → (getL N T' key).2 = false) ∧ ∀ k m, k ≠ key → (getL N T' k = (m, true) ↔ getL N T k = (m, true)) := by
      intro c2 e
      simp only [Prod.mk.injEq] at e
      obtain ⟨rfl, rfl, rfl⟩ := e
      have hp := has_put (n := n) h.ok (by omega) hf
      refine ⟨fun _ => (hk'.get _ _).2 ⟨hr', (hp _ _ (by omega)).2 (Or.inl ⟨rfl, rfl⟩)⟩, fun q => absurd rfl q, fun k m hne => ?_⟩
      rw [hk'.get, h.get]
      constructor
      · rintro ⟨a, b⟩
        have := rightK_of a
        rcases (hp (k + 1) m (by omega)).1 b with ⟨q, _⟩ | ⟨_, q⟩
        · omega
        · exact ⟨a, q⟩
      · rintro ⟨a, b⟩
        have := rightK_of a
        exact ⟨a, (hp (k + 1) m (by omega)).2 (Or.inr ⟨by omega, b⟩)⟩
    by_cases z : (gt T (findL N T (key + 1))).1 = 0
    · rw [if_pos z] at e
      by_cases zc : c = N - 1
      · rw [if_pos zc] at e
        simp only [Prod.mk.injEq] at e
        obtain ⟨rfl, rfl, rfl⟩ := e
        refine ⟨fun q => by omega, fun _ => ?_, fun k m _ => Iff.rfl⟩
        unfold getL; rw [if_neg hr]; simp [z]
      · rw [if_neg zc] at e; exact fin _ e
    · rw [if_neg z] at e; exact fin _ e
theorem del_get (h : IOk N T c) {key : Int} {e : Nat} (hn : (getL N T key).2 = true) (he : Hole N T (findL N T (key + 1)) e) (k m : Int) :
    getL N (delU N T (findL N T (key + 1)) e) k = (m, true) ↔ k ≠ key ∧ getL N T k = (m, true) := by
  have hk' := h.del hn he
  obtain ⟨hr, hp⟩ := getL_true hn
  have hd := del_post he hp
  have hf := h.found (key + 1)
  have hg : (gt T (findL N T (key + 1))).1 = key + 1 := by
    rcases hf.at_ with q | q
    · rw [q] at hp; simp at hp
    · exact q
  rw [hk'.get, h.get]
  constructor
  · rintro ⟨a, b⟩
    have := rightK_of a
    obtain ⟨p, q⟩ := (hd.has (k + 1) m (by omega)).1 b
    rw [hg] at p
    exact ⟨by omega, a, q⟩
  · rintro ⟨p, a, b⟩
    have := rightK_of a
    exact ⟨a, (hd.has (k + 1) m (by omega)).2 ⟨by rw [hg]; omega, b⟩⟩
theorem getL_no {key : Int} (h : ∀ m, getL N T key ≠ (m, true)) : (getL N T key).2 = false := by
  by_cases q : (getL N T key).2 = true
  · have this : getL N T key = ((getL N T key).1, true) := Prod.ext rfl q
    exact absurd this (h _)
  · simpa using q
/-- Whatever a deletion comes to. -/
theorem idx_del_any {x b : Nat} {w : World} (key : Int) (hk : IOk N T c) (H : IdxAt w x b N T c) :
    Calls Try.prog 19 #[.pointer (some ⟨x, 0, none⟩), .int .i64 key] w fun e' w' => (∃ T' c', e' = .returned (.bool (getL N T key).2) ∧ IOk N T' c' ∧ IdxAt w' x b N T' c' ∧ (∀ k m, getL N T' k = (m, true) ↔ k ≠ key ∧ getL N T k = (m, true)) ∧ c' = (if (getL N T key).2 = true then c - 1 else c)) ∧ Fr [x, b] w w' := by
  by_cases hn : (getL N T key).2 = true
  · obtain ⟨e, he⟩ := hk.hole hn
    refine (idx_del_ok key e hk hn he H).mono ?_
    rintro e' w' ⟨rfl, I, F⟩
    exact ⟨⟨_, _, by rw [hn], hk.del hn he, I, del_get hk hn he, by rw [if_pos hn]⟩, F⟩
  · refine (idx_del_no key hk (by simpa using hn) H).mono ?_
    rintro e' w' ⟨rfl, rfl⟩
    have hn' : (getL N T key).2 = false := by simpa using hn
    exact ⟨⟨_, _, by rw [hn'], hk, H, fun k m => ⟨fun q => ⟨by rintro rfl; rw [q] at hn; exact hn rfl, q⟩, fun q => q.2⟩, by rw [if_neg hn]⟩, Fr.refl _ _⟩
end

theorem pow_of (a0 : Int) : ∃ k : Nat, 1 ≤ k ∧ k ≤ 8 ∧ wrap64 (2 * 2 ^ (a0 % 8).toNat) = ((2 ^ k : Nat) : Int) := by
  have h1 := Int.emod_nonneg a0 (by decide : (8 : Int) ≠ 0)
  have h2 := Int.emod_lt_of_pos a0 (by decide : (0 : Int) < 8)
  generalize a0 % 8 = r at *
  rcases (by omega : r = 0 ∨ r = 1 ∨ r = 2 ∨ r = 3 ∨ r = 4 ∨ r = 5 ∨ r = 6 ∨ r = 7) with rfl | rfl | rfl | rfl | rfl | rfl | rfl | rfl
  · exact ⟨1, by omega, by omega, by decide +kernel⟩
  · exact ⟨2, by omega, by omega, by decide +kernel⟩
  · exact ⟨3, by omega, by omega, by decide +kernel⟩
  · exact ⟨4, by omega, by omega, by decide +kernel⟩
  · exact ⟨5, by omega, by omega, by decide +kernel⟩
  · exact ⟨6, by omega, by omega, by decide +kernel⟩
  · exact ⟨7, by omega, by omega, by decide +kernel⟩
  · exact ⟨8, by omega, by omega, by decide +kernel⟩
/-- Behind so many steps: a key that is there was put last, with its number. -/
def TellI (N : Nat) (F : Nat → Nat → Int) (i : Nat) (T : Tb) : Prop :=
  ∀ j, j < i → (∀ j', j < j' → j' < i → F j' 1 ≠ F j 1) → ∀ m, getL N T (F j 1) = (m, true) → F j 0 = 0 ∧ m = F j 2
theorem TellI.zero (N : Nat) (F : Nat → Nat → Int) (T : Tb) : TellI N F 0 T := fun j h => by omega
theorem TellI.put {N : Nat} {F : Nat → Nat → Int} {i : Nat} {T T' : Tb} {c c' κ : Int} (h : TellI N F i T) (hk : IOk N T c) (h0 : F i 0 = 0) (e : putL N T c (F i 1) (F i 2) = (T', c', κ)) : TellI N F (i + 1) T' := by
  obtain ⟨p1, p2, p3⟩ := iput_get hk _ _ e
  intro j hj hl m hg
  by_cases e1 : j = i
  · subst e1
    by_cases z : κ = 0
    · have := p1 z; rw [hg] at this; exact ⟨h0, (Prod.mk.inj this).1⟩
    · have := p2 z; rw [hg] at this; cases this
  · have hne := hl i (by omega) (by omega)
    exact h j (by omega) (fun j' a b => hl j' a (by omega)) m ((p3 _ _ (Ne.symm hne)).1 hg)
theorem TellI.del {N : Nat} {F : Nat → Nat → Int} {i : Nat} {T T' : Tb} (h : TellI N F i T) (hd : ∀ k m, getL N T' k = (m, true) ↔ k ≠ F i 1 ∧ getL N T k = (m, true)) : TellI N F (i + 1) T' := by
  intro j hj hl m hg
  obtain ⟨a, b⟩ := (hd _ _).1 hg
  have e1 : j ≠ i := by rintro rfl; exact a rfl
  exact h j (by omega) (fun j' a b => hl j' a (by omega)) m b
end Go.Proofs.Ytobekkgaildbgaa
