/- ReqOnce: what a step makes of how many are pending, and kept. Plain. -/
import Derived.Test.YtobekkgaildbgaaReqAwake
namespace Go.Proofs.Ytobekkgaildbgaa
open Go.RowKit Go.Lib Go.Maps

def okA (a : Ans) : Prop := (a.cd = 0 ∧ a.vs.length ≤ 8) ∨ ((a.cd = 7 ∨ a.cd = 8) ∧ a.vs = [])
def cnt8 : List Ans → Int
  | [] => 0
  | a :: r => (if a.cd = 8 then 1 else 0) + cnt8 r
theorem cnt8_app : ∀ (l m : List Ans), cnt8 (l ++ m) = cnt8 l + cnt8 m
  | [], m => by simp [cnt8]
  | a :: r, m => by simp [cnt8, cnt8_app r m]; omega
/-- Of S, with nothing kept, a step comes to S'. -/
structure StpO (S S' : RS) (d c : Int) : Prop where
  len : (S'.K.length : Int) + S'.E.length = S.E.length + d
  ok : ∀ a ∈ S'.K, okA a
  cn : cnt8 S'.K = c
  one : S'.K.length ≤ 1
theorem StpO.same {S : RS} (h : S.K = []) : StpO S S 0 0 := ⟨by simp [h], by simp [h], by simp [h, cnt8], by simp [h]⟩
theorem cutg_none {E : List (Int × Rq)} {id : Int} (h : getg id E = none) : cutg id E = E := by
  unfold cutg
  rw [List.filter_eq_self]
  intro p hp
  simpa using getg_none h p hp
theorem cutg_some {E : List (Int × Rq)} {id : Int} {r : Rq} (nd : E.Pairwise (fun p q => p.1 ≠ q.1)) (h : getg id E = some r) : (cutg id E).length + 1 = E.length := by
  induction E with
  | nil => simp [getg] at h
  | cons x l ih =>
    obtain ⟨n1, n2⟩ := List.pairwise_cons.1 nd
    by_cases e : x.1 = id
    · have : cutg id l = l := by
        unfold cutg; rw [List.filter_eq_self]
        intro p hp
        have := n1 p hp
        simp; intro e2; exact this (by rw [e, e2])
      unfold cutg at this ⊢
      rw [List.filter_cons, if_neg (by simpa using e), this]; simp
    · have h2 : getg id l = some r := by
        unfold getg at h ⊢
        rw [List.find?_cons] at h
        have : decide (x.1 = id) = false := by simpa using e
        rw [this] at h; exact h
      have := ih n2 h2
      unfold cutg at this ⊢
      rw [List.filter_cons, if_pos (by simpa using e)]
      simp only [List.length_cons]
      omega
theorem openR_stp {S : RS} (hK : S.K = []) (id kind count : Int) : StpO S (openR 16 id kind count S).2 (if (openR 16 id kind count S).1 = 0 then 1 else 0) 0 ∧ ((openR 16 id kind count S).1 = 0 ∨ (openR 16 id kind count S).1 ≠ 0 ∧ (openR 16 id kind count S).2 = S) ∧ ((S.E.length ≤ 16) → (openR 16 id kind count S).2.E.length ≤ 16) := by
  unfold openR
  by_cases h0 : id < 1 ∨ (kind ≠ 1 ∧ kind ≠ 2) ∨ count < 1 ∨ 8 < count
  · rw [if_pos h0]; exact ⟨by simpa using StpO.same hK, Or.inr ⟨by simp, rfl⟩, fun h => h⟩
  · rw [if_neg h0]
    cases hi : getg id S.E with
    | some r => simp only [Option.isSome_some, if_true]; exact ⟨by simpa using StpO.same hK, Or.inr ⟨by simp, trivial⟩, fun h => h⟩
    | none =>
      simp only [Option.isSome_none, Bool.false_eq_true, if_false]
      by_cases hf : (S.E.length : Int) = 16
      · rw [if_pos hf]; exact ⟨by simpa using StpO.same hK, Or.inr ⟨by simp, rfl⟩, fun h => h⟩
      · rw [if_neg hf]
        have hc := cutg_none hi
        refine ⟨⟨by simp [hK, hc], by simp [hK], by simp [hK, cnt8], by simp [hK]⟩, Or.inl rfl, fun h => ?_⟩
        simp only [List.length_cons, hc]; omega
theorem settleR_stp {S : RS} (hK : S.K = []) (nd : S.E.Pairwise (fun p q => p.1 ≠ q.1)) {id : Int} {r r0 : Rq} (h8 : r.Eight) (hg : getg id S.E = some r0) : StpO S (settleR id r S) 0 0 ∧ (settleR id r S).E.length ≤ S.E.length := by
  have hc := cutg_some nd hg
  unfold settleR
  split
  · exact ⟨⟨by simp [hK]; omega, by simp [hK], by simp [hK, cnt8], by simp [hK]⟩, by simp; omega⟩
  · refine ⟨⟨by simp [hK]; omega, ?_, ?_, by simp [hK]⟩, by simp; omega⟩
    · intro a ha
      simp [hK] at ha
      subst ha
      unfold ansOf okA
      have := h8.v
      split
      · exact Or.inr ⟨Or.inl rfl, rfl⟩
      · split
        · exact Or.inl ⟨rfl, by simp; omega⟩
        · exact Or.inl ⟨rfl, by simp⟩
    · simp only [hK, List.nil_append, cnt8]
      unfold ansOf
      split
      · simp
      · split <;> simp
theorem putR_stp {S : RS} (hK : S.K = []) (nd : S.E.Pairwise (fun p q => p.1 ≠ q.1)) (h8 : ∀ p ∈ S.E, p.2.Eight) (id place what value : Int) : StpO S (putR id place what value S).2 0 0 ∧ (putR id place what value S).2.E.length ≤ S.E.length := by
  unfold putR
  cases hg : getg id S.E with
  | none => exact ⟨StpO.same hK, Nat.le_refl _⟩
  | some r =>
    simp only
    split
    · exact ⟨StpO.same hK, Nat.le_refl _⟩
    · split
      · exact settleR_stp hK nd (rq_set8 (h8 _ (getg_mem hg)) _ _ _) hg
      · exact ⟨StpO.same hK, Nat.le_refl _⟩
theorem cancelR_stp {S : RS} (hK : S.K = []) (nd : S.E.Pairwise (fun p q => p.1 ≠ q.1)) (id : Int) : StpO S (cancelR id S).2 0 (if (cancelR id S).1 = 0 then 1 else 0) ∧ (cancelR id S).2.E.length ≤ S.E.length ∧ ((cancelR id S).1 = 0 ∨ (cancelR id S).1 = 3) := by
  unfold cancelR
  cases hg : getg id S.E with
  | none => simp only [Option.isSome_none, Bool.false_eq_true, if_false]; exact ⟨by simpa using StpO.same hK, Nat.le_refl _, by simp⟩
  | some r =>
    have hc := cutg_some nd hg
    simp only [Option.isSome_some, if_true]
    exact ⟨⟨by simp [hK]; omega, by simp [hK, okA], by simp [hK, cnt8], by simp [hK]⟩, by omega, Or.inl trivial⟩
end Go.Proofs.Ytobekkgaildbgaa
