/- ReqOrder: the requests that are opened, and answered, one behind the other. Plain, and how a slice of bools reads. -/
import Derived.Test.YtobekkgaildbgaaReqOnceLaw
namespace Go.Proofs.Ytobekkgaildbgaa
open Go.RowKit Go.Lib Go.Maps

def rw1 : Rq := ⟨2, freshP 1, List.replicate 8 0⟩
def oE : Nat → List (Int × Rq)
  | 0 => []
  | n + 1 => ((n : Int) + 1, rw1) :: oE n
theorem oE_len : ∀ n, (oE n).length = n
  | 0 => rfl
  | n + 1 => by simp [oE, oE_len n]
theorem oE_mem : ∀ n, ∀ p ∈ oE n, p.2 = rw1 ∧ 1 ≤ p.1 ∧ p.1 ≤ n
  | 0, p, h => by simp [oE] at h
  | n + 1, p, h => by
    simp only [oE, List.mem_cons] at h
    rcases h with rfl | h
    · exact ⟨rfl, by simp only; omega, by simp only; omega⟩
    · have := oE_mem n p h; exact ⟨this.1, this.2.1, by omega⟩
theorem oE_open {m : Nat} (hm : m < 16) : openR 16 ((m : Int) + 1) 2 1 ⟨oE m, []⟩ = (0, ⟨oE (m + 1), []⟩) := by
  have hg : getg ((m : Int) + 1) (oE m) = none := by
    cases h : getg ((m : Int) + 1) (oE m) with
    | none => rfl
    | some r => have := (oE_mem m _ (getg_mem h)).2.2; simp only at this; omega
  unfold openR
  rw [if_neg (by omega)]
  simp only [hg, Option.isSome_none, Bool.false_eq_true, if_false, oE_len, cutg_none hg]
  rw [if_neg (by omega)]
  rfl
def toAV (a : Ans) : AV := ⟨a.id, a.cd, none, 0, 0⟩
structure OrdOk (S : RS) : Prop where
  e : ∀ p ∈ S.E, p.2 = rw1
  n : S.E.length + S.K.length = 16
  v : ∀ a ∈ S.K, a.vs = []
theorem OrdOk.start : OrdOk ⟨oE 16, []⟩ := ⟨fun p h => (oE_mem 16 p h).1, by simp [oE_len], by simp⟩
theorem OrdOk.kind {S : RS} (h : OrdOk S) (id : Int) : (kindR id S = 0 ∧ getg id S.E = none) ∨ (kindR id S = 2 ∧ getg id S.E = some rw1) := by
  unfold kindR
  cases hg : getg id S.E with
  | none => exact Or.inl ⟨rfl, rfl⟩
  | some r =>
    have := h.e _ (getg_mem hg)
    simp only at this
    subst this
    exact Or.inr ⟨rfl, rfl⟩
theorem OrdOk.put {S : RS} {id : Int} (hg : getg id S.E = some rw1) : putR id 0 2 5 S = (0, ⟨cutg id S.E, S.K ++ [⟨id, 0, []⟩]⟩) ∧ putR id 0 3 0 S = (0, ⟨cutg id S.E, S.K ++ [⟨id, 7, []⟩]⟩) := by
  have h1 : ¬ ((0 : Int) < 0 ∨ (sizeP rw1.ps : Int) ≤ 0) := by decide
  have h2 : rw1.ps[(0 : Int).toNat]? = some 1 := by decide
  constructor
  · unfold putR
    rw [hg]
    simp only
    rw [if_neg h1, if_pos h2]
    unfold settleR
    rw [if_neg (by decide)]
    rfl
  · unfold putR
    rw [hg]
    simp only
    rw [if_neg h1, if_pos h2]
    unfold settleR
    rw [if_neg (by decide)]
    rfl
theorem OrdOk.next {S : RS} (h : OrdOk S) (nd : S.E.Pairwise (fun p q => p.1 ≠ q.1)) {id cd : Int} (hg : getg id S.E = some rw1) : OrdOk ⟨cutg id S.E, S.K ++ [⟨id, cd, []⟩]⟩ := by
  have hc := cutg_some nd hg
  have := h.n
  refine ⟨fun p hp => h.e p (cutg_mem.1 hp).1, by simp; omega, fun a ha => ?_⟩
  rcases List.mem_append.1 ha with ha | ha
  · exact h.v a ha
  · simp at ha; subst ha; rfl
theorem ansR_toAV (w : World) (M : List Nat) : ∀ K : List Ans, (∀ a ∈ K, a.vs = []) → AnsR w M (K.map toAV) K
  | [], _ => trivial
  | a :: K, h => by
    refine ⟨⟨rfl, rfl, ?_⟩, ansR_toAV w M K (fun x hx => h x (List.mem_cons_of_mem _ hx))⟩
    rw [h a List.mem_cons_self]
    exact El.Sl.nil _ _ _
theorem El.Own.keep {α : Type} {E : El α} {w w' : World} {B base : Nat} {M : List Nat} {v : Value} {xs : List α} (h : E.Own w base v xs) (k : KeepM B M w w') (hM : ∀ x ∈ v.ownBlock.toList, x ∈ M) : E.Own w' base v xs := by
  refine ⟨h.1, ?_⟩
  rcases h.2 with q | ⟨g, cap, cur, rfl, q2, q3, q4⟩
  · exact Or.inl q
  · exact Or.inr ⟨g, cap, cur, rfl, q2, k.heap q3 (hM g (by simp [Value.ownBlock])), q4⟩
/-- The cells of a slice of bools. -/
def BoolsAt (w : World) (A : Option Addr) (len : Nat) : Prop :=
  ∃ (b off : Nat) (F : Nat → Bool), (0 < len → A = some ⟨b, off, none⟩ ∧ b < w.heap.size) ∧ ∀ i, i < len → w.cell? ⟨b, off + i, none⟩ = some (.bool (F i))
section
open Go.ChangeShapes Go.WideShapes Go.ChangeAt Go.Deep
theorem slice_bools {H : Type} {enc : TypeId × Value → H} {P : Program} {w : World} {base : Nat} {spare : Nat → Bool} {held : Bool} {r : Reach} {b0 : Nat} {t e : TypeId} {v : Value} {d : DataW H} {p : List MemPlace} (f : Nat) (ht : P.underlying t = some (.slice e)) (hl : leavesT P f e = some [e]) (hu : P.underlying e = some .bool)
    (hv : Value.okWide P w r b0 t v) (h : DataW.Trod enc P w base spare held t v d p) :
    ∃ (A : Option Addr) (len cap : Nat), v = .slice A len cap ∧ len ≤ maxLen ∧ BoolsAt w A len := by
  obtain ⟨A, len, cap, hv', hm, hs⟩ := slice_leaves f ht hl (by simp) hv h
  refine ⟨A, len, cap, hv', hm, ?_⟩
  rcases hs with h0 | ⟨b, off, hA, hb, hc⟩
  · exact ⟨0, 0, fun _ => false, fun h => by omega, fun i hi => by omega⟩
  · have : ∀ i, ∃ x : Bool, i < len → w.cell? ⟨b, off + i, none⟩ = some (.bool x) := by
      intro i
      by_cases hi : i < len
      · obtain ⟨x, hx⟩ := (hc i hi 0 e rfl).bool hu
        exact ⟨x, fun _ => by simpa using hx⟩
      · exact ⟨false, fun h => absurd h hi⟩
    exact ⟨b, off, fun i => Classical.choose (this i), fun _ => ⟨hA, hb⟩, fun i hi => Classical.choose_spec (this i) hi⟩
end
end Go.Proofs.Ytobekkgaildbgaa
