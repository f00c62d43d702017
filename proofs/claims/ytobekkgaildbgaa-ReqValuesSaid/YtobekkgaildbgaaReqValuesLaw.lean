/- ReqValues: the places that are given, one behind the other. Plain. -/
import Derived.Test.YtobekkgaildbgaaReqOnceLaw
namespace Go.Proofs.Ytobekkgaildbgaa
open Go.RowKit Go.Lib Go.Maps

theorem list8 {α : Type} {l : List α} (h : l.length = 8) : ∃ a b c d e f g k, l = [a, b, c, d, e, f, g, k] := by match l, h with | [a, b, c, d, e, f, g, k], _ => exact ⟨a, b, c, d, e, f, g, k, rfl⟩
def kkV (a c i : Nat) : Nat := (a + i * (2 * c + 1)) % 8
def gvV (a c i j : Nat) : Bool := (List.range i).any fun i' => kkV a c i' == j
def psV (n a c i : Nat) : List Int := (List.range 8).map fun j => if j < n then (if gvV a c i j then 2 else 1) else 0
def vlV (xs : List Int) (n a c i : Nat) : List Int := (List.range 8).map fun j => if j < n ∧ gvV a c i j = true then xs.getD j 0 else 0
def chkA (n a c i : Nat) : Bool := decide (n ≤ kkV a c i → psV n a c (i + 1) = psV n a c i) &&
    decide (kkV a c i < n → (psV n a c i)[kkV a c i]? = some 1 ∧ (psV n a c i).set (kkV a c i) 2 = psV n a c (i + 1) ∧ (psV n a c i).count 1 = (psV n a c (i + 1)).count 1 + 1 ∧ psV n a c (i + 1) ≠ freshP n)
def chkB (n a c i : Nat) : Bool := decide (sizeP (psV n a c i) = n) && decide (1 ∈ psV n a c i ∨ ∀ j, j < n → gvV a c i j = true) && decide (3 ∉ psV n a c i) && decide ((psV n a c i).count 1 ≤ 8) && decide (i = 8 → 1 ∉ psV n a c i) && decide (i = 0 → psV n a c i = freshP n)
theorem chkA_all : ((List.range 9).all fun n => (List.range 8).all fun a => (List.range 4).all fun c => (List.range 8).all fun i => chkA n a c i) = true := by decide +kernel
theorem chkB_all : ((List.range 9).all fun n => (List.range 8).all fun a => (List.range 4).all fun c => (List.range 9).all fun i => chkB n a c i) = true := by decide +kernel
theorem psV_facts (n : Nat) (hn : n < 9) (a : Nat) (ha : a < 8) (c : Nat) (hc : c < 4) (i : Nat) (hi : i < 8) : (n ≤ kkV a c i → psV n a c (i + 1) = psV n a c i) ∧
    (kkV a c i < n → (psV n a c i)[kkV a c i]? = some 1 ∧ (psV n a c i).set (kkV a c i) 2 = psV n a c (i + 1) ∧ (psV n a c i).count 1 = (psV n a c (i + 1)).count 1 + 1 ∧ psV n a c (i + 1) ≠ freshP n) := by
  have h := chkA_all
  rw [List.all_eq_true] at h
  have h := h n (by simpa using hn)
  rw [List.all_eq_true] at h
  have h := h a (by simpa using ha)
  rw [List.all_eq_true] at h
  have h := h c (by simpa using hc)
  rw [List.all_eq_true] at h
  have h := h i (by simpa using hi)
  unfold chkA at h
  rw [Bool.and_eq_true, decide_eq_true_eq, decide_eq_true_eq] at h
  exact h
theorem psV_at (n : Nat) (hn : n < 9) (a : Nat) (ha : a < 8) (c : Nat) (hc : c < 4) (i : Nat) (hi : i < 9) : sizeP (psV n a c i) = n ∧ (1 ∈ psV n a c i ∨ ∀ j, j < n → gvV a c i j = true) ∧ 3 ∉ psV n a c i ∧ (psV n a c i).count 1 ≤ 8 ∧ (i = 8 → 1 ∉ psV n a c i) ∧ (i = 0 → psV n a c i = freshP n) := by
  have h := chkB_all
  rw [List.all_eq_true] at h
  have h := h n (by simpa using hn)
  rw [List.all_eq_true] at h
  have h := h a (by simpa using ha)
  rw [List.all_eq_true] at h
  have h := h c (by simpa using hc)
  rw [List.all_eq_true] at h
  have h := h i (by simpa using hi)
  unfold chkB at h
  simp only [Bool.and_eq_true, decide_eq_true_eq] at h
  exact ⟨h.1.1.1.1.1, h.1.1.1.1.2, h.1.1.1.2, h.1.1.2, h.1.2, h.2⟩
theorem psV_len (n a c i : Nat) : (psV n a c i).length = 8 := by simp [psV]
theorem vlV_len (xs : List Int) (n a c i : Nat) : (vlV xs n a c i).length = 8 := by simp [vlV]
theorem kkV_lt (a c i : Nat) : kkV a c i < 8 := Nat.mod_lt _ (by decide)
theorem gvV_succ (a c i j : Nat) : gvV a c (i + 1) j = (gvV a c i j || kkV a c i == j) := by
  unfold gvV; rw [List.range_succ, List.any_append]; simp
theorem vlV_far {xs : List Int} {n a c i : Nat} (h : n ≤ kkV a c i) : vlV xs n a c (i + 1) = vlV xs n a c i := by
  unfold vlV
  apply List.map_congr_left
  intro j hj
  rw [gvV_succ]
  by_cases h2 : j < n
  · have : (kkV a c i == j) = false := by simp; omega
    rw [this, Bool.or_false]
  · rw [if_neg (fun q => h2 q.1), if_neg (fun q => h2 q.1)]
theorem vlV_set {xs : List Int} {n a c i : Nat} (h : kkV a c i < n) : (vlV xs n a c i).set (kkV a c i) (xs.getD (kkV a c i) 0) = vlV xs n a c (i + 1) := by
  have hk := kkV_lt a c i
  apply List.ext_getElem?
  intro j
  rw [List.getElem?_set]
  by_cases e : kkV a c i = j
  · rw [if_pos e, if_pos (by rw [vlV_len]; exact hk)]
    subst e
    unfold vlV
    rw [List.getElem?_map, List.getElem?_range hk, Option.map_some, gvV_succ, if_pos ⟨h, by simp⟩]
  · rw [if_neg e]
    unfold vlV
    rw [List.getElem?_map, List.getElem?_map]
    by_cases hj : j < 8
    · rw [List.getElem?_range hj, Option.map_some, Option.map_some, gvV_succ]
      have : (kkV a c i == j) = false := by simpa using e
      rw [this, Bool.or_false]
    · rw [List.getElem?_eq_none (by simpa using hj)]; rfl
theorem vlV_all {xs : List Int} {n a c i : Nat} (hx : xs.length = 8) (hn : n ≤ 8) (h : ∀ j, j < n → gvV a c i j = true) : (vlV xs n a c i).take n = xs.take n := by
  apply List.ext_getElem?
  intro j
  rw [List.getElem?_take, List.getElem?_take]
  by_cases hj : j < n
  · rw [if_pos hj, if_pos hj]
    unfold vlV
    rw [List.getElem?_map, List.getElem?_range (by omega), Option.map_some, if_pos ⟨hj, h j hj⟩, List.getD_eq_getElem?_getD]
    rw [List.getElem?_eq_getElem (by omega)]; rfl
  · rw [if_neg hj, if_neg hj]
/-- Behind i steps. -/
def stV (xs : List Int) (n a c i : Nat) : RS := if 1 ∈ psV n a c i then ⟨[(3, ⟨1, psV n a c i, vlV xs n a c i⟩)], []⟩ else ⟨[], [⟨3, 0, xs.take n⟩]⟩
theorem stV_no {xs : List Int} {n a c i : Nat} (hn : n < 9) (ha : a < 8) (hc : c < 4) (hi : i < 8) (h : n ≤ kkV a c i) (x : Int) (hp : 1 ∈ psV n a c i) : putR 3 (kkV a c i : Nat) 2 x (stV xs n a c i) = (1, stV xs n a c (i + 1)) := by
  have e1 := (psV_facts n hn a ha c hc i hi).1 h
  have e2 := (psV_at n hn a ha c hc i (by omega)).1
  have e3 : stV xs n a c (i + 1) = stV xs n a c i := by unfold stV; rw [e1, vlV_far h]
  rw [e3]
  unfold stV
  rw [if_pos hp]
  unfold putR getg
  simp only [List.find?_cons, decide_true, Option.map_some]
  rw [if_pos (Or.inr (by rw [e2]; omega))]
theorem stV_done {xs : List Int} {n a c i : Nat} (hn : n < 9) (ha : a < 8) (hc : c < 4) (hi : i < 8) (h : n ≤ kkV a c i) (x : Int) (hp : 1 ∉ psV n a c i) : putR 3 (kkV a c i : Nat) 2 x (stV xs n a c i) = (3, stV xs n a c (i + 1)) := by
  have e1 := (psV_facts n hn a ha c hc i hi).1 h
  have e3 : stV xs n a c (i + 1) = stV xs n a c i := by unfold stV; rw [e1, vlV_far h]
  rw [e3]
  unfold stV
  rw [if_neg hp]
  rfl
theorem stV_ok {xs : List Int} {n a c i : Nat} (hx : xs.length = 8) (hn : n < 9) (ha : a < 8) (hc : c < 4) (hi : i < 8) (h : kkV a c i < n) : putR 3 (kkV a c i : Nat) 2 (xs.getD (kkV a c i) 0) (stV xs n a c i) = (0, stV xs n a c (i + 1)) := by
  obtain ⟨f1, f2, f3, f4⟩ := (psV_facts n hn a ha c hc i hi).2 h
  obtain ⟨e1, _⟩ := psV_at n hn a ha c hc i (by omega)
  obtain ⟨g1, g2, g3, _⟩ := psV_at n hn a ha c hc (i + 1) (by omega)
  have hp : 1 ∈ psV n a c i := List.mem_of_getElem? f1
  unfold stV
  rw [if_pos hp]
  unfold putR getg
  simp only [List.find?_cons, decide_true, Option.map_some, Int.toNat_natCast]
  rw [if_neg (by rw [e1]; omega), if_pos f1, f2, vlV_set h]
  unfold settleR ansOf
  simp only
  by_cases hq : 1 ∈ psV n a c (i + 1)
  · rw [if_pos hq, if_pos hq]; simp [cutg]
  · rw [if_neg hq, if_neg hq, if_neg g3]
    rw [g1, vlV_all hx (by omega) (g2.resolve_left hq)]; simp [cutg]
theorem stV_0 {xs : List Int} {n a c : Nat} (hn : n < 9) (h0 : 0 < n) (ha : a < 8) (hc : c < 4) : openR 1 3 1 n ⟨[], []⟩ = (0, stV xs n a c 0) := by
  obtain ⟨_, _, _, _, _, e⟩ := psV_at n hn a ha c hc 0 (by omega)
  have e := e rfl
  have h1 : 1 ∈ psV n a c 0 := by rw [e]; unfold freshP; simp; omega
  have hv : vlV xs n a c 0 = List.replicate 8 0 := by
    unfold vlV gvV; simp [List.range, List.range.loop]
  unfold openR stV
  rw [if_neg (by omega), if_pos h1, e, hv]
  simp [getg, cutg]
theorem stV_E {xs : List Int} {n a c i : Nat} : (stV xs n a c i).E.length = if 1 ∈ psV n a c i then 1 else 0 := by
  unfold stV; split <;> rfl
theorem cnt1 {n a c i : Nat} : (psV n a c i).count 1 = 0 ↔ 1 ∉ psV n a c i := List.count_eq_zero
theorem stV_touched {xs : List Int} {n a c i : Nat} (hn : n < 9) (ha : a < 8) (hc : c < 4) (hi : i < 8) (h : kkV a c i < n) : touchedR 3 (stV xs n a c (i + 1)) = decide (1 ∈ psV n a c (i + 1)) := by
  obtain ⟨_, _, _, f4⟩ := (psV_facts n hn a ha c hc i hi).2 h
  obtain ⟨g1, _⟩ := psV_at n hn a ha c hc (i + 1) (by omega)
  unfold stV
  split
  · rename_i hq
    unfold touchedR getg
    simp only [List.find?_cons, decide_true, Option.map_some]
    rw [g1]; simp [f4, hq]
  · rename_i hq
    simp [touchedR, getg, hq]
end Go.Proofs.Ytobekkgaildbgaa
