/- Open addressing: how many keys there are, and which. Plain mathematics. -/
import Derived.Test.YtobekkgaildbgaaIdxLaw
namespace Go.Proofs.Ytobekkgaildbgaa

def bit (v : Int × Int) : Nat := if 0 < v.1 then 1 else 0
def cnt : Tb → Nat
  | [] => 0
  | p :: r => bit p + cnt r
theorem bit_le (v : Int × Int) : bit v ≤ 1 := by unfold bit; split <;> omega
theorem cnt_le : ∀ T : Tb, cnt T ≤ T.length
  | [] => by simp [cnt]
  | p :: r => by have := cnt_le r; have := bit_le p; simp [cnt]; omega
theorem cnt_set : ∀ (T : Tb) (y : Nat) (v : Int × Int), y < T.length → cnt (T.set y v) + bit (gt T y) = cnt T + bit v
  | [], y, v, h => by simp at h
  | p :: r, 0, v, h => by simp [cnt, gt]; omega
  | p :: r, y + 1, v, h => by
    have := cnt_set r y v (by simpa using h)
    simp only [List.set_cons_succ, cnt]
    have e : gt (p :: r) (y + 1) = gt r y := by simp [gt]
    rw [e]; omega
theorem cnt_full : ∀ T : Tb, (∀ y, y < T.length → 0 < (gt T y).1) → cnt T = T.length
  | [], _ => rfl
  | p :: r, h => by
    have h0 := h 0 (by simp)
    have := cnt_full r (fun y hy => by have := h (y + 1) (by simpa using hy); simpa [gt] using this)
    have e : bit p = 1 := by unfold bit; rw [if_pos (by simpa [gt] using h0)]
    simp [cnt, this, e]; omega
theorem cnt_zero (n : Nat) : cnt (List.replicate n (0, 0)) = 0 := by
  induction n with
  | zero => rfl
  | succ n ih => simp [List.replicate_succ, cnt, ih, bit]
theorem bit_pos {v : Int × Int} (h : 0 < v.1) : bit v = 1 := by unfold bit; rw [if_pos h]
theorem bit_zero : bit ((0, 0) : Int × Int) = 0 := by simp [bit]
theorem TOk.room {N : Nat} {T : Tb} (h : TOk N T) (hc : cnt T < N) : ∃ e, e < N ∧ gt T e = (0, 0) := by
  by_cases hs : ∃ e, e < N ∧ gt T e = (0, 0)
  · exact hs
  · exfalso
    have := cnt_full T (fun y hy => by
      rw [h.len] at hy
      have w := h.wf y hy
      rcases Int.lt_or_eq_of_le w.1 with q | q
      · exact q
      · exact absurd ⟨y, hy, w.2.2 q.symm⟩ hs)
    rw [h.len] at this
    omega

/-- A key is there, with a number. -/
def Has (N : Nat) (T : Tb) (k1 n : Int) : Prop := ∃ y, y < N ∧ gt T y = (k1, n)
theorem TOk.new {N : Nat} (h : 2 ≤ N) : TOk N (List.replicate N (0, 0)) := by
  have g : ∀ y, gt (List.replicate N (0, 0)) y = (0, 0) := fun y => by unfold gt; rw [List.getD_eq_getElem?_getD, List.getElem?_replicate]; split <;> rfl
  exact ⟨by simp, h, fun y _ => by rw [g]; simp, fun y z _ _ hp => by rw [g] at hp; simp at hp, fun y _ hp => by rw [g] at hp; simp at hp⟩
theorem Has.uniq {N : Nat} {T : Tb} {k n m : Int} (h : TOk N T) (hk : 0 < k) (a : Has N T k n) (b : Has N T k m) : n = m := by
  obtain ⟨y, hy, ey⟩ := a
  obtain ⟨z, hz, ez⟩ := b
  have := h.uniq y z hy hz (by rw [ey]; exact hk) (by rw [ey, ez])
  subst this
  rw [ey] at ez
  exact (Prod.mk.inj ez).2
theorem has_put {N : Nat} {T : Tb} (h : TOk N T) {k1 n : Int} {f : Nat} (hk : 0 < k1) (hf : FoundAt N T k1 f) (k m : Int) (hk0 : 0 < k) :
    Has N (T.set f (k1, n)) k m ↔ (k = k1 ∧ m = n) ∨ (k ≠ k1 ∧ Has N T k m) := by
  have hl := h.len
  have hfl := hf.lt
  have g : ∀ z, gt (T.set f (k1, n)) z = if z = f then (k1, n) else gt T z := fun z => by rw [gt_set]; simp only [hl, hfl, and_true]
  constructor
  · rintro ⟨y, hy, ey⟩
    rw [g] at ey
    by_cases e : y = f
    · rw [if_pos e] at ey; left; exact ⟨(Prod.mk.inj ey).1.symm, (Prod.mk.inj ey).2.symm⟩
    · rw [if_neg e] at ey
      right
      refine ⟨fun q => e ?_, y, hy, ey⟩
      have h2 := h.find_there hy (by rw [ey]; exact hk0)
      rw [ey] at h2
      simp only at h2
      rw [q] at h2
      exact FoundAt.uniq (by have := h.pos; omega) h2 hf
  · rintro (⟨rfl, rfl⟩ | ⟨hne, y, hy, ey⟩)
    · exact ⟨f, hfl, by rw [g, if_pos rfl]⟩
    · have hyf : y ≠ f := ?_
      · exact ⟨y, hy, by rw [g, if_neg hyf]; exact ey⟩
      rintro rfl
      rcases hf.at_ with q | q
      · rw [q] at ey; have := (Prod.mk.inj ey).1; omega
      · rw [ey] at q; exact hne q
theorem has_none {N : Nat} {T : Tb} (h : TOk N T) {k1 : Int} {f : Nat} (hk : 0 < k1) (hf : FoundAt N T k1 f) (he : gt T f = (0, 0)) (m : Int) : ¬ Has N T k1 m := by
  rintro ⟨y, hy, ey⟩
  have h2 := h.find_there hy (by rw [ey]; exact hk)
  rw [ey] at h2
  have := FoundAt.uniq (by have := h.pos; omega) h2 hf
  subst this
  rw [he] at ey
  have := (Prod.mk.inj ey).1
  omega

/-- What the program's deletion leaves. -/
structure DelPost (N : Nat) (T : Tb) (i : Nat) (U : Tb) : Prop where
  ok : TOk N U
  cnt : cnt U + 1 = cnt T
  has : ∀ k m, 0 < k → (Has N U k m ↔ k ≠ (gt T i).1 ∧ Has N T k m)
theorem step_cnt {N : Nat} {U : Tb} {j : Nat} (hl : U.length = N) (hj : j < N) (hf : FoundAt N (U.set j (0, 0)) (gt U j).1 (findL N (U.set j (0, 0)) (gt U j).1)) (he : gt (U.set j (0, 0)) (findL N (U.set j (0, 0)) (gt U j).1) = (0, 0)) : cnt (delStep N U j) = cnt U := by
  have h1 := cnt_set U j (0, 0) (by omega)
  have h2 := cnt_set (U.set j (0, 0)) (findL N (U.set j (0, 0)) (gt U j).1) (gt U j) (by have := hf.lt; simp; omega)
  rw [he, bit_zero] at h2
  rw [bit_zero] at h1
  unfold delStep
  omega
theorem step_has {N : Nat} {U : Tb} {j : Nat} (hl : U.length = N) (hj : j < N) (hf : FoundAt N (U.set j (0, 0)) (gt U j).1 (findL N (U.set j (0, 0)) (gt U j).1)) (he : gt (U.set j (0, 0)) (findL N (U.set j (0, 0)) (gt U j).1) = (0, 0)) (k m : Int) (hk : 0 < k) : Has N (delStep N U j) k m ↔ Has N U k m := by
  unfold delStep
  generalize findL N (U.set j (0, 0)) (gt U j).1 = f at *
  have hfl := hf.lt
  have g1 : ∀ z, gt (U.set j (0, 0)) z = if z = j then (0, 0) else gt U z := fun z => by rw [gt_set]; simp only [hl, hj, and_true]
  have g2 : ∀ z, gt ((U.set j (0, 0)).set f (gt U j)) z = if z = f then gt U j else if z = j then (0, 0) else gt U z := fun z => by rw [gt_set, g1]; simp only [List.length_set, hl, hfl, and_true]
  rw [g1] at he
  constructor
  · rintro ⟨y, hy, ey⟩
    rw [g2] at ey
    by_cases e1 : y = f
    · rw [if_pos e1] at ey; exact ⟨j, hj, ey⟩
    · rw [if_neg e1] at ey
      by_cases e2 : y = j
      · rw [if_pos e2] at ey; have := (Prod.mk.inj ey).1; omega
      · rw [if_neg e2] at ey; exact ⟨y, hy, ey⟩
  · rintro ⟨y, hy, ey⟩
    by_cases e2 : y = j
    · subst e2; exact ⟨f, hfl, by rw [g2, if_pos rfl]; exact ey⟩
    · have e1 : y ≠ f := by rintro rfl; rw [if_neg e2] at he; rw [he] at ey; have := (Prod.mk.inj ey).1; omega
      exact ⟨y, hy, by rw [g2, if_neg e1, if_neg e2]; exact ey⟩
theorem del_start {N : Nat} {T : Tb} (h : TOk N T) {i : Nat} (hi : i < N) (hp : 0 < (gt T i).1) : cnt (T.set i (0, 0)) + 1 = cnt T ∧ ∀ k m, 0 < k → (Has N (T.set i (0, 0)) k m ↔ k ≠ (gt T i).1 ∧ Has N T k m) := by
  have hl := h.len
  have g : ∀ z, gt (T.set i (0, 0)) z = if z = i then (0, 0) else gt T z := fun z => by rw [gt_set]; simp only [hl, hi, and_true]
  refine ⟨by have := cnt_set T i (0, 0) (by omega); rw [bit_pos hp, bit_zero] at this; omega, fun k m hk => ⟨?_, ?_⟩⟩
  · rintro ⟨y, hy, ey⟩
    rw [g] at ey
    by_cases e : y = i
    · rw [if_pos e] at ey; have := (Prod.mk.inj ey).1; omega
    · rw [if_neg e] at ey
      exact ⟨fun q => e (h.uniq y i hy hi (by rw [ey]; exact hk) (by rw [ey]; exact q)), y, hy, ey⟩
  · rintro ⟨hne, y, hy, ey⟩
    exact ⟨y, hy, by rw [g, if_neg (by rintro rfl; rw [ey] at hne; exact hne rfl)]; exact ey⟩
/-- A deletion that is under way, with what is there. -/
structure DJ (N : Nat) (T : Tb) (i e k : Nat) (U : Tb) : Prop where
  di : DI N T i e k U
  cnt : cnt U + 1 = cnt T
  has : ∀ k m, 0 < k → (Has N U k m ↔ k ≠ (gt T i).1 ∧ Has N T k m)
theorem DJ.start {N : Nat} {T : Tb} {i e : Nat} (h : Hole N T i e) (hp : 0 < (gt T i).1) : DJ N T i e 1 (T.set i (0, 0)) := by
  obtain ⟨a, b⟩ := del_start h.ok h.il hp
  exact ⟨DI.start h, a, b⟩
theorem DJ.step {N : Nat} {T : Tb} {i e k : Nat} {U : Tb} (h : Hole N T i e) (d : DJ N T i e k U) (hk : k < dist N i e) : DJ N T i e (k + 1) (delStep N U (wr N (i + k))) := by
  obtain ⟨a1, a2, a3, a4, a5⟩ := d.di.step h hk
  have hj : wr N (i + k) < N := wr_lt (by have := h.il; have := dist_lt h.il h.el; omega) (by have := h.il; omega)
  exact ⟨a1, by rw [step_cnt d.di.len hj a4 a5]; exact d.cnt, fun k m hk => by rw [step_has d.di.len hj a4 a5 k m hk]; exact d.has k m hk⟩
theorem DJ.done {N : Nat} {T : Tb} {i e : Nat} {U : Tb} (h : Hole N T i e) (d : DJ N T i e (dist N i e) U) : DelPost N T i U := ⟨d.di.done h, d.cnt, d.has⟩
/-- A deletion, so many places on. -/
def delIt (N i : Nat) (T0 : Tb) : Nat → Tb
  | 0 => T0
  | k + 1 => delStep N (delIt N i T0 k) (wr N (i + (k + 1)))
theorem dj_it {N : Nat} {T : Tb} {i e : Nat} (h : Hole N T i e) (hp : 0 < (gt T i).1) : ∀ k, k < dist N i e → DJ N T i e (k + 1) (delIt N i (T.set i (0, 0)) k)
  | 0, _ => DJ.start h hp
  | k + 1, hk => (dj_it h hp k (by omega)).step h (by omega)
/-- What a deletion leaves. -/
def delU (N : Nat) (T : Tb) (i e : Nat) : Tb := delIt N i (T.set i (0, 0)) (dist N i e - 1)
theorem del_post {N : Nat} {T : Tb} {i e : Nat} (h : Hole N T i e) (hp : 0 < (gt T i).1) : DelPost N T i (delU N T i e) := by
  have hd : 0 < dist N i e := by
    rcases Nat.eq_zero_or_pos (dist N i e) with q | q
    · exact absurd (dist_inj h.il h.el h.il (by rw [q, dist_self])) h.ne
    · exact q
  have := dj_it h hp (dist N i e - 1) (by omega)
  rw [show dist N i e - 1 + 1 = dist N i e by omega] at this
  exact DJ.done h this
end Go.Proofs.Ytobekkgaildbgaa
