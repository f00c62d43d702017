/- index: keys of one home, and what a deletion leaves of them. Plain. -/
import Derived.Test.YtobekkgaildbgaaIdxTell
namespace Go.Proofs.Ytobekkgaildbgaa
open Go.RowKit

/-- The places from h on. -/
structure Lay (N h : Nat) (T : Tb) (E : Nat → Int × Int) : Prop where
  len : T.length = N
  at_ : ∀ d, d < N → gt T (wr N (h + d)) = E d
theorem Lay.set {N h : Nat} {T : Tb} {E : Nat → Int × Int} (h0 : Lay N h T E) (hh : h < N) {j : Nat} (hj : j < N) (v : Int × Int) {E' : Nat → Int × Int} (he : ∀ d, d < N → E' d = if d = j then v else E d) : Lay N h (T.set (wr N (h + j)) v) E' := by
  have hN : 0 < N := by omega
  have hwj : wr N (h + j) < N := wr_lt (by omega) hN
  refine ⟨by simp [h0.len], fun d hd => ?_⟩
  rw [gt_set, he d hd]
  by_cases e : d = j
  · subst e; rw [if_pos ⟨rfl, by rw [h0.len]; exact hwj⟩, if_pos rfl]
  · rw [if_neg e, if_neg, h0.at_ d hd]
    rintro ⟨q, _⟩
    have e1 := dist_wr (h := h) (d := d) hh hd
    have e2 := dist_wr (h := h) (d := j) hh hj
    rw [q, e2] at e1
    exact e e1.symm
theorem Lay.find {N h : Nat} {T : Tb} {E : Nat → Int × Int} (h0 : Lay N h T E) (hh : h < N) {k1 : Int} (hm' : hm N k1 = h) {j : Nat} (hj : j < N) (ha : E j = (0, 0) ∨ (E j).1 = k1) (hb : ∀ d, d < j → E d ≠ (0, 0) ∧ (E d).1 ≠ k1) : findL N T k1 = wr N (h + j) := by
  have hN : 0 < N := by omega
  have hwj : wr N (h + j) < N := wr_lt (by omega) hN
  have f1 : FoundAt N T k1 (wr N (h + j)) := by
    refine ⟨hwj, by rw [h0.at_ j hj]; exact ha, fun d hd => ?_⟩
    rw [hm', dist_wr hh hj] at hd
    rw [hm', h0.at_ d (by omega)]
    exact hb d hd
  exact FoundAt.uniq hN (found hN _ hwj (by rw [h0.at_ j hj]; exact ha)) f1
theorem wr_wr {N h k r : Nat} (hh : h < N) (hk : k + r < N) : wr N (wr N (h + k) + r) = wr N (h + (k + r)) := by
  unfold wr; split <;> split <;> (try split) <;> omega
theorem dist_wr2 {N h k n : Nat} (hh : h < N) (hk : k ≤ n) (hn : n < N) : dist N (wr N (h + k)) (wr N (h + n)) = n - k := by
  unfold wr dist; split <;> split <;> split <;> omega

/-- The keys key, key + N, .. -/
def kE (N : Nat) (key : Int) (d : Nat) : Int × Int := (key + d * N + 1, d)
theorem kE_hm {N : Nat} (key : Int) (d : Nat) : hm N (key + d * N + 1) = hm N (key + 1) := by
  unfold hm
  rw [Int.add_sub_cancel, Int.add_sub_cancel, Int.add_mul_emod_self_right]
theorem kE_ne {N : Nat} (hN : 0 < N) {key : Int} {d j : Nat} (h : d ≠ j) : (kE N key d).1 ≠ key + j * N + 1 := by
  intro q
  unfold kE at q
  simp only at q
  rcases Nat.lt_trichotomy d j with r | r | r
  · have : (d : Int) * N < j * N := Int.mul_lt_mul_of_pos_right (by omega) (by omega)
    omega
  · exact h r
  · have : (j : Int) * N < d * N := Int.mul_lt_mul_of_pos_right (by omega) (by omega)
    omega
theorem kE_pos {N : Nat} {key : Int} (h0 : 0 ≤ key) (d : Nat) : 0 < (kE N key d).1 := by
  have : 0 ≤ (d : Int) * N := Int.mul_nonneg (by omega) (by omega)
  unfold kE; simp only; omega
theorem kE_nz {N : Nat} {key : Int} (h0 : 0 ≤ key) (d : Nat) : kE N key d ≠ (0, 0) := by
  intro q; have := kE_pos (N := N) h0 d; rw [q] at this; simp at this
/-- So many are put. -/
def putE (N : Nat) (key : Int) (i d : Nat) : Int × Int := if d < i then kE N key d else (0, 0)
theorem lay_new (N h : Nat) (key : Int) : Lay N h (List.replicate N (0, 0)) (putE N key 0) := by
  refine ⟨by simp, fun d _ => ?_⟩
  have e : putE N key 0 d = (0, 0) := by unfold putE; rw [if_neg (by omega)]
  rw [e]; unfold gt; rw [List.getD_eq_getElem?_getD, List.getElem?_replicate]; split <;> rfl
theorem farL_of {N : Nat} {T : Tb} {key : Int} {f : Nat} (hr : rightK key = true) (hf : findL N T (key + 1) = f) (hp : 0 < (gt T f).1) : farL N T key = (dist N (hm N (key + 1)) f : Nat) := by
  have hg : (getL N T key).2 = true := by
    unfold getL
    rw [if_neg (by rw [hr]; simp), hf]
    simp only [decide_eq_true_eq]
    exact hp
  unfold farL
  rw [if_pos hg, hf]
theorem putE_find {N : Nat} {T : Tb} {key : Int} {i : Nat} (h0 : 0 ≤ key) (L : Lay N (hm N (key + 1)) T (putE N key i)) (hi : i < N) {j : Nat} (hj : j ≤ i) : findL N T (key + j * N + 1) = wr N (hm N (key + 1) + j) := by
  refine L.find (hm_lt _ (by omega)) (kE_hm key j) (by omega) ?_ fun d hd => ?_
  · unfold putE
    by_cases e : j < i
    · rw [if_pos e]; exact Or.inr rfl
    · rw [if_neg e]; exact Or.inl rfl
  · unfold putE
    rw [if_pos (by omega)]
    exact ⟨kE_nz h0 d, kE_ne (by omega) (by omega)⟩
theorem putE_put {N : Nat} {T : Tb} {key : Int} {i : Nat} (h0 : 0 ≤ key) (hk : IOk N T i) (L : Lay N (hm N (key + 1)) T (putE N key i)) (hi : i + 1 < N) (hr : rightK (key + i * N) = true) : ∃ T', putL N T i (key + i * N) i = (T', (i : Int) + 1, 0) ∧ Lay N (hm N (key + 1)) T' (putE N key (i + 1)) ∧ farL N T' (key + i * N) = i := by
  have hh := hm_lt (key + 1) (by omega : 0 < N)
  have hf := putE_find h0 L (by omega) (Nat.le_refl i)
  have hz : gt T (wr N (hm N (key + 1) + i)) = (0, 0) := by rw [L.at_ i (by omega)]; unfold putE; rw [if_neg (by omega)]
  have L' : Lay N (hm N (key + 1)) (T.set (wr N (hm N (key + 1) + i)) (key + i * N + 1, (i : Int))) (putE N key (i + 1)) := by
    refine L.set hh (by omega) _ fun d hd => ?_
    unfold putE
    by_cases e : d = i
    · subst e; rw [if_pos (by omega), if_pos rfl]; rfl
    · rw [if_neg e]
      by_cases e2 : d < i
      · rw [if_pos e2, if_pos (by omega)]
      · rw [if_neg e2, if_neg (by omega)]
  have hf' := putE_find h0 L' (by omega) (j := i) (by omega)
  refine ⟨_, ?_, L', ?_⟩
  · unfold putL
    rw [if_neg (by rw [hr]; simp), hf, hz, if_pos rfl, if_neg (by omega)]
  · rw [farL_of hr hf' (by rw [L'.at_ i (by omega)]; unfold putE; rw [if_pos (by omega)]; exact kE_pos h0 i), kE_hm, dist_wr hh (by omega)]
/-- Behind the deletion of the k-th, so many places on. -/
def delE (N : Nat) (key : Int) (k r d : Nat) : Int × Int := if d < k then kE N key d else if d < k + r then kE N key (d + 1) else if d = k + r then (0, 0) else if d < N - 1 then kE N key d else (0, 0)
theorem lay_del {N : Nat} {T : Tb} {key : Int} (h0 : 0 ≤ key) (L : Lay N (hm N (key + 1)) T (putE N key (N - 1))) {k : Nat} (hk : k < N - 1) : ∀ r, k + r < N - 1 → Lay N (hm N (key + 1)) (delIt N (wr N (hm N (key + 1) + k)) (T.set (wr N (hm N (key + 1) + k)) (0, 0)) r) (delE N key k r)
  | 0, _ => by
    have hh := hm_lt (key + 1) (by omega : 0 < N)
    refine L.set hh (by omega) _ fun d hd => ?_
    unfold delE putE
    by_cases e : d = k
    · subst e; rw [if_neg (by omega), if_neg (by omega), if_pos (by omega), if_pos rfl]
    · rw [if_neg e]
      by_cases e2 : d < k
      · rw [if_pos e2, if_pos (by omega)]
      · rw [if_neg e2, if_neg (by omega), if_neg (by omega)]
  | r + 1, hr => by
    have hh := hm_lt (key + 1) (by omega : 0 < N)
    have ih := lay_del h0 L hk r (by omega)
    show Lay N _ (delStep N (delIt N (wr N (hm N (key + 1) + k)) (T.set (wr N (hm N (key + 1) + k)) (0, 0)) r) (wr N (wr N (hm N (key + 1) + k) + (r + 1)))) _
    rw [wr_wr hh (by omega)]
    generalize delIt N (wr N (hm N (key + 1) + k)) (T.set (wr N (hm N (key + 1) + k)) (0, 0)) r = U at *
    have hg : gt U (wr N (hm N (key + 1) + (k + (r + 1)))) = kE N key (k + (r + 1)) := by
      rw [ih.at_ _ (by omega)]; unfold delE
      rw [if_neg (by omega), if_neg (by omega), if_neg (by omega), if_pos (by omega)]
    unfold delStep
    rw [hg]
    have L1 : Lay N (hm N (key + 1)) (U.set (wr N (hm N (key + 1) + (k + (r + 1)))) (0, 0)) (fun d => if d = k + (r + 1) then (0, 0) else delE N key k r d) := ih.set hh (by omega) _ fun d _ => rfl
    have hf : findL N (U.set (wr N (hm N (key + 1) + (k + (r + 1)))) (0, 0)) (kE N key (k + (r + 1))).1 = wr N (hm N (key + 1) + (k + r)) := by
      refine L1.find hh (kE_hm key _) (by omega) (Or.inl ?_) fun d hd => ?_
      · rw [if_neg (by omega)]; unfold delE
        rw [if_neg (by omega), if_neg (by omega), if_pos rfl]
      · rw [if_neg (by omega)]; unfold delE
        by_cases e : d < k
        · rw [if_pos e]; exact ⟨kE_nz h0 d, kE_ne (by omega) (by omega)⟩
        · rw [if_neg e, if_pos (by omega)]; exact ⟨kE_nz h0 _, kE_ne (by omega) (by omega)⟩
    rw [hf]
    refine L1.set hh (by omega) _ fun d hd => ?_
    unfold delE
    by_cases e : d = k + r
    · rw [if_pos e, if_neg (by omega), if_pos (by omega), e]; rfl
    · rw [if_neg e]
      by_cases e2 : d = k + (r + 1)
      · rw [if_pos e2, if_neg (by omega), if_neg (by omega), if_pos e2]
      · rw [if_neg e2]
        by_cases e3 : d < k
        · rw [if_pos e3, if_neg e2, if_pos e3]
        · rw [if_neg e3, if_neg e3]
          by_cases e4 : d < k + r
          · rw [if_pos (by omega), if_neg e2, if_pos e4]
          · rw [if_neg (by omega), if_neg e2, if_neg e4, if_neg e]
/-- All about the deletion. -/
theorem home_del {N : Nat} {T : Tb} {key : Int} {c : Int} (h0 : 0 ≤ key) (h1 : key ≤ 65535) (hk0 : IOk N T c) (L : Lay N (hm N (key + 1)) T (putE N key (N - 1))) {k : Nat} (hk : k < N - 1) :
    (getL N T (key + k * N)).2 = true ∧ ∃ e, Hole N T (findL N T (key + k * N + 1)) e ∧ ∀ i : Nat, i < N - 1 → farL N (delU N T (findL N T (key + k * N + 1)) e) (key + i * N) = if i = k then -1 else if k < i then (i : Int) - 1 else i := by
  have hN2 := hk0.ok.pos
  have hN8 := hk0.le
  have hh := hm_lt (key + 1) (by omega : 0 < N)
  have hf := putE_find h0 L (by omega) (j := k) (by omega)
  have hr : ∀ i : Nat, i < N → rightK (key + i * N) = true := by
    intro i hi
    have a := Int.mul_nonneg (by omega : 0 ≤ (i : Int)) (by omega : 0 ≤ (N : Int))
    have b : (i : Int) * N ≤ 256 * 256 := Int.mul_le_mul (by omega) (by omega) (by omega) (by omega)
    simp [rightK]; omega
  have hgk : gt T (wr N (hm N (key + 1) + k)) = kE N key k := by rw [L.at_ k (by omega)]; unfold putE; rw [if_pos (by omega)]
  have hg : (getL N T (key + k * N)).2 = true := by
    unfold getL
    rw [if_neg (by rw [hr k (by omega)]; simp), hf, hgk]
    simp only [decide_eq_true_eq]
    exact kE_pos h0 k
  have hH : Hole N T (findL N T (key + k * N + 1)) (wr N (hm N (key + 1) + (N - 1))) := by
    rw [hf]
    refine ⟨hk0.ok, wr_lt (by omega) (by omega), wr_lt (by omega) (by omega), fun q => ?_, ?_, fun y hy a b => ?_⟩
    · have e1 := dist_wr (h := hm N (key + 1)) (d := N - 1) hh (by omega)
      have e2 := dist_wr (h := hm N (key + 1)) (d := k) hh (by omega)
      rw [q, e2] at e1; omega
    · rw [L.at_ _ (by omega)]; unfold putE; rw [if_neg (by omega)]
    · rw [dist_wr2 hh (by omega) (by omega)] at b
      have e1 := wr_dist (h := hm N (key + 1)) hh hy
      have hl := dist_lt hh hy
      have e3 := L.at_ _ hl
      rw [e1] at e3
      have hwk : wr N (hm N (key + 1) + k) < N := wr_lt (by omega) (by omega)
      have e4 : dist N (hm N (key + 1)) y < N - 1 := by
        rw [← e1] at b
        generalize dist N (hm N (key + 1)) y = dd at *
        unfold wr dist at b
        split at b <;> split at b <;> split at b <;> omega
      rw [e3]; unfold putE; rw [if_pos e4]; exact kE_pos h0 _
  refine ⟨hg, _, hH, fun i hi => ?_⟩
  have hget := del_get hk0 hg hH
  have hU : Lay N (hm N (key + 1)) (delU N T (findL N T (key + k * N + 1)) (wr N (hm N (key + 1) + (N - 1)))) (delE N key k (N - 1 - k - 1)) := by
    have := lay_del h0 L hk (N - 1 - k - 1) (by omega)
    unfold delU
    rw [hf, dist_wr2 hh (by omega) (by omega)]
    exact this
  generalize delU N T (findL N T (key + k * N + 1)) (wr N (hm N (key + 1) + (N - 1))) = U at *
  by_cases e : i = k
  · subst e
    rw [if_pos rfl]
    unfold farL
    rw [if_neg]
    intro q
    exact ((hget _ (getL N U (key + i * N)).1).1 (Prod.ext rfl q)).1 rfl
  · rw [if_neg e]
    have go : ∀ j : Nat, j < N - 1 → delE N key k (N - 1 - k - 1) j = kE N key i → (∀ d, d < j → delE N key k (N - 1 - k - 1) d ≠ (0, 0) ∧ (delE N key k (N - 1 - k - 1) d).1 ≠ key + i * N + 1) → farL N U (key + i * N) = j := by
      intro j hj ej hd
      have hf2 := hU.find hh (kE_hm key i) (j := j) (by omega) (Or.inr (by rw [ej]; rfl)) hd
      rw [farL_of (hr i (by omega)) hf2 (by rw [hU.at_ j (by omega), ej]; exact kE_pos h0 i), kE_hm, dist_wr hh (by omega)]
    by_cases e2 : k < i
    · rw [if_pos e2]
      have := go (i - 1) (by omega) (by unfold delE; rw [if_neg (by omega), if_pos (by omega)]; rw [show i - 1 + 1 = i by omega]) (fun d hd => by
        unfold delE
        by_cases e3 : d < k
        · rw [if_pos e3]; exact ⟨kE_nz h0 d, kE_ne (by omega) (by omega)⟩
        · rw [if_neg e3, if_pos (by omega)]; exact ⟨kE_nz h0 _, kE_ne (by omega) (by omega)⟩)
      rw [this]; omega
    · rw [if_neg e2]
      exact go i (by omega) (by unfold delE; rw [if_pos (by omega)]) (fun d hd => by
        unfold delE
        rw [if_pos (by omega)]; exact ⟨kE_nz h0 d, kE_ne (by omega) (by omega)⟩)
theorem pow_of7 (a0 : Int) : ∃ k : Nat, 2 ≤ k ∧ k ≤ 8 ∧ wrap64 (4 * 2 ^ (a0 % 7).toNat) = ((2 ^ k : Nat) : Int) := by
  have h1 := Int.emod_nonneg a0 (by decide : (7 : Int) ≠ 0)
  have h2 := Int.emod_lt_of_pos a0 (by decide : (0 : Int) < 7)
  generalize a0 % 7 = r at *
  rcases (by omega : r = 0 ∨ r = 1 ∨ r = 2 ∨ r = 3 ∨ r = 4 ∨ r = 5 ∨ r = 6) with rfl | rfl | rfl | rfl | rfl | rfl | rfl
  · exact ⟨2, by omega, by omega, by decide +kernel⟩
  · exact ⟨3, by omega, by omega, by decide +kernel⟩
  · exact ⟨4, by omega, by omega, by decide +kernel⟩
  · exact ⟨5, by omega, by omega, by decide +kernel⟩
  · exact ⟨6, by omega, by omega, by decide +kernel⟩
  · exact ⟨7, by omega, by omega, by decide +kernel⟩
  · exact ⟨8, by omega, by omega, by decide +kernel⟩
end Go.Proofs.Ytobekkgaildbgaa
