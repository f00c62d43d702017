/- Open addressing by steps of one place: where a key is found, what a deletion leaves. Plain mathematics. -/
namespace Go.Proofs.Ytobekkgaildbgaa

abbrev Tb := List (Int × Int)
/-- A place: (0, 0): empty; else the key, one more, and its number. -/
def gt (T : Tb) (y : Nat) : Int × Int := T.getD y (0, 0)
theorem gt_set (T : Tb) (y z : Nat) (v : Int × Int) : gt (T.set y v) z = if z = y ∧ y < T.length then v else gt T z := by
  unfold gt
  simp only [List.getD_eq_getElem?_getD, List.getElem?_set]
  by_cases h : y = z
  · subst h
    by_cases h2 : y < T.length
    · simp [h2]
    · simp [h2, List.getElem?_eq_none (Nat.le_of_not_lt h2)]
  · have : ¬ z = y := fun e => h e.symm
    simp [h, this]
/-- The place that is a steps behind 0, round and round. -/
def wr (N a : Nat) : Nat := if a < N then a else a - N
/-- How far y lies behind h. -/
def dist (N h y : Nat) : Nat := if h ≤ y then y - h else y + N - h
theorem wr_lt {N a : Nat} (h : a < N + N) (hN : 0 < N) : wr N a < N := by unfold wr; split <;> omega
theorem dist_lt {N h y : Nat} (hh : h < N) (hy : y < N) : dist N h y < N := by unfold dist; split <;> omega
theorem wr_dist {N h y : Nat} (hh : h < N) (hy : y < N) : wr N (h + dist N h y) = y := by unfold wr dist; split <;> split <;> omega
theorem dist_wr {N h d : Nat} (hh : h < N) (hd : d < N) : dist N h (wr N (h + d)) = d := by unfold wr dist; split <;> split <;> omega
theorem dist_shift {N i a b : Nat} (hi : i < N) (ha : a < N) (hb : b < N) : dist N a b = dist N (dist N i a) (dist N i b) := by
  unfold dist; split <;> split <;> split <;> (try split) <;> omega
theorem dist_inj {N i a b : Nat} (hi : i < N) (ha : a < N) (hb : b < N) (h : dist N i a = dist N i b) : a = b := by
  rw [← wr_dist hi ha, h, wr_dist hi hb]
theorem dist_self (N a : Nat) : dist N a a = 0 := by simp [dist]

/-- A key's home. -/
def hm (N : Nat) (k1 : Int) : Nat := ((k1 - 1) % N).toNat
theorem hm_lt {N : Nat} (k1 : Int) (hN : 0 < N) : hm N k1 < N := by
  unfold hm
  have h1 := Int.emod_nonneg (k1 - 1) (by omega : (N : Int) ≠ 0)
  have h2 := Int.emod_lt_of_pos (k1 - 1) (by omega : 0 < (N : Int))
  omega

/-- A table as it may be. -/
structure TOk (N : Nat) (T : Tb) : Prop where
  len : T.length = N
  pos : 2 ≤ N
  wf : ∀ y, y < N → 0 ≤ (gt T y).1 ∧ (gt T y).1 ≤ 1048577 ∧ ((gt T y).1 = 0 → gt T y = (0, 0))
  uniq : ∀ y z, y < N → z < N → 0 < (gt T y).1 → (gt T y).1 = (gt T z).1 → y = z
  reach : ∀ y, y < N → 0 < (gt T y).1 → ∀ d, d ≤ dist N (hm N (gt T y).1) y → 0 < (gt T (wr N (hm N (gt T y).1 + d))).1

/-- The first of the places from the home of k1 on (at most m of them) that is empty, or has it. -/
def findD (N : Nat) (T : Tb) (k1 : Int) : Nat → Nat → Nat
  | 0, j => j
  | m + 1, j => if gt T (wr N (hm N k1 + j)) = (0, 0) ∨ (gt T (wr N (hm N k1 + j))).1 = k1 then j else findD N T k1 m (j + 1)
def findL (N : Nat) (T : Tb) (k1 : Int) : Nat := wr N (hm N k1 + findD N T k1 N 0)
/-- What is known of the place that is found. -/
structure FoundAt (N : Nat) (T : Tb) (k1 : Int) (f : Nat) : Prop where
  lt : f < N
  at_ : gt T f = (0, 0) ∨ (gt T f).1 = k1
  no : ∀ d, d < dist N (hm N k1) f → gt T (wr N (hm N k1 + d)) ≠ (0, 0) ∧ (gt T (wr N (hm N k1 + d))).1 ≠ k1
theorem findD_ok {N : Nat} {T : Tb} {k1 : Int} : ∀ (m j : Nat), (∃ d, j ≤ d ∧ d < j + m ∧ (gt T (wr N (hm N k1 + d)) = (0, 0) ∨ (gt T (wr N (hm N k1 + d))).1 = k1)) →
    j ≤ findD N T k1 m j ∧ findD N T k1 m j < j + m ∧ (gt T (wr N (hm N k1 + findD N T k1 m j)) = (0, 0) ∨ (gt T (wr N (hm N k1 + findD N T k1 m j))).1 = k1) ∧ ∀ d, j ≤ d → d < findD N T k1 m j → gt T (wr N (hm N k1 + d)) ≠ (0, 0) ∧ (gt T (wr N (hm N k1 + d))).1 ≠ k1
  | 0, j, ⟨d, h1, h2, _⟩ => by omega
  | m + 1, j, ⟨d, h1, h2, h3⟩ => by
    unfold findD
    by_cases hc : gt T (wr N (hm N k1 + j)) = (0, 0) ∨ (gt T (wr N (hm N k1 + j))).1 = k1
    · rw [if_pos hc]
      exact ⟨Nat.le_refl _, by omega, hc, fun d h1 h2 => by omega⟩
    · rw [if_neg hc]
      have hj : d ≠ j := by rintro rfl; exact hc h3
      obtain ⟨a1, a2, a3, a4⟩ := findD_ok (N := N) (T := T) (k1 := k1) m (j + 1) ⟨d, by omega, by omega, h3⟩
      refine ⟨by omega, by omega, a3, fun d' b1 b2 => ?_⟩
      by_cases e : d' = j
      · subst e; exact ⟨fun q => hc (Or.inl q), fun q => hc (Or.inr q)⟩
      · exact a4 d' (by omega) b2
theorem found {N : Nat} {T : Tb} {k1 : Int} (hN : 0 < N) (e : Nat) (he : e < N) (hE : gt T e = (0, 0) ∨ (gt T e).1 = k1) : FoundAt N T k1 (findL N T k1) := by
  have hh := hm_lt k1 hN
  obtain ⟨a1, a2, a3, a4⟩ := findD_ok (N := N) (T := T) (k1 := k1) N 0 ⟨dist N (hm N k1) e, by omega, by have := dist_lt hh he; omega, by rw [wr_dist hh he]; exact hE⟩
  refine ⟨wr_lt (by omega) hN, a3, fun d hd => ?_⟩
  unfold findL at hd
  rw [dist_wr hh (by omega)] at hd
  exact a4 d (by omega) hd
theorem FoundAt.uniq {N : Nat} {T : Tb} {k1 : Int} {f g : Nat} (hN : 0 < N) (hf : FoundAt N T k1 f) (hg : FoundAt N T k1 g) : f = g := by
  have hh := hm_lt k1 hN
  have key : ∀ {f g : Nat}, FoundAt N T k1 f → FoundAt N T k1 g → ¬ dist N (hm N k1) f < dist N (hm N k1) g := by
    intro f g hf hg hlt
    have := hg.no _ hlt
    rw [wr_dist hh hf.lt] at this
    rcases hf.at_ with h | h
    · exact this.1 h
    · exact this.2 h
  exact dist_inj hh hf.lt hg.lt (by have := key hf hg; have := key hg hf; omega)
/-- A key that is there is found. -/
theorem TOk.find_there {N : Nat} {T : Tb} (h : TOk N T) {y : Nat} (hy : y < N) (hp : 0 < (gt T y).1) : FoundAt N T (gt T y).1 y := by
  have hh := hm_lt (gt T y).1 (by have := h.pos; omega : 0 < N)
  refine ⟨hy, Or.inr rfl, fun d hd => ?_⟩
  have h1 := h.reach y hy hp d (by omega)
  have hlt : dist N (hm N (gt T y).1) y < N := dist_lt hh hy
  have hz : wr N (hm N (gt T y).1 + d) < N := wr_lt (by omega) (by omega)
  refine ⟨fun e => by rw [e] at h1; simp at h1, fun e => ?_⟩
  have := h.uniq _ _ hz hy h1 e
  have e2 := dist_wr (h := hm N (gt T y).1) (d := d) hh (by omega)
  rw [this] at e2
  omega

/-- A new key at the first empty place from its home on. -/
theorem TOk.put {N : Nat} {T : Tb} (h : TOk N T) {k1 n : Int} {f : Nat} (hk : 0 < k1 ∧ k1 ≤ 1048577) (hf : FoundAt N T k1 f) : TOk N (T.set f (k1, n)) := by
  have hN := h.pos
  have hl := h.len
  have hfl := hf.lt
  have hh := hm_lt k1 (by omega : 0 < N)
  have g : ∀ z, gt (T.set f (k1, n)) z = if z = f then (k1, n) else gt T z := fun z => by rw [gt_set]; simp only [hl, hfl, and_true]
  -- no other place has the key
  have other : ∀ y, y < N → y ≠ f → (gt T y).1 ≠ k1 := by
    intro y hy hyf e
    have hp : 0 < (gt T y).1 := by omega
    have h2 := h.find_there hy hp
    rw [e] at h2
    exact hyf (FoundAt.uniq (by omega) h2 hf)
  have mono : ∀ z, 0 < (gt T z).1 → 0 < (gt (T.set f (k1, n)) z).1 := fun z hz => by rw [g]; split; exact hk.1; exact hz
  refine ⟨by simp [hl], hN, fun y hy => ?_, fun y z hy hz hp he => ?_, fun y hy hp d hd => ?_⟩
  · rw [g]; split
    · exact ⟨by simp; omega, hk.2, fun q => by simp at q; omega⟩
    · exact h.wf y hy
  · rw [g] at hp he; rw [g z] at he
    by_cases e1 : y = f <;> by_cases e2 : z = f
    · rw [e1, e2]
    · rw [if_pos e1, if_neg e2] at he; exact absurd he.symm (other z hz e2)
    · rw [if_neg e1, if_pos e2] at he; exact absurd he (other y hy e1)
    · rw [if_neg e1, if_neg e2] at he; rw [if_neg e1] at hp; exact h.uniq y z hy hz hp he
  · by_cases e1 : y = f
    · subst e1
      have ey : gt (T.set y (k1, n)) y = (k1, n) := by rw [g, if_pos rfl]
      rw [ey] at hd ⊢
      simp only at hd ⊢
      by_cases e2 : d = dist N (hm N k1) y
      · rw [e2, wr_dist hh hy, ey]; exact hk.1
      · have := (hf.no d (by omega)).1
        apply mono
        have hz : wr N (hm N k1 + d) < N := wr_lt (by have := dist_lt hh hy; omega) (by omega)
        have w := h.wf _ hz
        rcases Int.lt_or_eq_of_le w.1 with q | q
        · exact q
        · exact absurd (w.2.2 q.symm) this
    · have ey : gt (T.set f (k1, n)) y = gt T y := by rw [g, if_neg e1]
      rw [ey] at hd hp ⊢
      exact mono _ (h.reach y hy hp d hd)

theorem TOk.reachZ {N : Nat} {T : Tb} (h : TOk N T) {y z : Nat} (hy : y < N) (hp : 0 < (gt T y).1) (hz : z < N) (hd : dist N (hm N (gt T y).1) z ≤ dist N (hm N (gt T y).1) y) : 0 < (gt T z).1 := by
  have hh := hm_lt (gt T y).1 (by have := h.pos; omega : 0 < N)
  have := h.reach y hy hp _ hd
  rwa [wr_dist hh hz] at this
theorem reach_of {N : Nat} {T : Tb} (hN : 0 < N) (h : ∀ y, y < N → 0 < (gt T y).1 → ∀ z, z < N → dist N (hm N (gt T y).1) z ≤ dist N (hm N (gt T y).1) y → 0 < (gt T z).1) : ∀ y, y < N → 0 < (gt T y).1 → ∀ d, d ≤ dist N (hm N (gt T y).1) y → 0 < (gt T (wr N (hm N (gt T y).1 + d))).1 := by
  intro y hy hp d hd
  have hh := hm_lt (gt T y).1 hN
  have hl := dist_lt hh hy
  exact h y hy hp _ (wr_lt (by omega) hN) (by rw [dist_wr hh (by omega)]; exact hd)

/-- The element at a place is taken out, and put where it is found. -/
def delStep (N : Nat) (U : Tb) (j : Nat) : Tb := (U.set j (0, 0)).set (findL N (U.set j (0, 0)) (gt U j).1) (gt U j)
def delRun (N i : Nat) : Nat → Nat → Tb → Tb
  | 0, _, U => U
  | m + 1, k, U => if 0 < (gt U (wr N (i + k))).1 then delRun N i m (k + 1) (delStep N U (wr N (i + k))) else U
def delL (N : Nat) (T : Tb) (i : Nat) : Tb := delRun N i (N - 1) 1 (T.set i (0, 0))

/-- While a deletion is under way: e is the first empty place behind i; the places up to k are gone through. -/
structure DI (N : Nat) (T : Tb) (i e k : Nat) (U : Tb) : Prop where
  len : U.length = N
  ke : k ≤ dist N i e
  k1 : 1 ≤ k
  un : ∀ y, y < N → k ≤ dist N i y → gt U y = gt T y
  wf : ∀ y, y < N → 0 ≤ (gt U y).1 ∧ (gt U y).1 ≤ 1048577 ∧ ((gt U y).1 = 0 → gt U y = (0, 0))
  uniq : ∀ y z, y < N → z < N → 0 < (gt U y).1 → (gt U y).1 = (gt U z).1 → y = z
  vis : ∀ y, y < N → 0 < (gt U y).1 → dist N i y < k → ∀ z, z < N → dist N (hm N (gt U y).1) z ≤ dist N (hm N (gt U y).1) y → 0 < (gt U z).1

/-- The first empty place behind i. -/
structure Hole (N : Nat) (T : Tb) (i e : Nat) : Prop where
  ok : TOk N T
  il : i < N
  el : e < N
  ne : e ≠ i
  em : gt T e = (0, 0)
  mn : ∀ y, y < N → 0 < dist N i y → dist N i y < dist N i e → 0 < (gt T y).1

theorem TOk.hole {N : Nat} {T : Tb} (h : TOk N T) {i : Nat} (hi : i < N) (he : ∃ e, e < N ∧ e ≠ i ∧ gt T e = (0, 0)) : ∃ e, Hole N T i e := by
  obtain ⟨e, h1, h2, h3⟩ := he
  have hN := h.pos
  -- the least distance
  have key : ∀ m, (∃ e, e < N ∧ e ≠ i ∧ gt T e = (0, 0) ∧ dist N i e ≤ m) → ∃ e, Hole N T i e := by
    intro m
    induction m with
    | zero =>
      rintro ⟨e, e1, e2, e3, e4⟩
      exact ⟨e, h, hi, e1, e2, e3, fun y _ q1 q2 => by omega⟩
    | succ m ih =>
      rintro ⟨e, e1, e2, e3, e4⟩
      by_cases hs : ∃ e', e' < N ∧ e' ≠ i ∧ gt T e' = (0, 0) ∧ dist N i e' ≤ m
      · exact ih hs
      · refine ⟨e, h, hi, e1, e2, e3, fun y hy q1 q2 => ?_⟩
        have w := h.wf y hy
        rcases Int.lt_or_eq_of_le w.1 with q | q
        · exact q
        · exfalso; exact hs ⟨y, hy, (by rintro rfl; rw [dist_self] at q1; omega), w.2.2 q.symm, by omega⟩
  exact key _ ⟨e, h1, h2, h3, Nat.le_refl _⟩

theorem DI.start {N : Nat} {T : Tb} {i e : Nat} (h : Hole N T i e) : DI N T i e 1 (T.set i (0, 0)) := by
  have hl := h.ok.len
  have hi := h.il
  have g : ∀ z, gt (T.set i (0, 0)) z = if z = i then (0, 0) else gt T z := fun z => by rw [gt_set]; simp only [hl, hi, and_true]
  refine ⟨by simp [hl], ?_, by omega, fun y hy hk => ?_, fun y hy => ?_, fun y z hy hz hp he => ?_, fun y hy hp hk => ?_⟩
  · have := dist_inj hi h.el hi (i := i)
    rw [dist_self] at this
    have h2 : dist N i e ≠ 0 := fun q => h.ne (this q)
    omega
  · rw [g, if_neg (by rintro rfl; rw [dist_self] at hk; omega)]
  · rw [g]; split
    · simp
    · exact h.ok.wf y hy
  · rw [g] at hp he; rw [g z] at he
    by_cases e1 : y = i
    · rw [if_pos e1] at hp; simp at hp
    · by_cases e2 : z = i
      · rw [if_pos e2] at he; rw [if_neg e1] at hp he; simp at he; omega
      · rw [if_neg e1] at hp he; rw [if_neg e2] at he; exact h.ok.uniq y z hy hz hp he
  · have : y = i := dist_inj hi hy hi (by rw [dist_self]; omega)
    rw [g, if_pos this] at hp; simp at hp

theorem DI.done {N : Nat} {T : Tb} {i e : Nat} {U : Tb} (h : Hole N T i e) (d : DI N T i e (dist N i e) U) : TOk N U := by
  have hN := h.ok.pos
  refine ⟨d.len, hN, d.wf, d.uniq, reach_of (by omega) fun y hy hp z hz hd => ?_⟩
  by_cases hk : dist N i y < dist N i e
  · exact d.vis y hy hp hk z hz hd
  · have hyT := d.un y hy (by omega)
    rw [hyT] at hp hd
    have hT := fun {z} => h.ok.reachZ (z := z) hy hp
    have hh := hm_lt (gt T y).1 (by omega : 0 < N)
    have he : ¬ dist N (hm N (gt T y).1) e ≤ dist N (hm N (gt T y).1) y := fun q => by have := hT h.el q; rw [h.em] at this; simp at this
    have hne : dist N i e ≠ dist N i y := fun q => by have := dist_inj h.il h.el hy q; subst this; rw [h.em] at hp; simp at hp
    have hzk : dist N i e ≤ dist N i z := by
      have l1 := dist_lt h.il hh
      have l2 := dist_lt h.il hy
      have l3 := dist_lt h.il hz
      have l4 := dist_lt h.il h.el
      rw [dist_shift h.il hh hz, dist_shift h.il hh hy] at hd
      rw [dist_shift h.il hh h.el, dist_shift h.il hh hy] at he
      generalize dist N i (hm N (gt T y).1) = dh at *
      generalize dist N i y = dy at *
      generalize dist N i z = dz at *
      generalize dist N i e = de at *
      unfold dist at hd he
      split at hd <;> split at hd <;> split at he <;> omega
    rw [d.un z hz hzk]
    exact hT hz hd

theorem DI.step {N : Nat} {T : Tb} {i e k : Nat} {U : Tb} (h : Hole N T i e) (d : DI N T i e k U) (hk : k < dist N i e) : DI N T i e (k + 1) (delStep N U (wr N (i + k))) ∧ 0 < (gt U (wr N (i + k))).1 ∧ (U.set (wr N (i + k)) (0, 0)).length = N ∧ FoundAt N (U.set (wr N (i + k)) (0, 0)) (gt U (wr N (i + k))).1 (findL N (U.set (wr N (i + k)) (0, 0)) (gt U (wr N (i + k))).1) ∧
    gt (U.set (wr N (i + k)) (0, 0)) (findL N (U.set (wr N (i + k)) (0, 0)) (gt U (wr N (i + k))).1) = (0, 0) := by
  have hN := h.ok.pos
  have hl := d.len
  have he := dist_lt h.il h.el
  have hj : wr N (i + k) < N := wr_lt (by have := h.il; omega) (by omega)
  have hdj : dist N i (wr N (i + k)) = k := dist_wr h.il (by omega)
  generalize wr N (i + k) = j at *
  have hUj := d.un j hj (by omega)
  have hp : 0 < (gt U j).1 := by rw [hUj]; exact h.mn j hj (by have := d.k1; omega) (by omega)
  have hTp : 0 < (gt T j).1 := by rw [← hUj]; exact hp
  have hwj := d.wf j hj
  have hh := hm_lt (gt U j).1 (by omega : 0 < N)
  have g1 : ∀ z, gt (U.set j (0, 0)) z = if z = j then (0, 0) else gt U z := fun z => by rw [gt_set]; simp only [hl, hj, and_true]
  have hf := found (N := N) (T := U.set j (0, 0)) (k1 := (gt U j).1) (by omega) j hj (Or.inl (by rw [g1, if_pos rfl]))
  -- what is found is empty
  have hem : gt (U.set j (0, 0)) (findL N (U.set j (0, 0)) (gt U j).1) = (0, 0) := by
    rcases hf.at_ with q | q
    · exact q
    · rw [g1] at q ⊢
      by_cases e1 : findL N (U.set j (0, 0)) (gt U j).1 = j
      · rw [if_pos e1]
      · rw [if_neg e1] at q
        exact absurd (d.uniq _ _ hf.lt hj (by rw [q]; exact hp) q) e1
  refine ⟨?_, hp, by simp [hl], hf, hem⟩
  unfold delStep
  generalize hfe : findL N (U.set j (0, 0)) (gt U j).1 = f at *
  have hfl := hf.lt
  have g2 : ∀ z, gt ((U.set j (0, 0)).set f (gt U j)) z = if z = f then gt U j else if z = j then (0, 0) else gt U z := fun z => by rw [gt_set, g1]; simp only [List.length_set, hl, hfl, and_true]
  -- it lies on the way from the home to j
  have hway : dist N (hm N (gt U j).1) f ≤ dist N (hm N (gt U j).1) j := by
    rcases Nat.lt_or_ge (dist N (hm N (gt U j).1) j) (dist N (hm N (gt U j).1) f) with q | q
    · have := (hf.no _ q).1
      rw [wr_dist hh hj, g1, if_pos rfl] at this
      exact absurd rfl this
    · exact q
  have hTj := fun {z} => h.ok.reachZ (z := z) hj hTp
  simp only [← hUj] at hTj
  have hej : ¬ dist N (hm N (gt U j).1) e ≤ dist N (hm N (gt U j).1) j := fun q => by have := hTj h.el q; rw [h.em] at this; simp at this
  have hfk : dist N i f ≤ k := by
    have hnot : ¬ (k < dist N i f) := by
      intro q
      have hfT := hTj hfl hway
      have hfj : f ≠ j := by rintro rfl; omega
      rw [g1, if_neg hfj, d.un f hfl (by omega)] at hem
      rw [hem] at hfT; simp at hfT
    omega
  have l2 := dist_lt h.il hj
  refine ⟨by simp [hl], by omega, by omega, fun y hy hky => ?_, fun y hy => ?_, fun y z hy hz hpy he => ?_, fun y hy hpy hky z hz hd => ?_⟩
  · rw [g2, if_neg (by rintro rfl; omega), if_neg (by rintro rfl; omega)]
    exact d.un y hy (by omega)
  · rw [g2]; split
    · exact hwj
    · split
      · simp
      · exact d.wf y hy
  · rw [g2] at hpy he; rw [g2 z] at he
    by_cases e1 : y = f
    · rw [if_pos e1] at he
      by_cases e2 : z = f
      · rw [e1, e2]
      · rw [if_neg e2] at he
        by_cases e3 : z = j
        · rw [if_pos e3] at he; simp at he; omega
        · rw [if_neg e3] at he
          exact absurd (d.uniq _ _ hj hz hp he).symm e3
    · rw [if_neg e1] at he hpy
      by_cases e4 : y = j
      · rw [if_pos e4] at hpy; simp at hpy
      · rw [if_neg e4] at he hpy
        by_cases e2 : z = f
        · rw [if_pos e2] at he; exact absurd (d.uniq _ _ hy hj hpy he) e4
        · rw [if_neg e2] at he
          by_cases e3 : z = j
          · rw [if_pos e3] at he; simp at he; omega
          · rw [if_neg e3] at he; exact d.uniq y z hy hz hpy he
  · by_cases e1 : y = f
    · subst e1
      have ey : gt ((U.set j (0, 0)).set y (gt U j)) y = gt U j := by rw [g2, if_pos rfl]
      rw [ey] at hd
      by_cases e2 : z = y
      · rw [e2, ey]; exact hp
      · have hlt : dist N (hm N (gt U j).1) z < dist N (hm N (gt U j).1) y := by
          rcases Nat.lt_or_eq_of_le hd with q | q
          · exact q
          · exact absurd (dist_inj hh hz hy q) e2
        have := (hf.no _ hlt).1
        rw [wr_dist hh hz, g1] at this
        by_cases e3 : z = j
        · rw [if_pos e3] at this; exact absurd rfl this
        · rw [g2, if_neg e2, if_neg e3]
          rw [if_neg e3] at this
          have w := d.wf z hz
          rcases Int.lt_or_eq_of_le w.1 with q | q
          · exact q
          · exact absurd (w.2.2 q.symm) this
    · by_cases e4 : y = j
      · rw [g2, if_neg e1, if_pos e4] at hpy; simp at hpy
      · have ey : gt ((U.set j (0, 0)).set f (gt U j)) y = gt U y := by rw [g2, if_neg e1, if_neg e4]
        rw [ey] at hd hpy
        have hyk : dist N i y < k := by
          rcases Nat.lt_or_eq_of_le (Nat.le_of_lt_succ hky) with q | q
          · exact q
          · exact absurd (dist_inj h.il hy hj (by omega)) e4
        have hv := d.vis y hy hpy hyk
        have hUz := hv z hz hd
        have hzj : z ≠ j := by
          rintro rfl
          have hne : ¬ dist N (hm N (gt U y).1) e ≤ dist N (hm N (gt U y).1) y := fun q => by have := hv e h.el q; rw [d.un e h.el (by omega), h.em] at this; simp at this
          have hh2 := hm_lt (gt U y).1 (by omega : 0 < N)
          have l1 := dist_lt h.il hh2
          have l3 := dist_lt h.il hy
          rw [dist_shift h.il hh2 hz, dist_shift h.il hh2 hy, hdj] at hd
          rw [dist_shift h.il hh2 h.el, dist_shift h.il hh2 hy] at hne
          generalize dist N i (hm N (gt U y).1) = dh at *
          generalize dist N i y = dy at *
          generalize dist N i e = de at *
          unfold dist at hd hne
          split at hd <;> split at hd <;> split at hne <;> omega
        rw [g2]
        by_cases e2 : z = f
        · rw [if_pos e2]; exact hp
        · rw [if_neg e2, if_neg hzj]; exact hUz
end Go.Proofs.Ytobekkgaildbgaa
