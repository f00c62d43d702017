/- index: facts of the keys that are told. -/
import Derived.Test.YtobekkgaildbgaaIdxOk
namespace Go.Proofs.Ytobekkgaildbgaa
open Go.RowKit

theorem rawL_cnt : ∀ T : Tb, (rawL T).length = cnt T
  | [] => rfl
  | p :: r => by
    have := rawL_cnt r
    have e : rawL (p :: r) = rawL [p] ++ rawL r := rawL_app [p] r
    rw [e, List.length_append, this, rawL_one, cnt, bit]
    split <;> simp
theorem keysL_cnt (T : Tb) : (keysL T).length = cnt T := by unfold keysL; rw [(List.mergeSort_perm _ leI).length_eq, rawL_cnt]
theorem cnt_many {N : Nat} : ∀ (L : List Nat) (T : Tb), T.length = N → L.Nodup → (∀ y ∈ L, y < N ∧ 0 < (gt T y).1) → L.length ≤ cnt T
  | [], T, _, _, _ => by simp
  | y :: r, T, hl, hn, h => by
    obtain ⟨h1, h2⟩ := List.nodup_cons.1 hn
    obtain ⟨hy, hp⟩ := h y (by simp)
    have hc := cnt_set T y (0, 0) (by omega)
    rw [bit_zero, bit_pos hp] at hc
    have := cnt_many (N := N) r (T.set y (0, 0)) (by simp [hl]) h2 (fun z hz => by
      obtain ⟨a, b⟩ := h z (by simp [hz])
      refine ⟨a, ?_⟩
      rw [gt_set, if_neg (by rintro ⟨rfl, _⟩; exact h1 hz)]
      exact b)
    simp only [List.length_cons]
    omega
theorem dist_cnt {N : Nat} {T : Tb} (h : TOk N T) {y : Nat} (hy : y < N) (hp : 0 < (gt T y).1) : dist N (hm N (gt T y).1) y < cnt T := by
  have hh := hm_lt (gt T y).1 (by have := h.pos; omega : 0 < N)
  have hd := dist_lt hh hy
  have := cnt_many (N := N) ((List.range (dist N (hm N (gt T y).1) y + 1)).map fun d => wr N (hm N (gt T y).1 + d)) T h.len ?_ ?_
  · rw [List.length_map, List.length_range] at this; omega
  · rw [List.nodup_iff_pairwise_ne, List.pairwise_map]
    refine (List.nodup_iff_pairwise_ne.1 List.nodup_range).imp_of_mem ?_
    intro a b ha hb hne e
    rw [List.mem_range] at ha hb
    have e1 := dist_wr (h := hm N (gt T y).1) (d := a) hh (by omega)
    have e2 := dist_wr (h := hm N (gt T y).1) (d := b) hh (by omega)
    rw [e, e2] at e1
    exact hne e1.symm
  · intro z hz
    obtain ⟨d, hd1, rfl⟩ := List.mem_map.1 hz
    rw [List.mem_range] at hd1
    exact ⟨wr_lt (by omega) (by omega), h.reach y hy hp d (by omega)⟩
theorem mem_rawL {T : Tb} {k : Int} : k ∈ rawL T ↔ ∃ p ∈ T, 0 < p.1 ∧ k = p.1 - 1 := by
  unfold rawL
  constructor
  · intro h
    obtain ⟨p, hp, e⟩ := List.mem_map.1 h
    obtain ⟨h1, h2⟩ := List.mem_filter.1 hp
    exact ⟨p, h1, by simpa using h2, e.symm⟩
  · rintro ⟨p, h1, h2, rfl⟩
    exact List.mem_map.2 ⟨p, List.mem_filter.2 ⟨h1, by simpa using h2⟩, rfl⟩
theorem mem_keysL {N : Nat} {T : Tb} (h : TOk N T) {k : Int} : k ∈ keysL T ↔ ∃ y, y < N ∧ 0 < (gt T y).1 ∧ k = (gt T y).1 - 1 := by
  unfold keysL
  rw [(List.mergeSort_perm _ leI).mem_iff, mem_rawL]
  constructor
  · rintro ⟨p, hp, h1, rfl⟩
    obtain ⟨y, hy, e⟩ := List.getElem_of_mem hp
    have eg : gt T y = p := by unfold gt; rw [List.getD_eq_getElem?_getD, List.getElem?_eq_getElem hy, e]; rfl
    exact ⟨y, by rw [← h.len]; exact hy, by rw [eg]; exact h1, by rw [eg]⟩
  · rintro ⟨y, hy, h1, rfl⟩
    have hyl : y < T.length := by rw [h.len]; exact hy
    have eg : gt T y = T[y] := by unfold gt; rw [List.getD_eq_getElem?_getD, List.getElem?_eq_getElem hyl]; rfl
    exact ⟨T[y], List.getElem_mem _, by rw [← eg]; exact h1, by rw [eg]⟩
theorem IOk.far {N : Nat} {T : Tb} {c : Int} (h : IOk N T c) {k : Int} (hk : k ∈ keysL T) : (∃ n, getL N T k = (n, true)) ∧ 0 ≤ farL N T k ∧ farL N T k < c := by
  obtain ⟨y, hy, hp, rfl⟩ := (mem_keysL h.ok).1 hk
  have w := h.ok.wf y hy
  have e1 : (gt T y).1 - 1 + 1 = (gt T y).1 := by omega
  have hg : getL N T ((gt T y).1 - 1) = ((gt T y).2, true) := (h.get _ _).2 ⟨by simp [rightK]; omega, y, hy, by rw [e1]⟩
  refine ⟨⟨_, hg⟩, ?_⟩
  have hf := h.ok.find_there hy hp
  have hu := FoundAt.uniq (by have := h.ok.pos; omega) hf (h.found _)
  unfold farL
  rw [hg, e1, ← hu]
  have := dist_cnt h.ok hy hp
  have e2 := h.cn
  simp
  omega
theorem keysL_rise {N : Nat} {T : Tb} (h : TOk N T) : (keysL T).Pairwise (fun a b => a < b) := by
  have hs : (keysL T).Pairwise (fun a b => leI a b = true) := by
    unfold keysL
    exact List.pairwise_mergeSort (fun a b c h1 h2 => by simp [leI] at *; omega) (fun a b => by simp [leI]; omega) _
  have hn : (keysL T).Nodup := by
    unfold keysL
    rw [(List.mergeSort_perm _ leI).nodup_iff]
    unfold rawL
    rw [List.nodup_iff_pairwise_ne, List.pairwise_map]
    have hp : T.Pairwise (fun p q => 0 < p.1 → p.1 ≠ q.1) := by
      rw [List.pairwise_iff_getElem]
      intro i j hi hj hij h1 h2
      have ei : gt T i = T[i] := by unfold gt; rw [List.getD_eq_getElem?_getD, List.getElem?_eq_getElem hi]; rfl
      have ej : gt T j = T[j] := by unfold gt; rw [List.getD_eq_getElem?_getD, List.getElem?_eq_getElem hj]; rfl
      have := h.uniq i j (by rw [← h.len]; exact hi) (by rw [← h.len]; exact hj) (by rw [ei]; exact h1) (by rw [ei, ej]; exact h2)
      omega
    refine (hp.sublist List.filter_sublist).imp_of_mem ?_
    intro p q hp' _ hpq e
    exact hpq (by simpa using (List.mem_filter.1 hp').2) (by omega)
  rw [List.nodup_iff_pairwise_ne] at hn
  refine (hs.and hn).imp ?_
  rintro a b ⟨h1, h2⟩
  simp [leI] at h1
  omega
end Go.Proofs.Ytobekkgaildbgaa
