/- The reference of package index: its table in memory; at, Len, lay. -/
import Derived.Test.YtobekkgaildbgaaIdxTell
namespace Go.Proofs.Ytobekkgaildbgaa
open Go.RowKit

/-- What is there, place by place. -/
def isC (T : Tb) (N : Nat) : Array Value := ((List.range N).map fun i => Value.bool (decide (0 < (gt T i).1))).toArray
def nmC (K : Nat → Int) (N : Nat) : Array Value := ((List.range N).map fun i => Value.int .i64 (K i)).toArray
def upf (K : Nat → Int) (i : Nat) (v : Int) (j : Nat) : Int := if j = i then v else K j
/-- The reference's table at block r, with its three rows. -/
structure RIx (w : World) (r bi bk bn N : Nat) (T : Tb) (K V : Nat → Int) : Prop where
  hr : w.heap[r]? = some (.cells #[.slice (some ⟨bi, 0, none⟩) N N, .slice (some ⟨bk, 0, none⟩) N N, .slice (some ⟨bn, 0, none⟩) N N] 77)
  hi : w.heap[bi]? = some (.cells (isC T N) 4)
  hk : w.heap[bk]? = some (.cells (nmC K N) 3)
  hn : w.heap[bn]? = some (.cells (nmC V N) 3)
  ne : r ≠ bi ∧ r ≠ bk ∧ r ≠ bn ∧ bi ≠ bk ∧ bi ≠ bn ∧ bk ≠ bn
/-- The rows say what the table has. -/
def Agr (N : Nat) (T : Tb) (K V : Nat → Int) : Prop := ∀ i, i < N → 0 < (gt T i).1 → K i = (gt T i).1 - 1 ∧ V i = (gt T i).2
section
variable {w w' : World} {r bi bk bn N : Nat} {T : Tb} {K V : Nat → Int}
theorem RIx.fr {S : List Nat} (h : RIx w r bi bk bn N T K V) (f : Fr S w w') (h1 : r ∉ S) (h2 : bi ∉ S) (h3 : bk ∉ S) (h4 : bn ∉ S) : RIx w' r bi bk bn N T K V := ⟨f.heap h.hr h1, f.heap h.hi h2, f.heap h.hk h3, f.heap h.hn h4, h.ne⟩
theorem RIx.lt (h : RIx w r bi bk bn N T K V) : r < w.heap.size ∧ bi < w.heap.size ∧ bk < w.heap.size ∧ bn < w.heap.size := ⟨lt_of_heap h.hr, lt_of_heap h.hi, lt_of_heap h.hk, lt_of_heap h.hn⟩
theorem RIx.cell (h : RIx w r bi bk bn N T K V) {i : Nat} (hi : i < N) : w.cell? ⟨bi, i, none⟩ = some (.bool (decide (0 < (gt T i).1))) ∧ w.cell? ⟨bk, i, none⟩ = some (.int .i64 (K i)) ∧ w.cell? ⟨bn, i, none⟩ = some (.int .i64 (V i)) := by
  rw [blk_cell h.hi, blk_cell h.hk, blk_cell h.hn]
  simp [isC, nmC, hi]
theorem RIx.frz (h : RIx w r bi bk bn N T K V) (i : Nat) : w.frozen? ⟨bi, i, none⟩ = false ∧ w.frozen? ⟨bk, i, none⟩ = false ∧ w.frozen? ⟨bn, i, none⟩ = false := ⟨blk_frozen h.hi i, blk_frozen h.hk i, blk_frozen h.hn i⟩
theorem isC_set {i : Nat} (hl : T.length = N) (hi : i < N) (p : Int × Int) : (isC T N).setIfInBounds i (.bool (decide (0 < p.1))) = isC (T.set i p) N := by
  unfold isC
  simp only [List.setIfInBounds_toArray]
  congr 1
  apply List.ext_getElem?
  intro j
  rw [List.getElem?_set]
  by_cases e : i = j
  · subst e; rw [if_pos rfl]; simp [hi, gt_set, hl]
  · rw [if_neg e]
    by_cases hj : j < N
    · have : ¬ (j = i) := fun q => e q.symm
      simp [hj, gt_set, this]
    · simp [hj]
theorem nmC_set {i : Nat} (hi : i < N) (v : Int) : (nmC K N).setIfInBounds i (.int .i64 v) = nmC (upf K i v) N := by
  unfold nmC upf
  simp only [List.setIfInBounds_toArray]
  congr 1
  apply List.ext_getElem?
  intro j
  rw [List.getElem?_set]
  by_cases e : i = j
  · subst e; rw [if_pos rfl]; simp [hi]
  · rw [if_neg e]
    by_cases hj : j < N
    · have : ¬ (j = i) := fun q => e q.symm
      simp [hj, this]
    · simp [hj]
theorem RIx.setIs (h : RIx w r bi bk bn N T K V) (hl : T.length = N) {i : Nat} (hi : i < N) {β : Bool} (p : Int × Int) (hp : decide (0 < p.1) = β) : RIx (w.setCell ⟨bi, i, none⟩ (.bool β)) r bi bk bn N (T.set i p) K V := by
  obtain ⟨n1, n2, n3, n4, n5, n6⟩ := h.ne
  subst hp
  refine ⟨?_, ?_, ?_, ?_, h.ne⟩
  · rw [heap_set_ne _ _ _ n1]; exact h.hr
  · rw [heap_set_eq h.hi, isC_set hl hi]
  · rw [heap_set_ne _ _ _ (Ne.symm n4)]; exact h.hk
  · rw [heap_set_ne _ _ _ (Ne.symm n5)]; exact h.hn
theorem RIx.setKey (h : RIx w r bi bk bn N T K V) {i : Nat} (hi : i < N) (v : Int) : RIx (w.setCell ⟨bk, i, none⟩ (.int .i64 v)) r bi bk bn N T (upf K i v) V := by
  obtain ⟨n1, n2, n3, n4, n5, n6⟩ := h.ne
  refine ⟨?_, ?_, ?_, ?_, h.ne⟩
  · rw [heap_set_ne _ _ _ n2]; exact h.hr
  · rw [heap_set_ne _ _ _ n4]; exact h.hi
  · rw [heap_set_eq h.hk, nmC_set hi]
  · rw [heap_set_ne _ _ _ (Ne.symm n6)]; exact h.hn
theorem RIx.setN (h : RIx w r bi bk bn N T K V) {i : Nat} (hi : i < N) (v : Int) : RIx (w.setCell ⟨bn, i, none⟩ (.int .i64 v)) r bi bk bn N T K (upf V i v) := by
  obtain ⟨n1, n2, n3, n4, n5, n6⟩ := h.ne
  refine ⟨?_, ?_, ?_, ?_, h.ne⟩
  · rw [heap_set_ne _ _ _ n3]; exact h.hr
  · rw [heap_set_ne _ _ _ n5]; exact h.hi
  · rw [heap_set_ne _ _ _ n6]; exact h.hk
  · rw [heap_set_eq h.hn, nmC_set hi]
theorem RIx.same (h : RIx w r bi bk bn N T K V) {U : Tb} (hs : ∀ i, i < N → decide (0 < (gt U i).1) = decide (0 < (gt T i).1)) : RIx w r bi bk bn N U K V := by
  refine ⟨h.hr, ?_, h.hk, h.hn, h.ne⟩
  rw [h.hi]
  have : isC T N = isC U N := by
    unfold isC
    congr 1
    refine List.map_congr_left fun i hi => ?_
    rw [hs i (List.mem_range.1 hi)]
  rw [this]

theorem wr_emod {N a : Nat} (h : a < N + N) (hN : 0 < N) : ((a : Nat) : Int) % (N : Int) = (Go.Proofs.Ytobekkgaildbgaa.wr N a : Nat) := by rw [← wr_mod h hN]; rfl
set_option maxRecDepth 100000 in
set_option maxHeartbeats 4000000 in
/-- A key that is there. -/
theorem rx_at_yes (key : Int) (y : Nat) (hy : y < N) (hN : N ≤ 256) (hp : 0 < (gt T y).1) (hk : K y = key) (hb : ∀ i, i < y → 0 < (gt T i).1 → K i ≠ key) (H : RIx w r bi bk bn N T K V) :
    Calls Try.prog 51 #[.pointer (some ⟨r, 0, none⟩), .int .i64 key] w fun e w' => e = .returned (.int .i64 (y : Nat)) ∧ w = w' := by
  have HX := H.hr
  have HH := Lib.hid H
  have HB := Lib.hid hb
  have HK := Lib.hid hk
  have HP := Lib.hid hp
  have n1' : (N : Int) ≤ 256 := by omega
  apply blk_use HX; intro hg1 hc1 hz1 _ _ _ _ _
  clear H hb hk hp
  go_enter Try.func51, Try.ntmps51
  go_wp2_with fail
  go_loop [5] (fun v => ∃ i : Nat, v = .int .i64 i ∧ i ≤ y) (fun v => y - (intOf v).toNat)
  case atStart => exact ⟨0, rfl, by omega⟩
  case round =>
    obtain ⟨i, rfl, i1⟩ := hrel
    obtain ⟨c0, c1, _⟩ := HH.out.cell (i := i) (by omega)
    have hiN : i < N := by omega
    by_cases e : i = y
    · subst e
      rw [HK.out] at c1
      have hd : decide (0 < (gt T i).1) = true := by simpa using HP.out
      rw [hd] at c0
      clear hd
      go_wp2_with fail
      go_ret
      exact ⟨rfl, rfl⟩
    · by_cases hq : 0 < (gt T i).1
      · have hne := HB.out i (by omega) hq
        have hd : decide (0 < (gt T i).1) = true := by simpa using hq
        have hkb : (K i == key) = false := by rw [beq_eq_false_iff_ne]; exact hne
        rw [hd] at c0
        clear hd hq hne
        go_wp2_with fail
        go_round
        case rel => exact ⟨i + 1, by go_num, by omega⟩
        case measure => simp [intOf]; omega
      · have hd : decide (0 < (gt T i).1) = false := by simpa using hq
        rw [hd] at c0
        clear hd hq
        go_wp2_with fail
        go_round
        case rel => exact ⟨i + 1, by go_num, by omega⟩
        case measure => simp [intOf]; omega
set_option maxRecDepth 100000 in
set_option maxHeartbeats 4000000 in
/-- A key that is not there. -/
theorem rx_at_no (key : Int) (hN : N ≤ 256) (hb : ∀ i, i < N → 0 < (gt T i).1 → K i ≠ key) (H : RIx w r bi bk bn N T K V) :
    Calls Try.prog 51 #[.pointer (some ⟨r, 0, none⟩), .int .i64 key] w fun e w' => e = .returned (.int .i64 (-1)) ∧ w = w' := by
  have HX := H.hr
  have HH := Lib.hid H
  have HB := Lib.hid hb
  have n1' : (N : Int) ≤ 256 := by omega
  apply blk_use HX; intro hg1 hc1 hz1 _ _ _ _ _
  clear H hb
  go_enter Try.func51, Try.ntmps51
  go_wp2_with fail
  go_loop [5] (fun v => ∃ i : Nat, v = .int .i64 i ∧ i ≤ N) (fun v => N - (intOf v).toNat)
  case atStart => exact ⟨0, rfl, by omega⟩
  case round =>
    obtain ⟨i, rfl, i1⟩ := hrel
    by_cases hiN : i < N
    · obtain ⟨c0, c1, _⟩ := HH.out.cell (i := i) (by omega)
      by_cases hq : 0 < (gt T i).1
      · have hne := HB.out i (by omega) hq
        have hd : decide (0 < (gt T i).1) = true := by simpa using hq
        have hkb : (K i == key) = false := by rw [beq_eq_false_iff_ne]; exact hne
        rw [hd] at c0
        clear hd hq hne
        go_wp2_with fail
        go_round
        case rel => exact ⟨i + 1, by go_num, by omega⟩
        case measure => simp [intOf]; omega
      · have hd : decide (0 < (gt T i).1) = false := by simpa using hq
        rw [hd] at c0
        clear hd hq
        go_wp2_with fail
        go_round
        case rel => exact ⟨i + 1, by go_num, by omega⟩
        case measure => simp [intOf]; omega
    · obtain rfl : i = N := by omega
      go_wp2_with fail
      go_ret
      exact ⟨rfl, rfl⟩

theorem cnt_app (l m : Tb) : cnt (l ++ m) = cnt l + cnt m := by
  induction l with
  | nil => simp [cnt]
  | cons p r ih => simp [cnt, ih]; omega
theorem cnt_take {T : Tb} {i : Nat} (hi : i < T.length) : cnt (T.take (i + 1)) = cnt (T.take i) + bit (gt T i) := by
  have e : T[i] = gt T i := by unfold gt; rw [List.getD_eq_getElem?_getD, List.getElem?_eq_getElem hi]; rfl
  rw [List.take_succ_eq_append_getElem hi, cnt_app, e]
  simp [cnt]
set_option maxRecDepth 100000 in
set_option maxHeartbeats 4000000 in
theorem rx_len (hl : T.length = N) (hN : N ≤ 256) (H : RIx w r bi bk bn N T K V) :
    Calls Try.prog 24 #[.pointer (some ⟨r, 0, none⟩)] w fun e w' => e = .returned (.int .i64 (cnt T : Nat)) ∧ w = w' := by
  have HX := H.hr
  have HH := Lib.hid H
  have HL := Lib.hid hl
  have n1' : (N : Int) ≤ 256 := by omega
  apply blk_use HX; intro hg1 hc1 hz1 _ _ _ _ _
  clear H hl
  go_enter Try.func24, Try.ntmps24
  go_wp2_with fail
  go_loop [3, 4] (fun u v => ∃ i : Nat, v = .int .i64 i ∧ u = .int .i64 (cnt (T.take i) : Nat) ∧ i ≤ N) (fun _ v => N - (intOf v).toNat)
  case atStart => exact ⟨0, rfl, rfl, by omega⟩
  case round =>
    obtain ⟨i, rfl, rfl, i1⟩ := hrel
    have hcl : ((cnt (T.take i) : Nat) : Int) ≤ 256 := by have := cnt_le (T.take i); have := List.length_take_le i T; omega
    by_cases hiN : i < N
    · obtain ⟨c0, _, _⟩ := HH.out.cell (i := i) (by omega)
      have hst := Lib.hid (cnt_take (T := T) (i := i) (by have := HL.out; omega))
      by_cases hq : 0 < (gt T i).1
      · have hd : decide (0 < (gt T i).1) = true := by simpa using hq
        have hbt := Lib.hid (bit_pos hq)
        rw [hd] at c0
        clear hd hq
        go_wp2_with fail
        go_round
        case rel => exact ⟨i + 1, by go_num, by rw [hst.out, hbt.out]; go_num, by omega⟩
        case measure => simp [intOf]; omega
      · have hd : decide (0 < (gt T i).1) = false := by simpa using hq
        have hbt : Hid (bit (gt T i) = 0) := by unfold Hid bit; rw [if_neg hq]
        rw [hd] at c0
        clear hd hq
        go_wp2_with fail
        go_round
        case rel => exact ⟨i + 1, by go_num, by rw [hst.out, hbt.out]; rfl, by omega⟩
        case measure => simp [intOf]; omega
    · obtain rfl : i = N := by omega
      have e : T.take i = T := List.take_of_length_le (by have := HL.out; omega)
      rw [e] at *
      go_wp2_with fail
      go_ret
      exact ⟨rfl, rfl⟩

set_option maxRecDepth 100000 in
set_option maxHeartbeats 4000000 in
/-- A key is laid at the first place from its home on that is empty. -/
theorem rx_lay (key n : Int) (d : Nat) (hd : d < N) (hN : N ≤ 256) (h0 : 0 ≤ key) (h1 : key ≤ 1048576) (hl : T.length = N) (he : (gt T (Go.Proofs.Ytobekkgaildbgaa.wr N (hm N (key + 1) + d))).1 ≤ 0) (hb : ∀ i, i < d → 0 < (gt T (Go.Proofs.Ytobekkgaildbgaa.wr N (hm N (key + 1) + i))).1) (H : RIx w r bi bk bn N T K V) :
    Calls Try.prog 52 #[.pointer (some ⟨r, 0, none⟩), .int .i64 key, .int .i64 n] w fun e w' => e = .returned (.tuple #[]) ∧ RIx w' r bi bk bn N (T.set (Go.Proofs.Ytobekkgaildbgaa.wr N (hm N (key + 1) + d)) (key + 1, n)) (upf K (Go.Proofs.Ytobekkgaildbgaa.wr N (hm N (key + 1) + d)) key) (upf V (Go.Proofs.Ytobekkgaildbgaa.wr N (hm N (key + 1) + d)) n) ∧ Fr [bi, bk, bn] w w' := by
  have HX := H.hr
  have HH := Lib.hid H
  have HB := Lib.hid hb
  have HE := Lib.hid he
  have HL := Lib.hid hl
  have hh := hm_lt (key + 1) (by omega : 0 < N)
  have hm' : key % (N : Int) = (hm N (key + 1) : Nat) := by
    unfold hm
    rw [Int.add_sub_cancel]
    exact (Int.toNat_of_nonneg (Int.emod_nonneg _ (by omega))).symm
  have hlt := H.lt
  have hne := H.ne
  have n1' : (N : Int) ≤ 256 := by omega
  have n0' : 0 < (N : Int) := by omega
  generalize hm N (key + 1) = h at *
  apply blk_use HX; intro hg1 hc1 hz1 _ _ _ _ _
  clear H hb he hl
  go_enter Try.func52, Try.ntmps52
  go_wp2_with fail
  go_loop [7] (fun v => ∃ i : Nat, v = .int .i64 i ∧ i ≤ d) (fun v => d - (intOf v).toNat)
  case atStart => exact ⟨0, rfl, by omega⟩
  case round =>
    obtain ⟨i, rfl, i1⟩ := hrel
    have hw2 : ((h : Int) + i) % (N : Int) = (Go.Proofs.Ytobekkgaildbgaa.wr N (h + i) : Nat) := by
      have := wr_emod (N := N) (a := h + i) (by omega) (by omega)
      rw [← this]; simp
    have hy : Go.Proofs.Ytobekkgaildbgaa.wr N (h + i) < N := wr_lt (by omega) (by omega)
    obtain ⟨c0, c1, c2⟩ := HH.out.cell hy
    obtain ⟨z0, z1, z2⟩ := HH.out.frz (Go.Proofs.Ytobekkgaildbgaa.wr N (h + i))
    have hqi := HB.out i
    have hqe := HE.out
    generalize hY : Go.Proofs.Ytobekkgaildbgaa.wr N (h + i) = y at *
    have HY := Lib.hid hY
    have hy' : (y : Int) < N := by omega
    have hiN : (i : Int) < N := by omega
    clear hY
    by_cases e : i = d
    · subst e
      rw [HY.out] at hqe
      have hq : decide (0 < (gt T y).1) = false := by simp; omega
      rw [hq] at c0
      clear hq hqi hqe
      go_wp2_with fail
      refine bodyPost_ret (results_none (by rfl) _ _ _) rfl ?_
      rw [HY.out]
      exact ⟨rfl, ((HH.out.setIs HL.out hy (key + 1, n) (by simp; omega)).setKey hy key).setN hy n, (by repeat' (first | (with_reducible exact Fr.refl _ _) | (with_reducible assumption) | (with_reducible refine Fr.drew ?_) | (with_reducible refine Fr.drewN ?_ _) | (with_reducible refine Fr.alloc ?_ _) | ((with_reducible refine Fr.setNew ?_ _ ?_ _); rotate_left; (focus (first | (with_reducible assumption) | exact Nat.le_of_lt (by with_reducible assumption) | (focus (simp +arith; done)) | exact Nat.le_trans (by with_reducible assumption) (by simp +arith; done) | (simp; done)))) | ((with_reducible refine Fr.setOld ?_ _ ?_ _); rotate_left; (focus (simp; done)))))⟩
    · have hq : decide (0 < (gt T y).1) = true := by have := hqi (by omega); simpa using this
      rw [hq] at c0
      clear hq hqi hqe
      go_wp2_with fail
      go_round
      case rel => exact ⟨i + 1, by go_num, by omega⟩
      case measure => simp [intOf]; omega
/-- The place of a key; -1: it is not there. -/
def atL (N : Nat) (T : Tb) (key : Int) : Int := if (getL N T key).2 = true then (findL N T (key + 1) : Nat) else -1
theorem rx_at {c : Int} (hk : IOk N T c) (hA : Agr N T K V) (key : Int) (H : RIx w r bi bk bn N T K V) :
    Calls Try.prog 51 #[.pointer (some ⟨r, 0, none⟩), .int .i64 key] w fun e w' => e = .returned (.int .i64 (atL N T key)) ∧ w = w' := by
  have hN := hk.le
  unfold atL
  by_cases hg : (getL N T key).2 = true
  · rw [if_pos hg]
    obtain ⟨_, hp⟩ := getL_true hg
    have hf := hk.found (key + 1)
    have he : (gt T (findL N T (key + 1))).1 = key + 1 := by
      rcases hf.at_ with q | q
      · rw [q] at hp; simp at hp
      · exact q
    refine rx_at_yes key _ hf.lt hN hp (by have := (hA _ hf.lt hp).1; omega) (fun i hi hq e => ?_) H
    have hiN : i < N := by have := hf.lt; omega
    have := (hA i hiN hq).1
    have := hk.ok.uniq i _ hiN hf.lt hq (by omega)
    omega
  · rw [if_neg hg]
    refine rx_at_no key hN (fun i hi hq e => ?_) H
    have h1 := (hA i hi hq).1
    have w := hk.ok.wf i hi
    have hg2 := (hk.get key (gt T i).2).2 ⟨by simp [rightK]; omega, i, hi, Prod.ext (by simp only; omega) rfl⟩
    rw [hg2] at hg
    exact hg rfl
end
end Go.Proofs.Ytobekkgaildbgaa
