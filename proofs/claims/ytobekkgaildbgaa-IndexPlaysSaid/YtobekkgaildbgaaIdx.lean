/- Package index: a table in memory; New, right, next, find, Put, Get. -/
import Derived.Test.YtobekkgaildbgaaGen
import Derived.Test.YtobekkgaildbgaaIdxLaw2
import Derived.Laws.BitsAllLaws
import Derived.WalkMore
import Derived.ScopeJumps
import Derived.Deep.DeepCutAuto
import Derived.Deep.CutBlock
namespace Go.Proofs.Ytobekkgaildbgaa
open Go.RowKit

theorem i64_and (a b : Nat) (ha : a < 9223372036854775808) (hb : b < 9223372036854775808) : bits .and .i64 (a : Int) (b : Int) = ((a &&& b : Nat) : Int) := by
  have h : a &&& b ≤ a := Nat.and_le_left
  show IntKind.i64.wrap ((BitVec.ofInt 64 (a : Int) &&& BitVec.ofInt 64 (b : Int)).toNat : Int) = _
  rw [BitVec.toNat_and, Go.ofInt_u64 a (by omega), Go.ofInt_u64 b (by omega)]
  generalize a &&& b = c at *
  simp [IntKind.wrap, IntKind.bits, IntKind.signed]
  omega
theorem i64_mask (a k : Nat) (ha : a < 9223372036854775808) (hk : k ≤ 8) : bits .and .i64 (a : Int) ((2 ^ k : Nat) - 1 : Int) = ((a % 2 ^ k : Nat) : Int) := by
  have h1 : 2 ^ k ≤ 2 ^ 8 := Nat.pow_le_pow_right (by omega) hk
  have h0 : 0 < 2 ^ k := Nat.pow_pos (by omega)
  have e : ((2 ^ k : Nat) - 1 : Int) = ((2 ^ k - 1 : Nat) : Int) := by omega
  rw [e, i64_and a _ ha (by omega), Nat.and_two_pow_sub_one_eq_mod]

/-- A place: the key, one more, and its number. -/
def eP : El (Int × Int) := ⟨79, 73, 2, fun p => [.int .i64 p.1, .int .i64 p.2]⟩
theorem ePok : eP.Ok where
  len _ := rfl
  one x u hu := by simp [eP] at hu; rcases hu with rfl | rfl <;> rfl
  und := Try.underlying73
  pos := by decide
  info := by
    obtain ⟨ti, h1, h2, h3, h4⟩ := info_parts (P := Try.prog) (e := 79) (z := .agg #[.int .i64 0, .int .i64 0]) (size := 2) (bytes := 16) (by kernel_rfl)
    exact ⟨ti, _, h1, h2, h3, by omega, rfl⟩
theorem eP_set : ∀ (l : Tb) (i : Nat) (p : Int × Int), i < l.length → ((eP.cs l).set (i * 2) (.int .i64 p.1)).set (i * 2 + 1) (.int .i64 p.2) = eP.cs (l.set i p)
  | [], i, p, h => by simp at h
  | x :: r, 0, p, h => by simp [El.cs, eP]
  | x :: r, i + 1, p, h => by
    have := eP_set r i p (by simpa using h)
    rw [show (i + 1) * 2 + 1 = (i * 2 + 1) + 1 + 1 by omega, show (i + 1) * 2 = i * 2 + 1 + 1 by omega]
    simpa [El.cs, eP] using this

/-- A table at block x, its places at block b. -/
structure IdxAt (w : World) (x b N : Nat) (T : Tb) (c : Int) : Prop where
  hx : w.heap[x]? = some (.cells #[.slice (some ⟨b, 0, none⟩) N N, .int .i64 c] 75)
  hb : w.heap[b]? = some (.cells (eP.cs T).toArray 79)
  ne : x ≠ b
theorem IdxAt.fr {w w' : World} {S : List Nat} {x b N : Nat} {T : Tb} {c : Int} (h : IdxAt w x b N T c) (f : Fr S w w') (h1 : x ∉ S) (h2 : b ∉ S) : IdxAt w' x b N T c := ⟨f.heap h.hx h1, f.heap h.hb h2, h.ne⟩
theorem IdxAt.lt {w : World} {x b N : Nat} {T : Tb} {c : Int} (h : IdxAt w x b N T c) : x < w.heap.size ∧ b < w.heap.size := ⟨lt_of_heap h.hx, lt_of_heap h.hb⟩
theorem IdxAt.cell {w : World} {x b N : Nat} {T : Tb} {c : Int} (h : IdxAt w x b N T c) {i : Nat} (hi : i < T.length) : w.cell? ⟨b, i * 2, none⟩ = some (.int .i64 (gt T i).1) ∧ w.cell? ⟨b, i * 2 + 1, none⟩ = some (.int .i64 (gt T i).2) := by
  have hg : T[i]? = some (gt T i) := by simp [gt, hi]
  have q : ∀ j, j < 2 → w.cell? ⟨b, i * 2 + j, none⟩ = ([.int .i64 (gt T i).1, .int .i64 (gt T i).2] : List Value)[j]? := by
    intro j hj
    rw [blk_cell h.hb]
    have := ePok.cs_get T i j (gt T i) hg hj
    simpa [eP] using this
  exact ⟨q 0 (by omega), q 1 (by omega)⟩
theorem IdxAt.frz {w : World} {x b N : Nat} {T : Tb} {c : Int} (h : IdxAt w x b N T c) (off : Nat) : w.frozen? ⟨b, off, none⟩ = false := blk_frozen h.hb off
theorem IdxAt.set {w : World} {x b N : Nat} {T : Tb} {c : Int} (h : IdxAt w x b N T c) {i : Nat} (hi : i < T.length) (p : Int × Int) : IdxAt ((w.setCell ⟨b, i * 2, none⟩ (.int .i64 p.1)).setCell ⟨b, i * 2 + 1, none⟩ (.int .i64 p.2)) x b N (T.set i p) c := by
  refine ⟨?_, ?_, h.ne⟩
  · rw [heap_set_ne _ _ _ h.ne, heap_set_ne _ _ _ h.ne]; exact h.hx
  · rw [heap_set_eq (heap_set_eq h.hb _ _) _ _]
    congr 2
    rw [← eP_set T i p hi]
    simp

theorem mask_of {N : Nat} (hN : ∃ k, k ≤ 8 ∧ N = 2 ^ k) (a : Nat) (ha : a < 9223372036854775808) : bits .and .i64 (a : Int) ((N : Int) - 1) = ((a % N : Nat) : Int) := by
  obtain ⟨k, hk, rfl⟩ := hN
  exact i64_mask a k ha hk
theorem wr_mod {N a : Nat} (h : a < N + N) (hN : 0 < N) : a % N = wr N a := by
  unfold wr
  split
  · exact Nat.mod_eq_of_lt ‹_›
  · rw [Nat.mod_eq_sub_mod (by omega), Nat.mod_eq_of_lt (by omega)]
theorem pow_le {N : Nat} (hN : ∃ k, k ≤ 8 ∧ N = 2 ^ k) : 0 < N ∧ N ≤ 256 := by
  obtain ⟨k, hk, rfl⟩ := hN
  exact ⟨Nat.pow_pos (by omega), Nat.pow_le_pow_right (by omega) hk⟩

section
variable {x b N : Nat} {T : Tb} {c : Int} {w : World}
set_option maxHeartbeats 1000000 in
theorem idx_next (hN : ∃ k, k ≤ 8 ∧ N = 2 ^ k) (i : Nat) (hi : i < N) (H : IdxAt w x b N T c) :
    Calls Try.prog 53 #[.pointer (some ⟨x, 0, none⟩), .int .i64 i] w fun e w' => e = .returned (.int .i64 (wr N (i + 1) : Nat)) ∧ w = w' := by
  obtain ⟨n0, n1⟩ := pow_le hN
  have hm : bits .and .i64 ((i : Int) + 1) ((N : Int) - 1) = (wr N (i + 1) : Nat) := by
    have := mask_of hN (i + 1) (by omega)
    rw [wr_mod (by omega) n0] at this
    exact this
  have n0' : 0 < (N : Int) := by omega
  have n1' : (N : Int) ≤ 256 := by omega
  have hi' : (i : Int) < N := by omega
  have HX := H.hx
  apply blk_use HX; intro hg1 hc1 hz1 _ _ _ _ _
  clear H hN
  go_enter Try.func53, Try.ntmps53
  go_wp2
  go_ret
  exact ⟨rfl, rfl⟩

theorem eq_place (a b c d : Int) (w : World) : (Op.equalIn 10000 79 (.agg #[.int .i64 a, .int .i64 b]) (.agg #[.int .i64 c, .int .i64 d])).run Try.prog w = .ok (a == c && b == d) w := by
  have hu := Try.underlying79
  have a3 := Try.isAgg3
  have u3 := Try.underlying3
  rw [show (10000 : Nat) = 9999 + 1 from rfl, Op.equalIn]
  simp [run_underlying hu, go_sem, List.range', a3]
  by_cases h1 : a = c <;> by_cases h2 : b = d <;> simp [h1, h2, go_sem]

/-- At each jump back in find: the place is some steps behind the home, and what is looked for isn't ahead of it. -/
def FindJ (x : Nat) (key : Int) (N : Nat) (T : Tb) (w : World) (a' : Act) (w' : World) : Prop :=
  w' = w ∧ ∃ (j p : Nat) (u4 u6 u7 u8 u9 u10 u11 u12 u13 u14 u15 u16 u17 u18 u19 u20 u21 u22 u23 u24 u25 u26 u27 u28 u29 u30 u31 u32 u33 u34 u35 u36 u37 u38 u39 : Value), a' = { tmps := #[.pointer (some ⟨x, 0, none⟩), .int .i64 key, undef, undef, u4, .int .i64 (p : Nat), u6, u7, u8, u9, u10, u11, u12, u13, u14, u15, u16, u17, u18, u19, u20, u21, u22, u23, u24, u25, u26, u27, u28, u29, u30, u31, u32, u33, u34, u35, u36, u37, u38, u39], defers := [] } ∧ p = wr N (hm N (key + 1) + j) ∧ j ≤ dist N (hm N (key + 1)) (findL N T (key + 1))
theorem FindJ.mk {x : Nat} {key : Int} {N : Nat} {T : Tb} {w : World} {p : Nat} {u4 u6 u7 u8 u9 u10 u11 u12 u13 u14 u15 u16 u17 u18 u19 u20 u21 u22 u23 u24 u25 u26 u27 u28 u29 u30 u31 u32 u33 u34 u35 u36 u37 u38 u39 : Value} (j : Nat) (hp : p = wr N (hm N (key + 1) + j)) (hj : j ≤ dist N (hm N (key + 1)) (findL N T (key + 1))) :
    FindJ x key N T w { tmps := #[.pointer (some ⟨x, 0, none⟩), .int .i64 key, undef, undef, u4, .int .i64 (p : Nat), u6, u7, u8, u9, u10, u11, u12, u13, u14, u15, u16, u17, u18, u19, u20, u21, u22, u23, u24, u25, u26, u27, u28, u29, u30, u31, u32, u33, u34, u35, u36, u37, u38, u39], defers := [] } w := ⟨rfl, j, p, _, _, _, _, _, _, _, _, _, _, _, _, _, _, _, _, _, _, _, _, _, _, _, _, _, _, _, _, _, _, _, _, _, _, _, rfl, hp, hj⟩
set_option maxRecDepth 100000 in
set_option maxHeartbeats 4000000 in
theorem idx_find (hN : ∃ k, k ≤ 8 ∧ N = 2 ^ k) (key : Int) (h0 : 0 ≤ key) (h1 : key ≤ 1048576) (hl : T.length = N) (hf : FoundAt N T (key + 1) (findL N T (key + 1))) (H : IdxAt w x b N T c) :
    Calls Try.prog 49 #[.pointer (some ⟨x, 0, none⟩), .int .i64 key] w fun e w' => e = .returned (.int .i64 (findL N T (key + 1) : Nat)) ∧ w = w' := by
  obtain ⟨n0, n1⟩ := pow_le hN
  have hh := hm_lt (key + 1) n0
  have hmk : bits .and .i64 key ((N : Int) - 1) = (wr N (hm N (key + 1) + 0) : Nat) := by
    obtain ⟨k, rfl⟩ := Int.eq_ofNat_of_zero_le h0
    have := mask_of hN k (by omega)
    rw [this]
    have e : hm N ((k : Int) + 1) = k % N := by unfold hm; rw [Int.add_sub_cancel]; exact_mod_cast rfl
    rw [e] at hh ⊢
    unfold wr; rw [Nat.add_zero, if_pos hh]
  have n0' : 0 < (N : Int) := by omega
  have n1' : (N : Int) ≤ 256 := by omega
  have HX := H.hx
  have HH := Lib.hid H
  have HF := Lib.hid hf
  have HN := Lib.hid hN
  have heq := eq_place
  apply blk_use HX; intro hg1 hc1 hz1 _ _ _ _ _
  clear H hN hf
  go_enter Try.func49, Try.ntmps49
  go_wp2_with fail
  refine wp_scope_jumps 0 (FindJ x key N T w) (fun a' _ => N - dist N (hm N (key + 1)) (intOf (a'.tmps.getD 5 undef)).toNat) rfl ?_ ?_
  · go_wp2_with fail
    go_step3
    have hj : 0 ≤ dist N (hm N (key + 1)) (findL N T (key + 1)) := Nat.zero_le _
    rw [show wr N (hm N (key + 1)) = wr N (hm N (key + 1) + 0) from rfl]
    have hF := HF.out
    have hfl := dist_lt hh hF.lt
    have hjN : 0 < N := n0
    have hy : wr N (hm N (key + 1) + 0) < N := wr_lt (by omega) n0
    have hdj := dist_wr (h := hm N (key + 1)) (d := 0) hh hjN
    have hnx : Hid (wr N (wr N (hm N (key + 1) + 0) + 1) = wr N (hm N (key + 1) + (0 + 1))) := by
      unfold Hid; have : 0 + 1 < N ∨ 0 + 1 = N := by omega
      unfold wr; split <;> split <;> (try split) <;> (try split) <;> omega
    obtain ⟨c0, c1⟩ := HH.out.cell (i := wr N (hm N (key + 1) + 0)) (by omega)
    have hat := hF.at_
    have hno := hF.no
    have hfj : 0 = dist N (hm N (key + 1)) (findL N T (key + 1)) → findL N T (key + 1) = wr N (hm N (key + 1) + 0) := by intro q; rw [q]; exact (wr_dist hh hF.lt).symm
    have HFJ := Lib.hid hfj
    have HDJ := Lib.hid hdj
    have hlt : 0 < dist N (hm N (key + 1)) (findL N T (key + 1)) → gt T (wr N (hm N (key + 1) + 0)) ≠ (0, 0) ∧ (gt T (wr N (hm N (key + 1) + 0))).1 ≠ key + 1 := fun q => hno 0 q
    have heqj : 0 = dist N (hm N (key + 1)) (findL N T (key + 1)) → gt T (wr N (hm N (key + 1) + 0)) = (0, 0) ∨ (gt T (wr N (hm N (key + 1) + 0))).1 = key + 1 := fun q => by rw [← hfj q]; exact hat
    clear hdj hat hno hfj hF
    generalize wr N (hm N (key + 1) + 0) = y at *
    have hcase : (gt T y = (0, 0) ∧ findL N T (key + 1) = y) ∨ (gt T y ≠ (0, 0) ∧ (gt T y).1 = key + 1 ∧ findL N T (key + 1) = y) ∨ (gt T y ≠ (0, 0) ∧ (gt T y).1 ≠ key + 1 ∧ 0 < dist N (hm N (key + 1)) (findL N T (key + 1))) := by
      rcases Nat.lt_or_eq_of_le hj with q | q
      · exact Or.inr (Or.inr ⟨(hlt q).1, (hlt q).2, q⟩)
      · by_cases e : gt T y = (0, 0)
        · exact Or.inl ⟨e, HFJ.out q⟩
        · exact Or.inr (Or.inl ⟨e, (heqj q).resolve_left e, HFJ.out q⟩)
    clear hlt heqj HFJ
    generalize hg : gt T y = g at *
    obtain ⟨g1, g2⟩ := g
    clear hg
    have hy' : (y : Int) < N := by omega
    rcases hcase with ⟨q1, q2⟩ | ⟨q1, q2, q3⟩ | ⟨q1, q2, q3⟩
    · obtain ⟨rfl, rfl⟩ := Prod.mk.inj q1
      have Q2 := Lib.hid q2
      clear q1 q2 hnx HDJ
      go_wp2_with fail
      simp only [Exit.jump]
      go_ret
      exact ⟨by rw [Q2.out]; rfl, rfl⟩
    · simp only at q2
      subst q2
      have Q3 := Lib.hid q3
      have zb : (key + 1 == 0) = false := by rw [beq_eq_false_iff_ne]; omega
      clear q1 q3 hnx HDJ
      go_wp2_with fail
      simp only [Exit.jump]
      go_ret
      exact ⟨by rw [Q3.out]; rfl, rfl⟩
    · simp only at q2
      have q4 : ¬ (g1 = 0 ∧ g2 = 0) := fun e => q1 (by rw [e.1, e.2])
      have Q3 := Lib.hid q3
      clear q1 q3
      by_cases z1 : g1 = 0
      · have z2 : ¬ g2 = 0 := fun e => q4 ⟨z1, e⟩
        subst z1
        have zb1 : (g2 == 0) = false := by rw [beq_eq_false_iff_ne]; exact z2
        have zb2 : ((0 : Int) == key + 1) = false := by rw [beq_eq_false_iff_ne]; omega
        clear q4 q2 z2
        go_wp2_with fail
        with_reducible refine (idx_next HN.out y hy HH.out).mono ?_
        rintro e w'' ⟨rfl, rfl⟩
        go_wp2_with fail
        go_step3
        exact ⟨rfl, FindJ.mk (0 + 1) hnx.out (by have := Q3.out; omega)⟩
      · have zb1 : (g1 == 0) = false := by rw [beq_eq_false_iff_ne]; exact z1
        have zb2 : (g1 == key + 1) = false := by rw [beq_eq_false_iff_ne]; exact q2
        clear q4 q2 z1
        go_wp2_with fail
        with_reducible refine (idx_next HN.out y hy HH.out).mono ?_
        rintro e w'' ⟨rfl, rfl⟩
        go_wp2_with fail
        go_step3
        exact ⟨rfl, FindJ.mk (0 + 1) hnx.out (by have := Q3.out; omega)⟩
  · rintro a' w' ⟨rfl, j, p, u4, u6, u7, u8, u9, u10, u11, u12, u13, u14, u15, u16, u17, u18, u19, u20, u21, u22, u23, u24, u25, u26, u27, u28, u29, u30, u31, u32, u33, u34, u35, u36, u37, u38, u39, rfl, hp, hj⟩
    subst hp
    have hF := HF.out
    have hfl := dist_lt hh hF.lt
    have hjN : j < N := by omega
    have hy : wr N (hm N (key + 1) + j) < N := wr_lt (by omega) n0
    have hdj := dist_wr (h := hm N (key + 1)) (d := j) hh hjN
    have hnx : Hid (wr N (wr N (hm N (key + 1) + j) + 1) = wr N (hm N (key + 1) + (j + 1))) := by
      unfold Hid; have : j + 1 < N ∨ j + 1 = N := by omega
      unfold wr; split <;> split <;> (try split) <;> (try split) <;> omega
    obtain ⟨c0, c1⟩ := HH.out.cell (i := wr N (hm N (key + 1) + j)) (by omega)
    have hat := hF.at_
    have hno := hF.no
    have hfj : j = dist N (hm N (key + 1)) (findL N T (key + 1)) → findL N T (key + 1) = wr N (hm N (key + 1) + j) := by rintro rfl; exact (wr_dist hh hF.lt).symm
    have HFJ := Lib.hid hfj
    have HDJ := Lib.hid hdj
    have hlt : j < dist N (hm N (key + 1)) (findL N T (key + 1)) → gt T (wr N (hm N (key + 1) + j)) ≠ (0, 0) ∧ (gt T (wr N (hm N (key + 1) + j))).1 ≠ key + 1 := fun q => hno j q
    have heqj : j = dist N (hm N (key + 1)) (findL N T (key + 1)) → gt T (wr N (hm N (key + 1) + j)) = (0, 0) ∨ (gt T (wr N (hm N (key + 1) + j))).1 = key + 1 := fun q => by rw [← hfj q]; exact hat
    clear hdj hat hno hfj hF
    generalize wr N (hm N (key + 1) + j) = y at *
    have hcase : (gt T y = (0, 0) ∧ findL N T (key + 1) = y) ∨ (gt T y ≠ (0, 0) ∧ (gt T y).1 = key + 1 ∧ findL N T (key + 1) = y) ∨ (gt T y ≠ (0, 0) ∧ (gt T y).1 ≠ key + 1 ∧ j < dist N (hm N (key + 1)) (findL N T (key + 1))) := by
      rcases Nat.lt_or_eq_of_le hj with q | q
      · exact Or.inr (Or.inr ⟨(hlt q).1, (hlt q).2, q⟩)
      · by_cases e : gt T y = (0, 0)
        · exact Or.inl ⟨e, HFJ.out q⟩
        · exact Or.inr (Or.inl ⟨e, (heqj q).resolve_left e, HFJ.out q⟩)
    clear hlt heqj HFJ
    generalize hg : gt T y = g at *
    obtain ⟨g1, g2⟩ := g
    clear hg
    have hy' : (y : Int) < N := by omega
    rcases hcase with ⟨q1, q2⟩ | ⟨q1, q2, q3⟩ | ⟨q1, q2, q3⟩
    · obtain ⟨rfl, rfl⟩ := Prod.mk.inj q1
      have Q2 := Lib.hid q2
      clear q1 q2 hnx HDJ
      go_wp2_with fail
      simp only [Exit.jump]
      go_ret
      exact ⟨by rw [Q2.out]; rfl, rfl⟩
    · simp only at q2
      subst q2
      have Q3 := Lib.hid q3
      have zb : (key + 1 == 0) = false := by rw [beq_eq_false_iff_ne]; omega
      clear q1 q3 hnx HDJ
      go_wp2_with fail
      simp only [Exit.jump]
      go_ret
      exact ⟨by rw [Q3.out]; rfl, rfl⟩
    · simp only at q2
      have q4 : ¬ (g1 = 0 ∧ g2 = 0) := fun e => q1 (by rw [e.1, e.2])
      have Q3 := Lib.hid q3
      clear q1 q3
      by_cases z1 : g1 = 0
      · have z2 : ¬ g2 = 0 := fun e => q4 ⟨z1, e⟩
        subst z1
        have zb1 : (g2 == 0) = false := by rw [beq_eq_false_iff_ne]; exact z2
        have zb2 : ((0 : Int) == key + 1) = false := by rw [beq_eq_false_iff_ne]; omega
        clear q4 q2 z2
        go_wp2_with fail
        with_reducible refine (idx_next HN.out y hy HH.out).mono ?_
        rintro e w'' ⟨rfl, rfl⟩
        go_wp2_with fail
        go_step3
        refine ⟨rfl, FindJ.mk (j + 1) hnx.out (by have := Q3.out; omega), ?_⟩
        have hd2 := dist_wr (h := hm N (key + 1)) (d := j + 1) hh (by have := Q3.out; omega)
        have hnx := hnx.out
        show N - dist N (hm N (key + 1)) ((wr N (y + 1) : Nat) : Int).toNat < N - dist N (hm N (key + 1)) ((y : Nat) : Int).toNat
        rw [Int.toNat_natCast, Int.toNat_natCast, hnx, hd2, HDJ.out]
        omega
      · have zb1 : (g1 == 0) = false := by rw [beq_eq_false_iff_ne]; exact z1
        have zb2 : (g1 == key + 1) = false := by rw [beq_eq_false_iff_ne]; exact q2
        clear q4 q2 z1
        go_wp2_with fail
        with_reducible refine (idx_next HN.out y hy HH.out).mono ?_
        rintro e w'' ⟨rfl, rfl⟩
        go_wp2_with fail
        go_step3
        refine ⟨rfl, FindJ.mk (j + 1) hnx.out (by have := Q3.out; omega), ?_⟩
        have hd2 := dist_wr (h := hm N (key + 1)) (d := j + 1) hh (by have := Q3.out; omega)
        have hnx := hnx.out
        show N - dist N (hm N (key + 1)) ((wr N (y + 1) : Nat) : Int).toNat < N - dist N (hm N (key + 1)) ((y : Nat) : Int).toNat
        rw [Int.toNat_natCast, Int.toNat_natCast, hnx, hd2, HDJ.out]
        omega
end
end Go.Proofs.Ytobekkgaildbgaa
