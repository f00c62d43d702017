/- AmpTunes answers true at every pace, and changes nothing that was there. -/
import Derived.Test.YtmhdnafdbgbmfaaAmpAwake
import Derived.Test.YtmhdnafdbgbmfaaGlue
import Derived.Test.YtmhdnafdbgbmfaaReg
import Derived.Lib.Hide
namespace Go.Proofs.Ytmhdnafdbgbmfaa
open Go.RowKit

set_option maxRecDepth 100000 in
set_option maxHeartbeats 4000000 in
theorem tunes_walk (n a p g : Int) (wn : (Lit.int .i64 n).wf = true) (wa : (Lit.int .i64 a).wf = true) (wp : (Lit.int .i64 p).wf = true) (wg : (Lit.int .i64 g).wf = true) (w : World) :
    Calls Try.prog 4 #[.agg #[.int .i64 n, .int .i64 a, .int .i64 p, .int .i64 g]] w fun e w' => e = .returned (.bool true) ∧ Fr [] w w' := by
  obtain ⟨a0, a1⟩ := i64_bounds wa
  obtain ⟨p0, p1⟩ := i64_bounds wp
  obtain ⟨g0, g1⟩ := i64_bounds wg
  clear wn wa wp wg
  have HL := Lib.hid (alateG_eq (p := p) (g := g) p1)
  by_cases h1 : 0 ≤ a <;> by_cases h2 : 0 ≤ g
  all_goals
    have HT : Hid (atrig a g = if 0 ≤ a ∧ 0 ≤ g then a - 1 - g else 0) := by
      unfold Hid atrig
      by_cases h : 0 ≤ a ∧ 0 ≤ g
      · rw [if_neg (by omega), if_pos h, show wrap64 (a - 1) = a - 1 by unfold wrap64; omega]; unfold wrap64; omega
      · rw [if_pos (by omega), if_neg h]
    have fol : Try.prog.follows .mixedOrders = true := by kernel_rfl
    go_enter Try.func4, Try.ntmps4
    go_wp2_with (go_at_call 14; (with_reducible refine (aawake_any _).mono ?_); rintro e w1 ⟨rfl, f1⟩; apply f1.use (k := w.heap.size); (focus (repeat (first | (with_reducible assumption) | ((with_reducible refine heap_alloc_at ?_ _); first | (with_reducible rfl) | (focus (simp; done))) | (with_reducible apply heap_alloc_old) | ((with_reducible apply heap_set_other); (case hne => (first | (with_reducible assumption) | exact Nat.ne_of_lt (by with_reducible assumption) | exact Nat.ne_of_gt (by with_reducible assumption) | (focus (simp +arith; done)) | (simp; done)))) | (with_reducible apply heap_set_eq) | (with_reducible apply heap_drew_of) | (with_reducible apply heap_drewN_of)))); (focus (simp; done)); intro hg1 hc1 hz1 _ _ _ _ _; (try simp only [List.setIfInBounds_toArray, List.set_cons_zero, List.set_cons_succ] at hg1 hc1); have F1 : Fr [] w w1 := Fr.trans (by repeat' (first | (with_reducible exact Fr.refl _ _) | (with_reducible assumption) | (with_reducible refine Fr.drew ?_) | (with_reducible refine Fr.drewN ?_ _) | (with_reducible refine Fr.alloc ?_ _) | ((with_reducible refine Fr.setNew ?_ _ ?_ _); rotate_left; (focus (first | (with_reducible assumption) | exact Nat.le_of_lt (by with_reducible assumption) | (focus (simp +arith; done)) | exact Nat.le_trans (by with_reducible assumption) (by simp +arith; done) | (simp; done)))) | ((with_reducible refine Fr.setOld ?_ _ ?_ _); rotate_left; (focus (simp; done))))) f1; clear f1)
    refine wp_region_seq_lit (fun w' => w'.heap[w.heap.size]? = some (.cells #[.int .i64 n, .int .i64 a, .int .i64 p, .int .i64 g] 23) ∧ Fr [] w w') fol (by kernel_rfl) ⟨hg1, F1.drew⟩ ?_
    clear hg1 hc1 hz1 F1
    (repeat (apply SeqS.cons; (focus (intro wv hSv; obtain ⟨s1, s2⟩ := hSv; apply blk_use s1; intro hg21 hc21 hz21 _ _ _ _ _; go_wp2_with (first
      | (go_at_call 19; (with_reducible refine (alate_any _ _ _ _ _).mono ?_); rintro e w5 ⟨rfl, f5⟩; rw [HL.out]; have s1 := f5.heap s1 (by simp); have s2 := s2.trans f5)
      | (go_at_call 20; (with_reducible refine (rlate_any _ _ _ _ p1 _).mono ?_); rintro e w5 ⟨rfl, f5⟩; have s1 := f5.heap s1 (by simp); have s2 := s2.trans f5)
      | (go_at_call 21; (with_reducible refine (awaste_any _ _ _ _ p1 _).mono ?_); rintro e w5 ⟨rfl, f5⟩; have s1 := f5.heap s1 (by simp); have s2 := s2.trans f5)
      | (go_at_call 22; (with_reducible refine (rwaste_any _ _ _ _ p1 _).mono ?_); rintro e w5 ⟨rfl, f5⟩; have s1 := f5.heap s1 (by simp); have s2 := s2.trans f5)
      | (go_at_call 23; (with_reducible refine (atrig_any _ _ _ _ _).mono ?_); rintro e w5 ⟨rfl, f5⟩; rw [HT.out]; have s1 := f5.heap s1 (by simp); have s2 := s2.trans f5)
      | (go_at_call 24; (with_reducible refine (astart_any _ _).mono ?_); rintro e w5 ⟨rfl, f5⟩; have s1 := f5.heap s1 (by simp); have s2 := s2.trans f5)); exact StepPost.mk rfl ⟨s1, s2⟩)); (try simp only [Act.put, List.setIfInBounds_toArray, List.set_cons_zero, List.set_cons_succ])))
    refine SeqS.nil ?_
    intro w5 hS5
    obtain ⟨s1, F5⟩ := hS5
    go_wp2
    go_ret
    exact ⟨rfl, (by repeat' (first | (with_reducible exact Fr.refl _ _) | (with_reducible assumption) | (with_reducible refine Fr.drew ?_) | (with_reducible refine Fr.drewN ?_ _) | (with_reducible refine Fr.alloc ?_ _) | ((with_reducible refine Fr.setNew ?_ _ ?_ _); rotate_left; (focus (first | (with_reducible assumption) | exact Nat.le_of_lt (by with_reducible assumption) | (focus (simp +arith; done)) | exact Nat.le_trans (by with_reducible assumption) (by simp +arith; done) | (simp; done)))) | ((with_reducible refine Fr.setOld ?_ _ ?_ _); rotate_left; (focus (simp; done)))))⟩

end Go.Proofs.Ytmhdnafdbgbmfaa
