/- Contracts of the reference of layer 9, in the words of package amp's contracts. -/
import Derived.Test.YtoapobhdpgcmbaaAmpNo
import Derived.Test.YtoapobhdpgcmbaaAmpRead
namespace Go.Proofs.Ytoapobhdpgcmbaa
open Go.RowKit

def lateG (p g : Int) : Int := if 1 ≤ p ∧ 0 ≤ g ∧ g < p - 1 then g + 1 else g
theorem alateG_eq {p g : Int} (hp : p ≤ 9223372036854775807) : alateG p g = lateG p g := by
  unfold alateG lateG
  by_cases hs : asoundB p g = true
  · obtain ⟨s1, s2, s3⟩ := (asoundB_iff hp).1 hs
    rw [if_pos hs, show wrap64 (g + 1) = g + 1 by unfold wrap64; omega, show wrap64 (p - 1) = p - 1 by unfold wrap64; omega]
    split <;> omega
  · have hn : ¬ (1 ≤ p ∧ 0 ≤ g ∧ g ≤ p - 1) := fun h => hs ((asoundB_iff hp).2 h)
    rw [if_neg hs, if_neg (by omega)]

set_option maxHeartbeats 400000 in
theorem rlate_any (n a p g : Int) (hp : p ≤ 9223372036854775807) (w : World) :
    Calls Try.prog 57 #[.agg #[.int .i64 n, .int .i64 a, .int .i64 p, .int .i64 g]] w fun e w' => e = .returned (.agg #[.int .i64 n, .int .i64 a, .int .i64 p, .int .i64 (lateG p g)]) ∧ Fr [] w w' := by
  by_cases h1 : 1 ≤ p <;> by_cases h2 : 0 ≤ g <;> by_cases h3 : g < p - 1
  all_goals try (exfalso; omega)
  all_goals
    have HG : Hid (lateG p g = if 1 ≤ p ∧ 0 ≤ g ∧ g < p - 1 then g + 1 else g) := rfl
    go_enter Try.func57, Try.ntmps57
    go_wp2
    all_goals refine bodyPost_ret (v := .agg #[.int .i64 n, .int .i64 a, .int .i64 p, .int .i64 (lateG p g)]) (by simp [results, Try.results57, go_sem, HG.out, *] <;> omega) rfl ⟨rfl, (by repeat' (first | (with_reducible exact Fr.refl _ _) | (with_reducible assumption) | (with_reducible refine Fr.drew ?_) | (with_reducible refine Fr.drewN ?_ _) | (with_reducible refine Fr.alloc ?_ _) | ((with_reducible refine Fr.setNew ?_ _ ?_ _); rotate_left; (focus (first | (with_reducible assumption) | exact Nat.le_of_lt (by with_reducible assumption) | (focus (simp +arith; done)) | exact Nat.le_trans (by with_reducible assumption) (by simp +arith; done) | (simp; done)))) | ((with_reducible refine Fr.setOld ?_ _ ?_ _); rotate_left; (focus (simp; done)))))⟩

set_option maxHeartbeats 1000000 in
theorem rwaste_any (n a p g : Int) (hp : p ≤ 9223372036854775807) (w : World) :
    Calls Try.prog 58 #[.agg #[.int .i64 n, .int .i64 a, .int .i64 p, .int .i64 g]] w fun e w' => e = .returned (.agg #[.int .i64 n, .int .i64 a, .int .i64 (awasteP p g), .int .i64 (awasteG p g)]) ∧ Fr [] w w' := by
  by_cases h : 1 ≤ p ∧ 0 ≤ g ∧ g < p
  · have HP : Hid (awasteP p g = max (p - 1) 1) := if_pos h
    have HG : Hid (awasteG p g = min (max (g - 1) 0) (awasteP p g - 1)) := if_pos h
    obtain ⟨h1, h2, h3⟩ := h
    by_cases h4 : 1 < p <;> by_cases h5 : 0 < g
    all_goals try (exfalso; omega)
    all_goals
      go_enter Try.func58, Try.ntmps58
      go_wp2
      all_goals refine bodyPost_ret (v := .agg #[.int .i64 n, .int .i64 a, .int .i64 (awasteP p g), .int .i64 (awasteG p g)]) (by simp [results, Try.results58, go_sem, HP.out, HG.out, *] <;> omega) rfl ⟨rfl, (by repeat' (first | (with_reducible exact Fr.refl _ _) | (with_reducible assumption) | (with_reducible refine Fr.drew ?_) | (with_reducible refine Fr.drewN ?_ _) | (with_reducible refine Fr.alloc ?_ _) | ((with_reducible refine Fr.setNew ?_ _ ?_ _); rotate_left; (focus (first | (with_reducible assumption) | exact Nat.le_of_lt (by with_reducible assumption) | (focus (simp +arith; done)) | exact Nat.le_trans (by with_reducible assumption) (by simp +arith; done) | (simp; done)))) | ((with_reducible refine Fr.setOld ?_ _ ?_ _); rotate_left; (focus (simp; done)))))⟩
  · have HP : Hid (awasteP p g = p) := if_neg h
    have HG : Hid (awasteG p g = g) := if_neg h
    by_cases h1 : 1 ≤ p <;> by_cases h2 : 0 ≤ g <;> by_cases h3 : g < p
    all_goals try (exfalso; omega)
    all_goals
      clear h
      go_enter Try.func58, Try.ntmps58
      go_wp2
      all_goals refine bodyPost_ret (v := .agg #[.int .i64 n, .int .i64 a, .int .i64 (awasteP p g), .int .i64 (awasteG p g)]) (by simp [results, Try.results58, go_sem, HP.out, HG.out, *]) rfl ⟨rfl, (by repeat' (first | (with_reducible exact Fr.refl _ _) | (with_reducible assumption) | (with_reducible refine Fr.drew ?_) | (with_reducible refine Fr.drewN ?_ _) | (with_reducible refine Fr.alloc ?_ _) | ((with_reducible refine Fr.setNew ?_ _ ?_ _); rotate_left; (focus (first | (with_reducible assumption) | exact Nat.le_of_lt (by with_reducible assumption) | (focus (simp +arith; done)) | exact Nat.le_trans (by with_reducible assumption) (by simp +arith; done) | (simp; done)))) | ((with_reducible refine Fr.setOld ?_ _ ?_ _); rotate_left; (focus (simp; done)))))⟩

set_option maxHeartbeats 1000000 in
theorem rmay_any (n a p g d b : Int) (w : World) :
    Calls Try.prog 26 #[.agg #[.int .i64 n, .int .i64 a, .int .i64 p, .int .i64 g], .int .i64 d, .int .i64 b] w fun e w' => e = .returned (.bool (amayB n a p g d b)) ∧ Fr [] w w' := by
  have HB : Hid (amayB n a p g d b = decide ((1 ≤ d ∧ d ≤ 16) ∧ (1 ≤ b ∧ b ≤ 256) ∧ (0 ≤ n ∧ n ≤ a) ∧ a ≤ b ∧ (1 ≤ p ∧ p ≤ d) ∧ (0 ≤ g ∧ g < p))) := by
    have := amayB_iff n a p g d b
    unfold Hid
    rw [Bool.eq_iff_iff, this]; simp
  go_enter Try.func26, Try.ntmps26
  go_wp2
  all_goals (go_ret; refine ⟨?_, (by repeat' (first | (with_reducible exact Fr.refl _ _) | (with_reducible assumption) | (with_reducible refine Fr.drew ?_) | (with_reducible refine Fr.drewN ?_ _) | (with_reducible refine Fr.alloc ?_ _) | ((with_reducible refine Fr.setNew ?_ _ ?_ _); rotate_left; (focus (first | (with_reducible assumption) | exact Nat.le_of_lt (by with_reducible assumption) | (focus (simp +arith; done)) | exact Nat.le_trans (by with_reducible assumption) (by simp +arith; done) | (simp; done)))) | ((with_reducible refine Fr.setOld ?_ _ ?_ _); rotate_left; (focus (simp; done)))))⟩; refine ret_bool ?_; rw [HB.out])
  all_goals (first | (rw [decide_eq_decide]; omega) | (symm; apply decide_eq_true; omega) | (symm; apply decide_eq_false; omega) | (simp; omega) | trace_state)

end Go.Proofs.Ytoapobhdpgcmbaa
