/- Which operations can be written: package wire's word for it, and the reference's. -/
import Derived.Test.YtoebfpimojkamaaDoorWirePut
namespace Go.Proofs.YtoebfpimojkamaaDoor
open Go.RowKit

/-- An operation that can be written. -/
def canP (k id f c : Int) (vl : Nat) (wl : Bool) : Prop :=
  (1 ≤ k ∧ k ≤ 5) ∧ (0 ≤ id ∧ id ≤ 65535) ∧ (0 ≤ f ∧ f ≤ 65535) ∧ (0 ≤ c ∧ c ≤ 255) ∧ vl ≤ 8 ∧ ¬ (k = 3 ∧ 0 < id) ∧ ¬ (3 < k ∧ 0 < f) ∧ ¬ (k ≠ 1 ∧ k ≠ 3 ∧ 0 < c) ∧ (k = 2 ∨ vl = 0) ∧ (k = 5 ∨ wl = false)
instance (k id f c : Int) (vl : Nat) (wl : Bool) : Decidable (canP k id f c vl wl) := by unfold canP; infer_instance

theorem canP_false (k id f c : Int) (vl : Nat) : canP k id f c vl false ↔ (1 ≤ k ∧ k ≤ 5) ∧ (0 ≤ id ∧ id ≤ 65535) ∧ (0 ≤ f ∧ f ≤ 65535) ∧ (0 ≤ c ∧ c ≤ 255) ∧ vl ≤ 8 ∧ ¬ (k = 3 ∧ 0 < id) ∧ ¬ (3 < k ∧ 0 < f) ∧ ¬ (k ≠ 1 ∧ k ≠ 3 ∧ 0 < c) ∧ (k = 2 ∨ vl = 0) := by simp [canP]
theorem canP_true (k id f c : Int) (vl : Nat) : canP k id f c vl true ↔ k = 5 ∧ (0 ≤ id ∧ id ≤ 65535) ∧ f = 0 ∧ c = 0 ∧ vl = 0 := by
  simp only [canP, Bool.true_eq_false, or_false]
  omega

set_option maxRecDepth 100000 in
set_option maxHeartbeats 4000000 in
theorem wfits (k id f c : Int) (A : Option Addr) (vl vc : Nat) (wl : Bool) (hv : vl ≤ 1000000) (w : World) :
    Calls Tryd.prog 26 #[.agg #[.int .i64 k, .int .i64 id, .int .i64 f, .int .i64 c, .slice A vl vc, .bool wl]] w fun e w' => e = .returned (.bool (decide (canP k id f c vl wl))) ∧ Fr [] w w' := by
  have hv' : (vl : Int) ≤ 1000000 := by omega
  cases wl
  all_goals
    go_enter Tryd.func26, Tryd.ntmps26
    go_wp2
    all_goals (go_ret; refine ⟨ret_bool ?_, (by repeat' (first | (with_reducible exact Fr.refl _ _) | (with_reducible assumption) | (with_reducible refine Fr.drew ?_) | (with_reducible refine Fr.drewN ?_ _) | (with_reducible refine Fr.alloc ?_ _) | ((with_reducible refine Fr.setNew ?_ _ ?_ _); rotate_left; (focus (first | (with_reducible assumption) | exact Nat.le_of_lt (by with_reducible assumption) | (focus (simp +arith; done)) | exact Nat.le_trans (by with_reducible assumption) (by simp +arith; done) | (simp; done)))) | ((with_reducible refine Fr.setOld ?_ _ ?_ _); rotate_left; (focus (simp; done)))))⟩)
    all_goals
      (try simp only [bne_iff_ne, beq_iff_eq, Bool.not_eq_true', Bool.not_eq_true, bne_eq_false_iff_eq, beq_eq_false_iff_ne, ne_eq, Bool.not_eq_eq_eq_not, Bool.not_true, Bool.not_false, Decidable.not_not] at *)
      first
      | (symm; apply decide_eq_false; rw [canP_false]; omega)
      | (symm; apply decide_eq_false; rw [canP_true]; omega)
      | (symm; apply decide_eq_true; rw [canP_false]; omega)
      | (symm; apply decide_eq_true; rw [canP_true]; omega)
      | (rw [Bool.eq_iff_iff]; simp only [beq_iff_eq, bne_iff_ne, ne_eq, decide_eq_true_eq, Bool.and_eq_true, Bool.or_eq_true]; rw [canP_false]; omega)
      | (rw [Bool.eq_iff_iff]; simp only [beq_iff_eq, bne_iff_ne, ne_eq, decide_eq_true_eq, Bool.and_eq_true, Bool.or_eq_true]; rw [canP_true]; omega)
      | trace_state

end Go.Proofs.YtoebfpimojkamaaDoor
