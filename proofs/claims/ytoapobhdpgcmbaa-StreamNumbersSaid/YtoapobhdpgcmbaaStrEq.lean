/- Are two streams, or what was found, the same? -/
import Derived.Test.YtoapobhdpgcmbaaGen
namespace Go.Proofs.Ytoapobhdpgcmbaa
open Go.RowKit

theorem eq_flow (d : Nat) (a1 a2 a3 a4 b1 b2 b3 b4 : Int) (w : World) : (Op.equalIn (d + 2) 57 (.agg #[.int .i64 a1, .int .i64 a2, .int .i64 a3, .int .i64 a4]) (.agg #[.int .i64 b1, .int .i64 b2, .int .i64 b3, .int .i64 b4])).run Try.prog w = .ok (a1 == b1 && a2 == b2 && a3 == b3 && a4 == b4) w := by
  have hu := Try.underlying57
  have k3 := Try.isAgg3
  have u3 := Try.underlying3
  rw [Op.equalIn]
  simp [run_underlying hu, go_sem, List.range', k3]
  by_cases h1 : a1 = b1 <;> by_cases h2 : a2 = b2 <;> by_cases h3 : a3 = b3 <;> by_cases h4 : a4 = b4 <;> simp [h1, h2, h3, h4, go_sem]
theorem eq_run (d : Nat) (a1 a2 b1 b2 : Int) (w : World) : (Op.equalIn (d + 2) 36 (.agg #[.int .i64 a1, .int .i64 a2]) (.agg #[.int .i64 b1, .int .i64 b2])).run Try.prog w = .ok (a1 == b1 && a2 == b2) w := by
  have hu := Try.underlying36
  have k3 := Try.isAgg3
  have u3 := Try.underlying3
  rw [Op.equalIn]
  simp [run_underlying hu, go_sem, List.range', k3]
  by_cases h1 : a1 = b1 <;> by_cases h2 : a2 = b2 <;> simp [h1, h2, go_sem]
theorem eq_str (i a1 a2 a3 a4 u j b1 b2 b3 b4 v : Int) (w : World) : (Op.equalIn 10000 59 (.agg #[.int .i64 i, .int .i64 a1, .int .i64 a2, .int .i64 a3, .int .i64 a4, .int .i64 u]) (.agg #[.int .i64 j, .int .i64 b1, .int .i64 b2, .int .i64 b3, .int .i64 b4, .int .i64 v])).run Try.prog w = .ok (i == j && (a1 == b1 && a2 == b2 && a3 == b3 && a4 == b4) && u == v) w := by
  have hu := Try.underlying59
  have k3 := Try.isAgg3
  have k4 := Try.isAgg57
  have u3 := Try.underlying3
  have hf := Try.underlying57
  rw [show (10000 : Nat) = 9999 + 1 from rfl, Op.equalIn]
  simp [run_underlying hu, go_sem, List.range', k3, k4]
  by_cases h0 : i = j <;> by_cases h1 : a1 = b1 <;> by_cases h2 : a2 = b2 <;> by_cases h3 : a3 = b3 <;> by_cases h4 : a4 = b4 <;> by_cases h5 : u = v <;> simp [h0, h1, h2, h3, h4, h5, go_sem]
theorem eq_fnd (i a1 a2 j b1 b2 : Int) (w : World) : (Op.equalIn 10000 38 (.agg #[.int .i64 i, .int .i64 a1, .int .i64 a2]) (.agg #[.int .i64 j, .int .i64 b1, .int .i64 b2])).run Try.prog w = .ok (i == j && (a1 == b1 && a2 == b2)) w := by
  have hu := Try.underlying38
  have k3 := Try.isAgg3
  have k4 := Try.isAgg36
  have u3 := Try.underlying3
  rw [show (10000 : Nat) = 9999 + 1 from rfl, Op.equalIn]
  simp [run_underlying hu, go_sem, List.range', k3, k4]
  by_cases h0 : i = j <;> by_cases h1 : a1 = b1 <;> by_cases h2 : a2 = b2 <;> simp [h0, h1, h2, go_sem]
end Go.Proofs.Ytoapobhdpgcmbaa
