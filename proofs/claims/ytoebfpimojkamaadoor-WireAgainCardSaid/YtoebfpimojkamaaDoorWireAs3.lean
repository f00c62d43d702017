/- errors.As, as package wire asks it, of an error of errors.New's: no. -/
import Derived.Test.YtoebfpimojkamaaDoorWireAs2
import Derived.Stop.Asserts
namespace Go.Proofs.YtoebfpimojkamaaDoor
open Go.RowKit

theorem af_typeOf (a : Addr) (w : World) : (callFunc 44 #[.iface 103 (.pointer (some a))]).run Tryd.prog w = .ok (.value (.iface 90 (.agg #[hnd 103]))) w := by kernel_rfl
theorem af_assign (w : World) : (callFunc 69 #[.agg #[hnd 103], .iface 90 (.agg #[hnd 74])]).run Tryd.prog w = .ok (.value (.bool false)) w := by kernel_rfl
theorem af_noAs (v : Value) (xT : TypeId) (w : World) : (Instr.typeAssert (.iface 103 v) xT 95 true).run Tryd.prog w = .ok (.tuple #[.nilIface, .bool false]) w := run_typeAssert_lacksB Tryd.underlying95 (by kernel_rfl) (by kernel_rfl) v xT w
theorem af_noU (v : Value) (xT : TypeId) (w : World) : (Instr.typeAssert (.iface 103 v) xT 98 true).run Tryd.prog w = .ok (.tuple #[.nilIface, .bool false]) w := run_typeAssert_lacksB Tryd.underlying98 (by kernel_rfl) (by kernel_rfl) v xT w
theorem af_noUs (v : Value) (xT : TypeId) (w : World) : (Instr.typeAssert (.iface 103 v) xT 100 true).run Tryd.prog w = .ok (.tuple #[.nilIface, .bool false]) w := run_typeAssert_lacksB Tryd.underlying100 (by kernel_rfl) (by kernel_rfl) v xT w

set_option maxRecDepth 100000 in
set_option maxHeartbeats 2000000 in
theorem as43_form (b q : Nat) (a : Addr) (w : World) :
    Calls Tryd.prog 43 #[.iface 103 (.pointer (some a)), .iface 76 (.pointer (some ⟨b, 0, none⟩)), .agg #[hnd 76, .pointer (some ⟨q, 0, none⟩), .int .u64 150], .iface 90 (.agg #[hnd 74])] w fun e w' =>
      e = .returned (.bool false) ∧ Fr [] w w' := by
  have h1 := af_typeOf a
  have h2 := as_mAss
  have h3 := af_assign
  have h4 := af_noAs
  have h5 := af_noU
  have h6 := af_noUs
  go_enter Tryd.func43, Tryd.ntmps43
  go_wp2_with fail
  go_loopw [0] (fun u w' => u = .iface 103 (.pointer (some a)) ∧ Fr [] w w') (fun _ _ => 0)
  case atStart => exact ⟨rfl, (by repeat' (first | (with_reducible exact Fr.refl _ _) | (with_reducible assumption) | (with_reducible refine Fr.drew ?_) | (with_reducible refine Fr.drewN ?_ _) | (with_reducible refine Fr.alloc ?_ _) | ((with_reducible refine Fr.setNew ?_ _ ?_ _); rotate_left; (focus (first | (with_reducible assumption) | exact Nat.le_of_lt (by with_reducible assumption) | (focus (simp +arith; done)) | exact Nat.le_trans (by with_reducible assumption) (by simp +arith; done) | (simp; done)))) | ((with_reducible refine Fr.setOld ?_ _ ?_ _); rotate_left; (focus (simp; done)))))⟩
  case round =>
    obtain ⟨rfl, F1⟩ := hrel
    go_wp2_with fail
    go_ret
    exact ⟨rfl, (by repeat' (first | (with_reducible exact Fr.refl _ _) | (with_reducible assumption) | (with_reducible refine Fr.drew ?_) | (with_reducible refine Fr.drewN ?_ _) | (with_reducible refine Fr.alloc ?_ _) | ((with_reducible refine Fr.setNew ?_ _ ?_ _); rotate_left; (focus (first | (with_reducible assumption) | exact Nat.le_of_lt (by with_reducible assumption) | (focus (simp +arith; done)) | exact Nat.le_trans (by with_reducible assumption) (by simp +arith; done) | (simp; done)))) | ((with_reducible refine Fr.setOld ?_ _ ?_ _); rotate_left; (focus (simp; done)))))⟩

set_option maxRecDepth 100000 in
set_option maxHeartbeats 2000000 in
theorem as_form (b : Nat) (a : Addr) (z : Int) (w : World) (hb : w.heap[b]? = some (.cells #[.int .i64 z] 74)) (hG : w.cell? ⟨1, 0, none⟩ = some (.iface 90 (.agg #[hnd 62]))) (hl1 : 1 < w.heap.size) :
    Calls Tryd.prog 39 #[.iface 103 (.pointer (some a)), .iface 76 (.pointer (some ⟨b, 0, none⟩))] w fun e w' => e = .returned (.bool false) ∧ Fr [] w w' := by
  have h1 := as_valueOf_ptr b
  have h2 := as_type
  have h3 := as_mKind
  have h4 := as_mElem
  have h5 := as_mImpl
  have h6 := as_kind_ptr
  have h7 := as_kind_short
  have h8 := as_elem
  have h9 := as_impl
  have bl := lt_of_heap hb
  refine side_use (hl1) ?_; intro _ _ _ _ _
  go_enter Tryd.func39, Tryd.ntmps39
  go_wp2_with fail
  rw [as_isNil _ b _ (by (repeat (first | (with_reducible assumption) | ((with_reducible refine heap_alloc_at ?_ _); first | (with_reducible rfl) | (focus (simp; done))) | (with_reducible apply heap_alloc_old) | ((with_reducible apply heap_set_other); (case hne => (first | (with_reducible assumption) | exact Nat.ne_of_lt (by with_reducible assumption) | exact Nat.ne_of_gt (by with_reducible assumption) | (focus (simp +arith; done)) | (simp; done)))) | (with_reducible apply heap_set_eq) | (with_reducible apply heap_drew_of) | (with_reducible apply heap_drewN_of))))]
  go_wp2_with fail
  refine (as43_form b _ a _).mono ?_
  rintro e w1 ⟨rfl, f1⟩
  go_wp2
  go_ret
  exact ⟨rfl, Fr.trans (S := []) (by repeat' (first | (with_reducible exact Fr.refl _ _) | (with_reducible assumption) | (with_reducible refine Fr.drew ?_) | (with_reducible refine Fr.drewN ?_ _) | (with_reducible refine Fr.alloc ?_ _) | ((with_reducible refine Fr.setNew ?_ _ ?_ _); rotate_left; (focus (first | (with_reducible assumption) | exact Nat.le_of_lt (by with_reducible assumption) | (focus (simp +arith; done)) | exact Nat.le_trans (by with_reducible assumption) (by simp +arith; done) | (simp; done)))) | ((with_reducible refine Fr.setOld ?_ _ ?_ _); rotate_left; (focus (simp; done))))) f1⟩

end Go.Proofs.YtoebfpimojkamaaDoor
