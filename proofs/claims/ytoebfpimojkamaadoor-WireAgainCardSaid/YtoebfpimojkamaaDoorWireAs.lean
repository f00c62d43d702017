/- errors.As, as package wire asks it. -/
import Derived.Test.YtoebfpimojkamaaDoorBase
import Derived.Lib.Hide
import Derived.KernelRfl
namespace Go.Proofs.YtoebfpimojkamaaDoor
open Go.RowKit

abbrev hnd (t : TypeId) : Value := .pointer (some ⟨2, t, none⟩)

theorem as_valueOf_ptr (b : Nat) (w : World) : (callFunc 40 #[.iface 76 (.pointer (some ⟨b, 0, none⟩))]).run Tryd.prog w =
    .ok (.value (.agg #[hnd 76, .pointer (some ⟨w.heap.size, 0, none⟩), .int .u64 150])) (w.alloc (.cells #[.pointer (some ⟨b, 0, none⟩)] 76)) := by kernel_rfl
theorem as_valueOf_short (m : Int) (w : World) : (callFunc 40 #[.iface 74 (.agg #[.int .i64 m])]).run Tryd.prog w =
    .ok (.value (.agg #[hnd 74, .pointer (some ⟨w.heap.size, 0, none⟩), .int .u64 153])) (w.alloc (.cells #[.int .i64 m] 74)) := by kernel_rfl
theorem as_type (q : Nat) (w : World) : (callFunc 41 #[.agg #[hnd 76, .pointer (some ⟨q, 0, none⟩), .int .u64 150]]).run Tryd.prog w =
    .ok (.value (.iface 90 (.agg #[hnd 76]))) w := by kernel_rfl

set_option maxHeartbeats 1000000 in
theorem as_nil (b : Nat) (w : World) :
    Calls Tryd.prog 39 #[.nilIface, .iface 76 (.pointer (some ⟨b, 0, none⟩))] w fun e w' => e = .returned (.bool false) ∧ w = w' := by
  go_enter Tryd.func39, Tryd.ntmps39
  go_wp2
  go_ret
  exact ⟨rfl, rfl⟩

theorem as_mKind (t : TypeId) (w : World) : (method 236 90 (.agg #[hnd t]) "Kind").run Tryd.prog w = .ok (61, hnd t) w := by kernel_rfl
theorem as_mElem (t : TypeId) (w : World) : (method 236 90 (.agg #[hnd t]) "Elem").run Tryd.prog w = .ok (71, .agg #[hnd t]) w := by kernel_rfl
theorem as_mImpl (t : TypeId) (w : World) : (method 236 90 (.agg #[hnd t]) "Implements").run Tryd.prog w = .ok (72, .agg #[hnd t]) w := by kernel_rfl
theorem as_mAss (t : TypeId) (w : World) : (method 236 90 (.agg #[hnd t]) "AssignableTo").run Tryd.prog w = .ok (69, .agg #[hnd t]) w := by kernel_rfl
theorem as_kind_ptr (w : World) : (callFunc 61 #[hnd 76]).run Tryd.prog w = .ok (.value (.int .u8 22)) w := by kernel_rfl
theorem as_kind_short (w : World) : (callFunc 61 #[hnd 74]).run Tryd.prog w = .ok (.value (.int .u8 25)) w := by kernel_rfl
theorem as_elem (w : World) : (callFunc 71 #[.agg #[hnd 76]]).run Tryd.prog w = .ok (.value (.iface 90 (.agg #[hnd 74]))) w := by kernel_rfl
theorem as_impl (w : World) : (callFunc 72 #[.agg #[hnd 74], .iface 90 (.agg #[hnd 62])]).run Tryd.prog w = .ok (.value (.bool true)) w := by kernel_rfl
theorem as_assign (w : World) : (callFunc 69 #[.agg #[hnd 74], .iface 90 (.agg #[hnd 74])]).run Tryd.prog w = .ok (.value (.bool true)) w := by kernel_rfl
theorem as_typeOf (m : Int) (w : World) : (callFunc 44 #[.iface 74 (.agg #[.int .i64 m])]).run Tryd.prog w = .ok (.value (.iface 90 (.agg #[hnd 74]))) w := by kernel_rfl
theorem as_fnIsNil : Extern.find Tryd.f42 = some (Extern.ReflectliteValue.method (Extern.ReflectliteValue.valueError "reflectlite.Value.IsNil" 0) Extern.ReflectliteValue.isNil) := by kernel_rfl
theorem as_fnElem : Extern.find Tryd.f45 = some (Extern.ReflectliteValue.method (Extern.ReflectliteValue.valueError "reflectlite.Value.Elem" 0) Extern.ReflectliteValue.elem) := by kernel_rfl
theorem as_fnSet : Extern.find Tryd.f46 = some Extern.ReflectliteValue.set := by kernel_rfl
theorem as_method (z : Sem Value) (f : TypeId → Addr → Nat → Nat → Sem Value) (v : Value) (t : TypeId) (a : Addr) (fl : Nat) (w : World) (h : (Extern.ReflectliteValue.parts v).run Tryd.prog w = .ok (some (t, a, fl)) w) :
    (Extern.ReflectliteValue.method z f #[v]).run Tryd.prog w = (f t a fl (fl % 32)).run Tryd.prog w := by
  have e : Extern.ReflectliteValue.method z f #[v] = (Extern.ReflectliteValue.parts v >>= fun x => match x with | none => z | some (t, a, fl) => f t a fl (fl % 32)) := rfl
  rw [e, Sem.run_bind, h]
  rfl
theorem as_parts150 (q : Nat) (w : World) : (Extern.ReflectliteValue.parts (.agg #[hnd 76, .pointer (some ⟨q, 0, none⟩), .int .u64 150])).run Tryd.prog w = .ok (some (76, ⟨q, 0, none⟩, 150)) w := by kernel_rfl
theorem as_parts153 (q : Nat) (w : World) : (Extern.ReflectliteValue.parts (.agg #[hnd 74, .pointer (some ⟨q, 0, none⟩), .int .u64 153])).run Tryd.prog w = .ok (some (74, ⟨q, 0, none⟩, 153)) w := by kernel_rfl
theorem as_parts409 (q : Nat) (w : World) : (Extern.ReflectliteValue.parts (.agg #[hnd 74, .pointer (some ⟨q, 0, none⟩), .int .u64 409])).run Tryd.prog w = .ok (some (74, ⟨q, 0, none⟩, 409)) w := by kernel_rfl
theorem as_load (q b : Nat) (w : World) (h : w.heap[q]? = some (.cells #[.pointer (some ⟨b, 0, none⟩)] 76)) : (loadVar 76 ⟨q, 0, none⟩).run Tryd.prog w = .ok (.pointer (some ⟨b, 0, none⟩)) w := by
  have hc := blk_cell h 0
  have ha : ∀ w, (isAgg 76).run Tryd.prog w = .ok false w := fun _ => by kernel_rfl
  simp [loadVar, ha, hc, go_sem]
theorem as_isNil (q b : Nat) (w : World) (h : w.heap[q]? = some (.cells #[.pointer (some ⟨b, 0, none⟩)] 76)) : (callFunc 42 #[.agg #[hnd 76, .pointer (some ⟨q, 0, none⟩), .int .u64 150]]).run Tryd.prog w = .ok (.value (.bool false)) w := by
  rw [run_callFunc_extern (fn := Tryd.f42) (by kernel_rfl) (by kernel_rfl) (by kernel_rfl) (by kernel_rfl) as_fnIsNil, as_method _ _ _ _ _ _ _ (as_parts150 q w)]
  have e : Extern.ReflectliteValue.isNil 76 ⟨q, 0, none⟩ 150 (150 % 32) = (loadVar 76 ⟨q, 0, none⟩ >>= fun x => match x with | .chan none | .nilFunc | .nilIface | .map none | .pointer none | .slice none _ _ => pure (.bool true) | _ => pure (.bool false)) := rfl
  rw [e, Sem.run_bind, as_load q b w h]
  rfl
theorem as_vElem (q b : Nat) (w : World) (h : w.heap[q]? = some (.cells #[.pointer (some ⟨b, 0, none⟩)] 76)) : (callFunc 45 #[.agg #[hnd 76, .pointer (some ⟨q, 0, none⟩), .int .u64 150]]).run Tryd.prog w =
    .ok (.value (.agg #[hnd 74, .pointer (some ⟨b, 0, none⟩), .int .u64 409])) w := by
  rw [run_callFunc_extern (fn := Tryd.f45) (by kernel_rfl) (by kernel_rfl) (by kernel_rfl) (by kernel_rfl) as_fnElem, as_method _ _ _ _ _ _ _ (as_parts150 q w)]
  have he : ∀ w, (Extern.Rtype.elem? 76).run Tryd.prog w = .ok (some 74) w := fun _ => by kernel_rfl
  have hm : ∀ w, (Extern.ReflectliteValue.mk 74 ⟨b, 0, none⟩ Extern.ReflectliteValue.flagAddr).run Tryd.prog w = .ok (.agg #[hnd 74, .pointer (some ⟨b, 0, none⟩), .int .u64 409]) w := fun _ => by kernel_rfl
  unfold Extern.ReflectliteValue.elem
  simp only [Sem.run_bind, as_load q b w h, Result.andThen_ok, he]
  simp [Sem.run_bind, as_load q b w h, he, hm]
theorem as_set (q b : Nat) (m z : Int) (w : World) (h : w.heap[q]? = some (.cells #[.int .i64 m] 74)) (hb : w.heap[b]? = some (.cells #[.int .i64 z] 74)) :
    (callFunc 46 #[.agg #[hnd 74, .pointer (some ⟨b, 0, none⟩), .int .u64 409], .agg #[hnd 74, .pointer (some ⟨q, 0, none⟩), .int .u64 153]]).run Tryd.prog w = .ok (.value (.tuple #[])) (w.setCell ⟨b, 0, none⟩ (.int .i64 m)) := by
  rw [run_callFunc_extern (fn := Tryd.f46) (by kernel_rfl) (by kernel_rfl) (by kernel_rfl) (by kernel_rfl) as_fnSet]
  have hl : (loadVar 74 ⟨q, 0, none⟩).run Tryd.prog w = .ok (.agg #[.int .i64 m]) w := run_loadVar_row w q 74 74 #[.int .i64 m] (0, 0) _ h Tryd.underlying74 rfl (by kernel_rfl)
  have hd : ∀ w, (Extern.Rtype.directlyAssignable 74 74).run Tryd.prog w = .ok true w := fun _ => by kernel_rfl
  have hst : (storeVar 74 ⟨b, 0, none⟩ (.agg #[.int .i64 m])).run Tryd.prog w = .ok () (w.setCell ⟨b, 0, none⟩ (.int .i64 m)) := by
    have hc := blk_cell hb 0
    have hz := blk_frozen hb 0
    have hs : ∀ w, (sizeOf 74).run Tryd.prog w = .ok 1 w := fun _ => by kernel_rfl
    simp [storeVar, hs, storeCells, Value.cells, hc, hz, go_sem]
  have e : (Extern.ReflectliteValue.set #[.agg #[hnd 74, .pointer (some ⟨b, 0, none⟩), .int .u64 409], .agg #[hnd 74, .pointer (some ⟨q, 0, none⟩), .int .u64 153]]).run Tryd.prog w = .ok (.tuple #[]) (w.setCell ⟨b, 0, none⟩ (.int .i64 m)) := by
    change (Extern.ReflectliteValue.parts (.agg #[hnd 74, .pointer (some ⟨b, 0, none⟩), .int .u64 409]) >>= fun p => Extern.ReflectliteValue.parts (.agg #[hnd 74, .pointer (some ⟨q, 0, none⟩), .int .u64 153]) >>= fun p2 => _).run Tryd.prog w = _
    rw [Sem.run_bind, as_parts409]
    simp only [Result.andThen_ok]
    rw [Sem.run_bind, as_parts153]
    simp only [Result.andThen_ok]
    simp [Extern.ReflectliteValue.flagAddr, Sem.run_bind, hl, hd, hst]
  rw [e]
  rfl

end Go.Proofs.YtoebfpimojkamaaDoor
