/- errors.As, as package wire asks it: the walks. -/
import Derived.Test.YtoebfpimojkamaaDoorWireAs
namespace Go.Proofs.YtoebfpimojkamaaDoor
open Go.RowKit

set_option maxRecDepth 100000 in
set_option maxHeartbeats 2000000 in
theorem as43_short (b q : Nat) (m z : Int) (w : World) (hb : w.heap[b]? = some (.cells #[.int .i64 z] 74)) (hq : w.heap[q]? = some (.cells #[.pointer (some ⟨b, 0, none⟩)] 76)) :
    Calls Tryd.prog 43 #[.iface 74 (.agg #[.int .i64 m]), .iface 76 (.pointer (some ⟨b, 0, none⟩)), .agg #[hnd 76, .pointer (some ⟨q, 0, none⟩), .int .u64 150], .iface 90 (.agg #[hnd 74])] w fun e w' =>
      e = .returned (.bool true) ∧ Fr [b] w w' := by
  have h1 := as_typeOf m
  have h2 := as_mAss
  have h3 := as_assign
  have h4 := as_valueOf_short m
  have bl := lt_of_heap hb
  have HB := Lib.hid hb
  have HQ := Lib.hid hq
  have ql := lt_of_heap hq
  clear hb hq
  go_enter Tryd.func43, Tryd.ntmps43
  go_wp2_with fail
  go_loopw [0] (fun u w' => u = .iface 74 (.agg #[.int .i64 m]) ∧ Fr [] w w' ∧ w'.heap[w.heap.size]? = some (.cells #[hnd 76, .pointer (some ⟨q, 0, none⟩), .int .u64 150] 80)) (fun _ _ => 0)
  case atStart => exact ⟨rfl, (by repeat' (first | (with_reducible exact Fr.refl _ _) | (with_reducible assumption) | (with_reducible refine Fr.drew ?_) | (with_reducible refine Fr.drewN ?_ _) | (with_reducible refine Fr.alloc ?_ _) | ((with_reducible refine Fr.setNew ?_ _ ?_ _); rotate_left; (focus (first | (with_reducible assumption) | exact Nat.le_of_lt (by with_reducible assumption) | (focus (simp +arith; done)) | exact Nat.le_trans (by with_reducible assumption) (by simp +arith; done) | (simp; done)))) | ((with_reducible refine Fr.setOld ?_ _ ?_ _); rotate_left; (focus (simp; done))))), by (repeat (first | (with_reducible assumption) | ((with_reducible refine heap_alloc_at ?_ _); first | (with_reducible rfl) | (focus (simp; done))) | (with_reducible apply heap_alloc_old) | ((with_reducible apply heap_set_other); (case hne => (first | (with_reducible assumption) | exact Nat.ne_of_lt (by with_reducible assumption) | exact Nat.ne_of_gt (by with_reducible assumption) | (focus (simp +arith; done)) | (simp; done)))) | (with_reducible apply heap_set_eq) | (with_reducible apply heap_drew_of) | (with_reducible apply heap_drewN_of)))⟩
  case round =>
    obtain ⟨rfl, F1, s1⟩ := hrel
    have hb := F1.heap HB.out (by simp)
    have hq := F1.heap HQ.out (by simp)
    have h5 := as_vElem q b wr hq
    apply blk_use s1; intro hg1 hc1 hz1 _ _ _ _ _
    clear s1
    go_wp2_with fail
    rw [as_set wr.heap.size b m z _ (by (repeat (first | (with_reducible assumption) | ((with_reducible refine heap_alloc_at ?_ _); first | (with_reducible rfl) | (focus (simp; done))) | (with_reducible apply heap_alloc_old) | ((with_reducible apply heap_set_other); (case hne => (first | (with_reducible assumption) | exact Nat.ne_of_lt (by with_reducible assumption) | exact Nat.ne_of_gt (by with_reducible assumption) | (focus (simp +arith; done)) | (simp; done)))) | (with_reducible apply heap_set_eq) | (with_reducible apply heap_drew_of) | (with_reducible apply heap_drewN_of)))) (by (repeat (first | (with_reducible assumption) | ((with_reducible refine heap_alloc_at ?_ _); first | (with_reducible rfl) | (focus (simp; done))) | (with_reducible apply heap_alloc_old) | ((with_reducible apply heap_set_other); (case hne => (first | (with_reducible assumption) | exact Nat.ne_of_lt (by with_reducible assumption) | exact Nat.ne_of_gt (by with_reducible assumption) | (focus (simp +arith; done)) | (simp; done)))) | (with_reducible apply heap_set_eq) | (with_reducible apply heap_drew_of) | (with_reducible apply heap_drewN_of))))]
    go_wp2_with fail
    go_ret
    exact ⟨rfl, (F1.mono (by simp)).trans (Fr.setOld ((Fr.refl _ _).alloc _) _ (by simp) _)⟩

set_option maxRecDepth 100000 in
set_option maxHeartbeats 2000000 in
theorem as_short (b : Nat) (m z : Int) (w : World) (hb : w.heap[b]? = some (.cells #[.int .i64 z] 74)) (hG : w.cell? ⟨1, 0, none⟩ = some (.iface 90 (.agg #[hnd 62]))) (hl1 : 1 < w.heap.size) :
    Calls Tryd.prog 39 #[.iface 74 (.agg #[.int .i64 m]), .iface 76 (.pointer (some ⟨b, 0, none⟩))] w fun e w' => e = .returned (.bool true) ∧ Fr [b] w w' := by
  have h1 := as_valueOf_ptr b
  have h2 := as_type
  have h3 := as_mKind
  have h4 := as_mElem
  have h5 := as_mImpl
  have h6 := as_kind_ptr
  have h7 := as_kind_short
  have h8 := as_elem
  have h9 := as_impl
  have bl := lt_of_heap hb
  have HB := Lib.hid hb
  refine side_use (hl1) ?_; intro _ _ _ _ _
  go_enter Tryd.func39, Tryd.ntmps39
  go_wp2_with fail
  rw [as_isNil _ b _ (by (repeat (first | (with_reducible assumption) | ((with_reducible refine heap_alloc_at ?_ _); first | (with_reducible rfl) | (focus (simp; done))) | (with_reducible apply heap_alloc_old) | ((with_reducible apply heap_set_other); (case hne => (first | (with_reducible assumption) | exact Nat.ne_of_lt (by with_reducible assumption) | exact Nat.ne_of_gt (by with_reducible assumption) | (focus (simp +arith; done)) | (simp; done)))) | (with_reducible apply heap_set_eq) | (with_reducible apply heap_drew_of) | (with_reducible apply heap_drewN_of))))]
  go_wp2_with fail
  have hb := HB.out
  refine (as43_short b _ m z _ (by (repeat (first | (with_reducible assumption) | ((with_reducible refine heap_alloc_at ?_ _); first | (with_reducible rfl) | (focus (simp; done))) | (with_reducible apply heap_alloc_old) | ((with_reducible apply heap_set_other); (case hne => (first | (with_reducible assumption) | exact Nat.ne_of_lt (by with_reducible assumption) | exact Nat.ne_of_gt (by with_reducible assumption) | (focus (simp +arith; done)) | (simp; done)))) | (with_reducible apply heap_set_eq) | (with_reducible apply heap_drew_of) | (with_reducible apply heap_drewN_of)))) (by (repeat (first | (with_reducible assumption) | ((with_reducible refine heap_alloc_at ?_ _); first | (with_reducible rfl) | (focus (simp; done))) | (with_reducible apply heap_alloc_old) | ((with_reducible apply heap_set_other); (case hne => (first | (with_reducible assumption) | exact Nat.ne_of_lt (by with_reducible assumption) | exact Nat.ne_of_gt (by with_reducible assumption) | (focus (simp +arith; done)) | (simp; done)))) | (with_reducible apply heap_set_eq) | (with_reducible apply heap_drew_of) | (with_reducible apply heap_drewN_of))))).mono ?_
  rintro e w1 ⟨rfl, f1⟩
  go_wp2
  go_ret
  exact ⟨rfl, (Fr.mono (S := []) (by repeat' (first | (with_reducible exact Fr.refl _ _) | (with_reducible assumption) | (with_reducible refine Fr.drew ?_) | (with_reducible refine Fr.drewN ?_ _) | (with_reducible refine Fr.alloc ?_ _) | ((with_reducible refine Fr.setNew ?_ _ ?_ _); rotate_left; (focus (first | (with_reducible assumption) | exact Nat.le_of_lt (by with_reducible assumption) | (focus (simp +arith; done)) | exact Nat.le_trans (by with_reducible assumption) (by simp +arith; done) | (simp; done)))) | ((with_reducible refine Fr.setOld ?_ _ ?_ _); rotate_left; (focus (simp; done))))) (by simp)).trans f1⟩

end Go.Proofs.YtoebfpimojkamaaDoor
