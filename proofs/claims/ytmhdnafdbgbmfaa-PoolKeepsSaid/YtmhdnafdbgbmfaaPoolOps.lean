/- The contracts of package pool's methods. -/
import Derived.Test.YtmhdnafdbgbmfaaPool
namespace Go.Proofs.Ytmhdnafdbgbmfaa
open Go.RowKit

theorem Try_ta_pool (v : Value) (w : World) : (Instr.typeAssert (.iface 91 v) 20 91 true).run Try.prog w = .ok (.tuple #[v, .bool true]) w := by kernel_rfl

set_option maxHeartbeats 400000 in
/-- The deferred closure of caught, where the frame panics with a refusal: it lays the code, and nothing else. -/
theorem pcaught_catch (r : Nat) (c z : Int) (older : List PanicEntry) (w : World) (hr : w.heap[r]? = some (.cells #[.int .i64 z] 28)) :
    CallsD Try.prog 61 #[.pointer (some ⟨r, 0, none⟩)] (.panicking ({ v := .iface 91 (.agg #[.int .i64 c]), recovered := false } :: older)) w fun e u' w' =>
      e = .returned (.tuple #[]) ∧ u' = .panicking ({ v := .iface 91 (.agg #[.int .i64 c]), recovered := true } :: older) ∧
      w'.heap[r]? = some (.cells #[.int .i64 c] 28) ∧ Fr [r] w w' := by
  refine callsD_of_wpS Try.func61 rfl fun c₀ cs hu => ?_
  have hta := Try_ta_pool
  refine wpS_recover_panic hu ?_
  refine wpS_of_wp ?_
  simp only [Try.ntmps61, Act.put, List.size_toArray, List.length_cons, List.length_nil, Nat.reduceAdd, Nat.reduceSub, Array.replicate_succ,
     Array.replicate_zero, List.push_toArray, List.append_toArray, List.nil_append, List.cons_append, List.setIfInBounds_toArray, List.set_cons_succ, List.set_cons_zero]
  apply blk_use hr; intro hg0 hc0 hz0 _ _ _ _ _
  go_wp2
  refine ⟨rfl, _, rfl, .tuple #[], by simp [results, Try.results61], rfl, rfl, ?_, ?_⟩
  · (apply heap_eq_of; (focus (repeat (first | (with_reducible assumption) | ((with_reducible refine heap_alloc_at ?_ _); first | (with_reducible rfl) | (focus (simp; done))) | (with_reducible apply heap_alloc_old) | ((with_reducible apply heap_set_other); (case hne => (first | (with_reducible assumption) | exact Nat.ne_of_lt (by with_reducible assumption) | exact Nat.ne_of_gt (by with_reducible assumption) | (focus (simp +arith; done)) | (simp; done)))) | (with_reducible apply heap_set_eq) | (with_reducible apply heap_drew_of) | (with_reducible apply heap_drewN_of)))); (focus (first | (simp; done) | rfl)))
  · exact (by repeat' (first | (with_reducible exact Fr.refl _ _) | (with_reducible assumption) | (with_reducible refine Fr.drew ?_) | (with_reducible refine Fr.drewN ?_ _) | (with_reducible refine Fr.alloc ?_ _) | ((with_reducible refine Fr.setNew ?_ _ ?_ _); rotate_left; (focus (first | (with_reducible assumption) | exact Nat.le_of_lt (by with_reducible assumption) | (focus (simp +arith; done)) | exact Nat.le_trans (by with_reducible assumption) (by simp +arith; done) | (simp; done)))) | ((with_reducible refine Fr.setOld ?_ _ ?_ _); rotate_left; (focus (simp; done)))))

set_option maxHeartbeats 400000 in
theorem pcaught_idle (r : Nat) (w : World) :
    CallsD Try.prog 61 #[.pointer (some ⟨r, 0, none⟩)] .returning w fun e u' w' => e = .returned (.tuple #[]) ∧ u' = .returning ∧ w' = w := by
  refine callsD_of_wpS Try.func61 rfl fun c₀ cs hu => ?_
  refine wpS_recover_idle hu ?_
  refine wpS_of_wp ?_
  simp only [Try.ntmps61, Act.put, List.size_toArray, List.length_cons, List.length_nil, Nat.reduceAdd, Nat.reduceSub, Array.replicate_succ,
     Array.replicate_zero, List.push_toArray, List.append_toArray, List.nil_append, List.cons_append, List.setIfInBounds_toArray, List.set_cons_succ, List.set_cons_zero]
  go_wp2
  cases c₀
  simp_all [bodyPostS, results, Try.results61]

set_option maxHeartbeats 1000000 in
theorem pcaught (k : Nat) (caps : Array Value) (c : Int) (Q : World → Prop) (S : List Nat) (w : World) (hS : ∀ x ∈ S, x < w.heap.size)
    (hQ : ∀ w1 w2, Q w1 → Fr [w.heap.size] w1 w2 → Q w2) (hcf : ∀ w, (callFunc k caps).run Try.prog w = .ok (.enter k caps) w)
    (h : ∀ w1, Fr [] w w1 → Calls Try.prog k caps w1 fun e w' => e = ende c ∧ Q w' ∧ Fr S w1 w') :
    Calls Try.prog 50 #[.func (.func k) #[] caps] w fun e w' => e = .returned (.int .i64 c) ∧ Q w' ∧ Fr S w w' := by
  have hmf := @makeFunc_any Try.prog
  have H := Lib.hid h
  have HS := Lib.hid hS
  clear h hS
  go_enter_defers Try.func50, Try.ntmps50
  go_wp2_with fail
  have f0 : Fr [] w (w.alloc (.cells #[.int .i64 0] 28)) := (Fr.refl _ _).alloc _
  refine (H.out _ f0).mono ?_
  rintro e w1 ⟨e1, q1, f1⟩
  have hn : w.heap.size ∉ S := fun hx => absurd (HS.out _ hx) (by omega)
  have hg := f1.heap (heap_alloc_new w _) hn
  have F1 : Fr S w w1 := (f0.mono (by simp)).trans f1
  by_cases hc : c = 0
  · subst hc
    rw [ende_0] at e1
    subst e1
    apply blk_use hg; intro hg1 hc1 hz1 _ _ _ _ _
    go_wp2
    refine leaves_cons (f := 61) (args := #[.pointer (some ⟨w.heap.size, 0, none⟩)]) (by simp) (by simp [go_sem]) ?_
    refine (pcaught_idle _ _).mono ?_
    rintro e u' w2 ⟨rfl, rfl, rfl⟩
    refine ⟨.int .i64 0, ?_, rfl, hQ _ _ q1 ?_, F1.setCell (Or.inr (Nat.le_refl _)) _⟩
    · simp [results, Try.results50, go_sem, *]
    · exact (Fr.refl _ _).setCell (Or.inl (by simp)) _
  · rw [ende_ne hc] at e1
    subst e1
    refine leaves_cons (f := 61) (args := #[.pointer (some ⟨w.heap.size, 0, none⟩)]) (by simp) (by simp [go_sem]) ?_
    refine (pcaught_catch _ _ _ _ _ hg).mono ?_
    rintro e u' w2 ⟨rfl, rfl, k1, F2⟩
    have l1 := blk_cell k1
    simp [Leaves, settle, results, Try.results50, go_sem, l1]
    exact ⟨hQ _ _ q1 F2, F1.trans' F2 (by simp)⟩

theorem calls_name {P : Program} {f : FuncId} {args : Array Value} {R : Ending → World → Prop} {W : World} (h : ∀ w5, Fr [] W w5 → Calls P f args w5 R) : Calls P f args W R := h W (Fr.refl _ _)

set_option maxHeartbeats 1000000 in
theorem pfill (bp bf : Nat) (l : List Fm) (i v : Int) (w : World) (hP : PoolAt pT w bp bf l) :
    Calls Try.prog 37 #[.pointer (some ⟨bp, 0, none⟩), .int .i64 i, .int .u64 v] w fun e w' =>
      e = .returned (.int .i64 (stepAt l i (fillK v)).1) ∧ PoolAt pT w' bp bf (stepAt l i (fillK v)).2 ∧ Fr [bf] w w' := by
  have hmf := @makeFunc_any Try.prog
  have HP := Lib.hid hP

  obtain ⟨L1, L2⟩ := hP.lt
  clear hP
  go_enter Try.func37, Try.ntmps37
  go_wp2_with fail
  refine calls_name (fun w5 f5 => ?_)
  apply f5.use (k := w.heap.size); (focus (repeat (first | (with_reducible assumption) | ((with_reducible refine heap_alloc_at ?_ _); first | (with_reducible rfl) | (focus (simp; done))) | (with_reducible apply heap_alloc_old) | ((with_reducible apply heap_set_other); (case hne => (first | (with_reducible assumption) | exact Nat.ne_of_lt (by with_reducible assumption) | exact Nat.ne_of_gt (by with_reducible assumption) | (focus (simp +arith; done)) | (simp; done)))) | (with_reducible apply heap_set_eq) | (with_reducible apply heap_drew_of) | (with_reducible apply heap_drewN_of)))); (focus (simp; done)); intro hg1 hc1 hz1 _ _ _ _ _; (try simp only [List.setIfInBounds_toArray, List.set_cons_zero, List.set_cons_succ] at hg1 hc1); apply f5.use (k := w.heap.size+1); (focus (repeat (first | (with_reducible assumption) | ((with_reducible refine heap_alloc_at ?_ _); first | (with_reducible rfl) | (focus (simp; done))) | (with_reducible apply heap_alloc_old) | ((with_reducible apply heap_set_other); (case hne => (first | (with_reducible assumption) | exact Nat.ne_of_lt (by with_reducible assumption) | exact Nat.ne_of_gt (by with_reducible assumption) | (focus (simp +arith; done)) | (simp; done)))) | (with_reducible apply heap_set_eq) | (with_reducible apply heap_drew_of) | (with_reducible apply heap_drewN_of)))); (focus (simp; done)); intro hg2 hc2 hz2 _ _ _ _ _; (try simp only [List.setIfInBounds_toArray, List.set_cons_zero, List.set_cons_succ] at hg2 hc2); apply f5.use (k := w.heap.size+1+1); (focus (repeat (first | (with_reducible assumption) | ((with_reducible refine heap_alloc_at ?_ _); first | (with_reducible rfl) | (focus (simp; done))) | (with_reducible apply heap_alloc_old) | ((with_reducible apply heap_set_other); (case hne => (first | (with_reducible assumption) | exact Nat.ne_of_lt (by with_reducible assumption) | exact Nat.ne_of_gt (by with_reducible assumption) | (focus (simp +arith; done)) | (simp; done)))) | (with_reducible apply heap_set_eq) | (with_reducible apply heap_drew_of) | (with_reducible apply heap_drewN_of)))); (focus (simp; done)); intro hg3 hc3 hz3 _ _ _ _ _; (try simp only [List.setIfInBounds_toArray, List.set_cons_zero, List.set_cons_succ] at hg3 hc3)
  have F5 : Fr [] w w5 := Fr.trans (by repeat' (first | (with_reducible exact Fr.refl _ _) | (with_reducible assumption) | (with_reducible refine Fr.drew ?_) | (with_reducible refine Fr.drewN ?_ _) | (with_reducible refine Fr.alloc ?_ _) | ((with_reducible refine Fr.setNew ?_ _ ?_ _); rotate_left; (focus (first | (with_reducible assumption) | exact Nat.le_of_lt (by with_reducible assumption) | (focus (simp +arith; done)) | exact Nat.le_trans (by with_reducible assumption) (by simp +arith; done) | (simp; done)))) | ((with_reducible refine Fr.setOld ?_ _ ?_ _); rotate_left; (focus (simp; done))))) f5
  have P5 := HP.out.fr F5 (by simp) (by simp)
  refine (pcaught _ _ (stepAt l i (fillK v)).1 (fun w' => PoolAt pT w' bp bf (stepAt l i (fillK v)).2) [bf] w5 (by simp; exact P5.lt.2) (fun _ _ q f => q.fr f (by have := P5.lt.1; simp; omega) (by have := P5.lt.2; simp; omega))
    (fun _ => by kernel_rfl) (fun w6 f6 => pfill1 bp bf _ _ _ l i v w6 (P5.fr f6 (by simp) (by simp)) (f6.heap hg1 (by simp)) (f6.heap hg2 (by simp)) (f6.heap hg3 (by simp)) (by omega) (by omega) (by omega))).mono ?_
  rintro e w6 ⟨rfl, q, f6⟩
  go_wp2
  go_ret
  exact ⟨rfl, q, (F5.mono (by simp)).trans f6⟩

set_option maxHeartbeats 1000000 in
theorem ppin (bp bf : Nat) (l : List Fm) (i g : Int) (w : World) (hP : PoolAt pT w bp bf l) (hB : ∀ f ∈ l, 0 ≤ f.p ∧ f.p < 1000000) :
    Calls Try.prog 36 #[.pointer (some ⟨bp, 0, none⟩), .int .i64 i, .int .i64 g] w fun e w' =>
      e = .returned (.int .i64 (stepAt l i (pinK g)).1) ∧ PoolAt pT w' bp bf (stepAt l i (pinK g)).2 ∧ Fr [bf] w w' := by
  have hmf := @makeFunc_any Try.prog
  have HP := Lib.hid hP
  have HB := Lib.hid hB
  obtain ⟨L1, L2⟩ := hP.lt
  clear hP hB
  go_enter Try.func36, Try.ntmps36
  go_wp2_with fail
  refine calls_name (fun w5 f5 => ?_)
  apply f5.use (k := w.heap.size); (focus (repeat (first | (with_reducible assumption) | ((with_reducible refine heap_alloc_at ?_ _); first | (with_reducible rfl) | (focus (simp; done))) | (with_reducible apply heap_alloc_old) | ((with_reducible apply heap_set_other); (case hne => (first | (with_reducible assumption) | exact Nat.ne_of_lt (by with_reducible assumption) | exact Nat.ne_of_gt (by with_reducible assumption) | (focus (simp +arith; done)) | (simp; done)))) | (with_reducible apply heap_set_eq) | (with_reducible apply heap_drew_of) | (with_reducible apply heap_drewN_of)))); (focus (simp; done)); intro hg1 hc1 hz1 _ _ _ _ _; (try simp only [List.setIfInBounds_toArray, List.set_cons_zero, List.set_cons_succ] at hg1 hc1); apply f5.use (k := w.heap.size+1); (focus (repeat (first | (with_reducible assumption) | ((with_reducible refine heap_alloc_at ?_ _); first | (with_reducible rfl) | (focus (simp; done))) | (with_reducible apply heap_alloc_old) | ((with_reducible apply heap_set_other); (case hne => (first | (with_reducible assumption) | exact Nat.ne_of_lt (by with_reducible assumption) | exact Nat.ne_of_gt (by with_reducible assumption) | (focus (simp +arith; done)) | (simp; done)))) | (with_reducible apply heap_set_eq) | (with_reducible apply heap_drew_of) | (with_reducible apply heap_drewN_of)))); (focus (simp; done)); intro hg2 hc2 hz2 _ _ _ _ _; (try simp only [List.setIfInBounds_toArray, List.set_cons_zero, List.set_cons_succ] at hg2 hc2); apply f5.use (k := w.heap.size+1+1); (focus (repeat (first | (with_reducible assumption) | ((with_reducible refine heap_alloc_at ?_ _); first | (with_reducible rfl) | (focus (simp; done))) | (with_reducible apply heap_alloc_old) | ((with_reducible apply heap_set_other); (case hne => (first | (with_reducible assumption) | exact Nat.ne_of_lt (by with_reducible assumption) | exact Nat.ne_of_gt (by with_reducible assumption) | (focus (simp +arith; done)) | (simp; done)))) | (with_reducible apply heap_set_eq) | (with_reducible apply heap_drew_of) | (with_reducible apply heap_drewN_of)))); (focus (simp; done)); intro hg3 hc3 hz3 _ _ _ _ _; (try simp only [List.setIfInBounds_toArray, List.set_cons_zero, List.set_cons_succ] at hg3 hc3)
  have F5 : Fr [] w w5 := Fr.trans (by repeat' (first | (with_reducible exact Fr.refl _ _) | (with_reducible assumption) | (with_reducible refine Fr.drew ?_) | (with_reducible refine Fr.drewN ?_ _) | (with_reducible refine Fr.alloc ?_ _) | ((with_reducible refine Fr.setNew ?_ _ ?_ _); rotate_left; (focus (first | (with_reducible assumption) | exact Nat.le_of_lt (by with_reducible assumption) | (focus (simp +arith; done)) | exact Nat.le_trans (by with_reducible assumption) (by simp +arith; done) | (simp; done)))) | ((with_reducible refine Fr.setOld ?_ _ ?_ _); rotate_left; (focus (simp; done))))) f5
  have P5 := HP.out.fr F5 (by simp) (by simp)
  refine (pcaught _ _ (stepAt l i (pinK g)).1 (fun w' => PoolAt pT w' bp bf (stepAt l i (pinK g)).2) [bf] w5 (by simp; exact P5.lt.2) (fun _ _ q f => q.fr f (by have := P5.lt.1; simp; omega) (by have := P5.lt.2; simp; omega))
    (fun _ => by kernel_rfl) (fun w6 f6 => ppin1 bp bf _ _ _ l i g w6 (P5.fr f6 (by simp) (by simp)) HB.out (f6.heap hg1 (by simp)) (f6.heap hg2 (by simp)) (f6.heap hg3 (by simp)))).mono ?_
  rintro e w6 ⟨rfl, q, f6⟩
  go_wp2
  go_ret
  exact ⟨rfl, q, (F5.mono (by simp)).trans f6⟩

set_option maxHeartbeats 1000000 in
theorem punpin (bp bf : Nat) (l : List Fm) (i g : Int) (w : World) (hP : PoolAt pT w bp bf l) (hB : ∀ f ∈ l, 0 ≤ f.p ∧ f.p < 1000000) :
    Calls Try.prog 38 #[.pointer (some ⟨bp, 0, none⟩), .int .i64 i, .int .i64 g] w fun e w' =>
      e = .returned (.int .i64 (stepAt l i (unpinK g)).1) ∧ PoolAt pT w' bp bf (stepAt l i (unpinK g)).2 ∧ Fr [bf] w w' := by
  have hmf := @makeFunc_any Try.prog
  have HP := Lib.hid hP
  have HB := Lib.hid hB
  obtain ⟨L1, L2⟩ := hP.lt
  clear hP hB
  go_enter Try.func38, Try.ntmps38
  go_wp2_with fail
  refine calls_name (fun w5 f5 => ?_)
  apply f5.use (k := w.heap.size); (focus (repeat (first | (with_reducible assumption) | ((with_reducible refine heap_alloc_at ?_ _); first | (with_reducible rfl) | (focus (simp; done))) | (with_reducible apply heap_alloc_old) | ((with_reducible apply heap_set_other); (case hne => (first | (with_reducible assumption) | exact Nat.ne_of_lt (by with_reducible assumption) | exact Nat.ne_of_gt (by with_reducible assumption) | (focus (simp +arith; done)) | (simp; done)))) | (with_reducible apply heap_set_eq) | (with_reducible apply heap_drew_of) | (with_reducible apply heap_drewN_of)))); (focus (simp; done)); intro hg1 hc1 hz1 _ _ _ _ _; (try simp only [List.setIfInBounds_toArray, List.set_cons_zero, List.set_cons_succ] at hg1 hc1); apply f5.use (k := w.heap.size+1); (focus (repeat (first | (with_reducible assumption) | ((with_reducible refine heap_alloc_at ?_ _); first | (with_reducible rfl) | (focus (simp; done))) | (with_reducible apply heap_alloc_old) | ((with_reducible apply heap_set_other); (case hne => (first | (with_reducible assumption) | exact Nat.ne_of_lt (by with_reducible assumption) | exact Nat.ne_of_gt (by with_reducible assumption) | (focus (simp +arith; done)) | (simp; done)))) | (with_reducible apply heap_set_eq) | (with_reducible apply heap_drew_of) | (with_reducible apply heap_drewN_of)))); (focus (simp; done)); intro hg2 hc2 hz2 _ _ _ _ _; (try simp only [List.setIfInBounds_toArray, List.set_cons_zero, List.set_cons_succ] at hg2 hc2); apply f5.use (k := w.heap.size+1+1); (focus (repeat (first | (with_reducible assumption) | ((with_reducible refine heap_alloc_at ?_ _); first | (with_reducible rfl) | (focus (simp; done))) | (with_reducible apply heap_alloc_old) | ((with_reducible apply heap_set_other); (case hne => (first | (with_reducible assumption) | exact Nat.ne_of_lt (by with_reducible assumption) | exact Nat.ne_of_gt (by with_reducible assumption) | (focus (simp +arith; done)) | (simp; done)))) | (with_reducible apply heap_set_eq) | (with_reducible apply heap_drew_of) | (with_reducible apply heap_drewN_of)))); (focus (simp; done)); intro hg3 hc3 hz3 _ _ _ _ _; (try simp only [List.setIfInBounds_toArray, List.set_cons_zero, List.set_cons_succ] at hg3 hc3)
  have F5 : Fr [] w w5 := Fr.trans (by repeat' (first | (with_reducible exact Fr.refl _ _) | (with_reducible assumption) | (with_reducible refine Fr.drew ?_) | (with_reducible refine Fr.drewN ?_ _) | (with_reducible refine Fr.alloc ?_ _) | ((with_reducible refine Fr.setNew ?_ _ ?_ _); rotate_left; (focus (first | (with_reducible assumption) | exact Nat.le_of_lt (by with_reducible assumption) | (focus (simp +arith; done)) | exact Nat.le_trans (by with_reducible assumption) (by simp +arith; done) | (simp; done)))) | ((with_reducible refine Fr.setOld ?_ _ ?_ _); rotate_left; (focus (simp; done))))) f5
  have P5 := HP.out.fr F5 (by simp) (by simp)
  refine (pcaught _ _ (stepAt l i (unpinK g)).1 (fun w' => PoolAt pT w' bp bf (stepAt l i (unpinK g)).2) [bf] w5 (by simp; exact P5.lt.2) (fun _ _ q f => q.fr f (by have := P5.lt.1; simp; omega) (by have := P5.lt.2; simp; omega))
    (fun _ => by kernel_rfl) (fun w6 f6 => punpin1 bp bf _ _ _ l i g w6 (P5.fr f6 (by simp) (by simp)) HB.out (f6.heap hg1 (by simp)) (f6.heap hg2 (by simp)) (f6.heap hg3 (by simp)))).mono ?_
  rintro e w6 ⟨rfl, q, f6⟩
  go_wp2
  go_ret
  exact ⟨rfl, q, (F5.mono (by simp)).trans f6⟩

set_option maxHeartbeats 1000000 in
theorem pdoom (bp bf : Nat) (l : List Fm) (i : Int) (w : World) (hP : PoolAt pT w bp bf l) :
    Calls Try.prog 35 #[.pointer (some ⟨bp, 0, none⟩), .int .i64 i] w fun e w' =>
      e = .returned (.int .i64 (stepAt l i doomK).1) ∧ PoolAt pT w' bp bf (stepAt l i doomK).2 ∧ Fr [bf] w w' := by
  have hmf := @makeFunc_any Try.prog
  have HP := Lib.hid hP

  obtain ⟨L1, L2⟩ := hP.lt
  clear hP
  go_enter Try.func35, Try.ntmps35
  go_wp2_with fail
  refine calls_name (fun w5 f5 => ?_)
  apply f5.use (k := w.heap.size); (focus (repeat (first | (with_reducible assumption) | ((with_reducible refine heap_alloc_at ?_ _); first | (with_reducible rfl) | (focus (simp; done))) | (with_reducible apply heap_alloc_old) | ((with_reducible apply heap_set_other); (case hne => (first | (with_reducible assumption) | exact Nat.ne_of_lt (by with_reducible assumption) | exact Nat.ne_of_gt (by with_reducible assumption) | (focus (simp +arith; done)) | (simp; done)))) | (with_reducible apply heap_set_eq) | (with_reducible apply heap_drew_of) | (with_reducible apply heap_drewN_of)))); (focus (simp; done)); intro hg1 hc1 hz1 _ _ _ _ _; (try simp only [List.setIfInBounds_toArray, List.set_cons_zero, List.set_cons_succ] at hg1 hc1); apply f5.use (k := w.heap.size+1); (focus (repeat (first | (with_reducible assumption) | ((with_reducible refine heap_alloc_at ?_ _); first | (with_reducible rfl) | (focus (simp; done))) | (with_reducible apply heap_alloc_old) | ((with_reducible apply heap_set_other); (case hne => (first | (with_reducible assumption) | exact Nat.ne_of_lt (by with_reducible assumption) | exact Nat.ne_of_gt (by with_reducible assumption) | (focus (simp +arith; done)) | (simp; done)))) | (with_reducible apply heap_set_eq) | (with_reducible apply heap_drew_of) | (with_reducible apply heap_drewN_of)))); (focus (simp; done)); intro hg2 hc2 hz2 _ _ _ _ _; (try simp only [List.setIfInBounds_toArray, List.set_cons_zero, List.set_cons_succ] at hg2 hc2)
  have F5 : Fr [] w w5 := Fr.trans (by repeat' (first | (with_reducible exact Fr.refl _ _) | (with_reducible assumption) | (with_reducible refine Fr.drew ?_) | (with_reducible refine Fr.drewN ?_ _) | (with_reducible refine Fr.alloc ?_ _) | ((with_reducible refine Fr.setNew ?_ _ ?_ _); rotate_left; (focus (first | (with_reducible assumption) | exact Nat.le_of_lt (by with_reducible assumption) | (focus (simp +arith; done)) | exact Nat.le_trans (by with_reducible assumption) (by simp +arith; done) | (simp; done)))) | ((with_reducible refine Fr.setOld ?_ _ ?_ _); rotate_left; (focus (simp; done))))) f5
  have P5 := HP.out.fr F5 (by simp) (by simp)
  refine (pcaught _ _ (stepAt l i doomK).1 (fun w' => PoolAt pT w' bp bf (stepAt l i doomK).2) [bf] w5 (by simp; exact P5.lt.2) (fun _ _ q f => q.fr f (by have := P5.lt.1; simp; omega) (by have := P5.lt.2; simp; omega))
    (fun _ => by kernel_rfl) (fun w6 f6 => pdoom1 bp bf _ _ l i w6 (P5.fr f6 (by simp) (by simp)) (f6.heap hg1 (by simp)) (f6.heap hg2 (by simp)))).mono ?_
  rintro e w6 ⟨rfl, q, f6⟩
  go_wp2
  go_ret
  exact ⟨rfl, q, (F5.mono (by simp)).trans f6⟩

end Go.Proofs.Ytmhdnafdbgbmfaa
