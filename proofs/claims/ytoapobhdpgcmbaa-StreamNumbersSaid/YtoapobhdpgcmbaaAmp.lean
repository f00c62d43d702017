/- Contracts of package amp (layer 9): what each of its functions returns, at every argument, and that it changes nothing that was there. -/
import Derived.Test.YtoapobhdpgcmbaaBase
namespace Go.Proofs.Ytoapobhdpgcmbaa
open Go.RowKit

abbrev amI (n : Int) : Value := .int .i64 n
def withinB (n lo hi : Int) : Bool := decide (lo ≤ n) && decide (n ≤ hi)
theorem withinB_iff (n lo hi : Int) : withinB n lo hi = true ↔ lo ≤ n ∧ n ≤ hi := by simp [withinB]

set_option maxHeartbeats 400000 in
theorem within_any (n lo hi : Int) (w : World) :
    Calls Try.prog 66 #[.int .i64 n, .int .i64 lo, .int .i64 hi] w fun e w' => e = .returned (.bool (withinB n lo hi)) ∧ w = w' := by
  go_enter Try.func66, Try.ntmps66
  go_wp2
  all_goals (go_ret; refine ⟨?_, rfl⟩; simp [withinB, *])
  all_goals omega

set_option maxHeartbeats 400000 in
theorem amust_true (c : Int) (w : World) :
    Calls Try.prog 76 #[.bool true, .int .i64 c] w fun e w' => e = .returned (.tuple #[]) ∧ w = w' := by
  go_enter Try.func76, Try.ntmps76
  go_wp2
  go_end0
  exact ⟨rfl, rfl⟩

set_option maxHeartbeats 400000 in
theorem amust_false (c : Int) (w : World) :
    Calls Try.prog 76 #[.bool false, .int .i64 c] w fun e w' => e = .panicked [{ v := .iface 135 (.agg #[.int .i64 c]), recovered := false }] ∧ w = w' := by
  go_enter Try.func76, Try.ntmps76
  go_wp2
  exact ⟨rfl, rfl, rfl⟩

def asoundB (p g : Int) : Bool := decide (1 ≤ p) && withinB g 0 (wrap64 (p - 1))
theorem asoundB_iff {p g : Int} (hp : p ≤ 9223372036854775807) : asoundB p g = true ↔ 1 ≤ p ∧ 0 ≤ g ∧ g ≤ p - 1 := by
  simp only [asoundB, withinB, Bool.and_eq_true, decide_eq_true_eq]
  constructor
  · rintro ⟨h1, h2, h3⟩; unfold wrap64 at h3; omega
  · rintro ⟨h1, h2, h3⟩; unfold wrap64; omega

set_option maxHeartbeats 400000 in
theorem asound_any (n a p g : Int) (w : World) :
    Calls Try.prog 81 #[.agg #[.int .i64 n, .int .i64 a, .int .i64 p, .int .i64 g]] w fun e w' => e = .returned (.bool (asoundB p g)) ∧ Fr [] w w' := by
  go_enter Try.func81, Try.ntmps81
  go_wp2_with (go_at_call 66; refine (within_any _ _ _ _).mono ?_; rintro e w' ⟨rfl, rfl⟩)
  all_goals (go_ret; refine ⟨?_, (Fr.refl _ _).alloc _⟩; simp [asoundB, *])
  all_goals omega

/-- A pace that may be, as the code asks it. -/
def amayB (n a p g d b : Int) : Bool := withinB d 1 16 && withinB b 1 256 && withinB n 0 a && withinB a 0 b && withinB p 1 d && withinB g 0 (wrap64 (p - 1))
theorem amayB_iff (n a p g d b : Int) : amayB n a p g d b = true ↔ (1 ≤ d ∧ d ≤ 16) ∧ (1 ≤ b ∧ b ≤ 256) ∧ (0 ≤ n ∧ n ≤ a) ∧ a ≤ b ∧ (1 ≤ p ∧ p ≤ d) ∧ (0 ≤ g ∧ g < p) := by
  simp only [amayB, withinB, Bool.and_eq_true, decide_eq_true_eq]
  constructor
  · rintro ⟨⟨⟨⟨⟨h1, h2⟩, h3⟩, h4⟩, h5⟩, h6⟩; unfold wrap64 at h6; omega
  · rintro ⟨h1, h2, h3, h4, h5, h6⟩; unfold wrap64; omega

set_option maxHeartbeats 400000 in
theorem amay_any (n a p g d b : Int) (w : World) :
    Calls Try.prog 45 #[.agg #[.int .i64 n, .int .i64 a, .int .i64 p, .int .i64 g], .int .i64 d, .int .i64 b] w fun e w' => e = .returned (.bool (amayB n a p g d b)) ∧ Fr [] w w' := by
  go_enter Try.func45, Try.ntmps45
  go_wp2_with (go_at_call 66; refine (within_any _ _ _ _).mono ?_; rintro e w' ⟨rfl, rfl⟩)
  all_goals (go_ret; refine ⟨?_, (Fr.refl _ _).alloc _⟩; simp [amayB, *])

set_option maxHeartbeats 400000 in
theorem astart_any (n : Int) (w : World) :
    Calls Try.prog 46 #[.int .i64 n] w fun e w' => e = .returned (.agg #[.int .i64 n, .int .i64 n, .int .i64 1, .int .i64 0]) ∧ Fr [] w w' := by
  go_enter Try.func46, Try.ntmps46
  go_wp2
  refine bodyPost_ret (v := .agg #[.int .i64 n, .int .i64 n, .int .i64 1, .int .i64 0]) (by simp [results, Try.results46, go_sem]) rfl ⟨rfl, ?_⟩
  exact (by repeat' (first | (with_reducible exact Fr.refl _ _) | (with_reducible assumption) | (with_reducible refine Fr.drew ?_) | (with_reducible refine Fr.drewN ?_ _) | (with_reducible refine Fr.alloc ?_ _) | ((with_reducible refine Fr.setNew ?_ _ ?_ _); rotate_left; (focus (first | (with_reducible assumption) | exact Nat.le_of_lt (by with_reducible assumption) | (focus (simp +arith; done)) | exact Nat.le_trans (by with_reducible assumption) (by simp +arith; done) | (simp; done)))) | ((with_reducible refine Fr.setOld ?_ _ ?_ _); rotate_left; (focus (simp; done)))))

/-- Trigger's answer. -/
def atrig (a g : Int) : Int := if a < 0 ∨ g < 0 then 0 else wrap64 (wrap64 (a - 1) - g)

def alateG (p g : Int) : Int := if asoundB p g = true then min (wrap64 (g + 1)) (wrap64 (p - 1)) else g

set_option maxHeartbeats 400000 in
theorem alate_any (n a p g : Int) (w : World) :
    Calls Try.prog 56 #[.agg #[.int .i64 n, .int .i64 a, .int .i64 p, .int .i64 g]] w fun e w' => e = .returned (.agg #[.int .i64 n, .int .i64 a, .int .i64 p, .int .i64 (alateG p g)]) ∧ Fr [] w w' := by
  go_enter Try.func56, Try.ntmps56
  go_wp2_with (go_at_call 81; refine (asound_any _ _ _ _ _).mono ?_; rintro e w1 ⟨rfl, f1⟩; apply f1.use (k := w.heap.size); (focus (repeat (first | (with_reducible assumption) | ((with_reducible refine heap_alloc_at ?_ _); first | (with_reducible rfl) | (focus (simp; done))) | (with_reducible apply heap_alloc_old) | ((with_reducible apply heap_set_other); (case hne => (first | (with_reducible assumption) | exact Nat.ne_of_lt (by with_reducible assumption) | exact Nat.ne_of_gt (by with_reducible assumption) | (focus (simp +arith; done)) | (simp; done)))) | (with_reducible apply heap_set_eq) | (with_reducible apply heap_drew_of) | (with_reducible apply heap_drewN_of)))); (focus (first | (simp; done) | (simp; assumption))); intro hg1 hc1 hz1 _ _ _ _ _; (try simp only [List.setIfInBounds_toArray, List.set_cons_zero, List.set_cons_succ] at hg1 hc1); apply f1.use (k := w.heap.size+1); (focus (repeat (first | (with_reducible assumption) | ((with_reducible refine heap_alloc_at ?_ _); first | (with_reducible rfl) | (focus (simp; done))) | (with_reducible apply heap_alloc_old) | ((with_reducible apply heap_set_other); (case hne => (first | (with_reducible assumption) | exact Nat.ne_of_lt (by with_reducible assumption) | exact Nat.ne_of_gt (by with_reducible assumption) | (focus (simp +arith; done)) | (simp; done)))) | (with_reducible apply heap_set_eq) | (with_reducible apply heap_drew_of) | (with_reducible apply heap_drewN_of)))); (focus (first | (simp; done) | (simp; assumption))); intro hg2 hc2 hz2 _ _ _ _ _; (try simp only [List.setIfInBounds_toArray, List.set_cons_zero, List.set_cons_succ] at hg2 hc2); have F1 : Fr [] w w1 := Fr.trans (by repeat' (first | (with_reducible exact Fr.refl _ _) | (with_reducible assumption) | (with_reducible refine Fr.drew ?_) | (with_reducible refine Fr.drewN ?_ _) | (with_reducible refine Fr.alloc ?_ _) | ((with_reducible refine Fr.setNew ?_ _ ?_ _); rotate_left; (focus (first | (with_reducible assumption) | exact Nat.le_of_lt (by with_reducible assumption) | (focus (simp +arith; done)) | exact Nat.le_trans (by with_reducible assumption) (by simp +arith; done) | (simp; done)))) | ((with_reducible refine Fr.setOld ?_ _ ?_ _); rotate_left; (focus (simp; done))))) f1; clear f1)
  all_goals refine bodyPost_ret (v := .agg #[.int .i64 n, .int .i64 a, .int .i64 p, .int .i64 (alateG p g)]) (by simp [results, Try.results56, go_sem, alateG, Int.min_def, *] <;> omega) rfl ⟨rfl, (by repeat' (first | (with_reducible exact Fr.refl _ _) | (with_reducible assumption) | (with_reducible refine Fr.drew ?_) | (with_reducible refine Fr.drewN ?_ _) | (with_reducible refine Fr.alloc ?_ _) | ((with_reducible refine Fr.setNew ?_ _ ?_ _); rotate_left; (focus (first | (with_reducible assumption) | exact Nat.le_of_lt (by with_reducible assumption) | (focus (simp +arith; done)) | exact Nat.le_trans (by with_reducible assumption) (by simp +arith; done) | (simp; done)))) | ((with_reducible refine Fr.setOld ?_ _ ?_ _); rotate_left; (focus (simp; done)))))⟩

def awasteP (p g : Int) : Int := if 1 ≤ p ∧ 0 ≤ g ∧ g < p then max (p - 1) 1 else p
def awasteG (p g : Int) : Int := if 1 ≤ p ∧ 0 ≤ g ∧ g < p then min (max (g - 1) 0) (awasteP p g - 1) else g

set_option maxHeartbeats 400000 in
theorem awaste_any (n a p g : Int) (hp : p ≤ 9223372036854775807) (w : World) :
    Calls Try.prog 59 #[.agg #[.int .i64 n, .int .i64 a, .int .i64 p, .int .i64 g]] w fun e w' => e = .returned (.agg #[.int .i64 n, .int .i64 a, .int .i64 (awasteP p g), .int .i64 (awasteG p g)]) ∧ Fr [] w w' := by
  by_cases hs : asoundB p g = true
  · obtain ⟨s1, s2, s3⟩ := (asoundB_iff hp).1 hs
    have HP : Hid (awasteP p g = max (p - 1) 1) := if_pos ⟨s1, s2, by omega⟩
    have HG : Hid (awasteG p g = min (max (g - 1) 0) (awasteP p g - 1)) := if_pos ⟨s1, s2, by omega⟩
    go_enter Try.func59, Try.ntmps59
    go_wp2_with (go_at_call 81; refine (asound_any _ _ _ _ _).mono ?_; rintro e w1 ⟨rfl, f1⟩; apply f1.use (k := w.heap.size); (focus (repeat (first | (with_reducible assumption) | ((with_reducible refine heap_alloc_at ?_ _); first | (with_reducible rfl) | (focus (simp; done))) | (with_reducible apply heap_alloc_old) | ((with_reducible apply heap_set_other); (case hne => (first | (with_reducible assumption) | exact Nat.ne_of_lt (by with_reducible assumption) | exact Nat.ne_of_gt (by with_reducible assumption) | (focus (simp +arith; done)) | (simp; done)))) | (with_reducible apply heap_set_eq) | (with_reducible apply heap_drew_of) | (with_reducible apply heap_drewN_of)))); (focus (first | (simp; done) | (simp; assumption))); intro hg1 hc1 hz1 _ _ _ _ _; (try simp only [List.setIfInBounds_toArray, List.set_cons_zero, List.set_cons_succ] at hg1 hc1); apply f1.use (k := w.heap.size+1); (focus (repeat (first | (with_reducible assumption) | ((with_reducible refine heap_alloc_at ?_ _); first | (with_reducible rfl) | (focus (simp; done))) | (with_reducible apply heap_alloc_old) | ((with_reducible apply heap_set_other); (case hne => (first | (with_reducible assumption) | exact Nat.ne_of_lt (by with_reducible assumption) | exact Nat.ne_of_gt (by with_reducible assumption) | (focus (simp +arith; done)) | (simp; done)))) | (with_reducible apply heap_set_eq) | (with_reducible apply heap_drew_of) | (with_reducible apply heap_drewN_of)))); (focus (first | (simp; done) | (simp; assumption))); intro hg2 hc2 hz2 _ _ _ _ _; (try simp only [List.setIfInBounds_toArray, List.set_cons_zero, List.set_cons_succ] at hg2 hc2); have F1 : Fr [] w w1 := Fr.trans (by repeat' (first | (with_reducible exact Fr.refl _ _) | (with_reducible assumption) | (with_reducible refine Fr.drew ?_) | (with_reducible refine Fr.drewN ?_ _) | (with_reducible refine Fr.alloc ?_ _) | ((with_reducible refine Fr.setNew ?_ _ ?_ _); rotate_left; (focus (first | (with_reducible assumption) | exact Nat.le_of_lt (by with_reducible assumption) | (focus (simp +arith; done)) | exact Nat.le_trans (by with_reducible assumption) (by simp +arith; done) | (simp; done)))) | ((with_reducible refine Fr.setOld ?_ _ ?_ _); rotate_left; (focus (simp; done))))) f1; clear f1)
    all_goals refine bodyPost_ret (v := .agg #[.int .i64 n, .int .i64 a, .int .i64 (awasteP p g), .int .i64 (awasteG p g)]) (by simp [results, Try.results59, go_sem, HP.out, HG.out, *] <;> omega) rfl ⟨rfl, (by repeat' (first | (with_reducible exact Fr.refl _ _) | (with_reducible assumption) | (with_reducible refine Fr.drew ?_) | (with_reducible refine Fr.drewN ?_ _) | (with_reducible refine Fr.alloc ?_ _) | ((with_reducible refine Fr.setNew ?_ _ ?_ _); rotate_left; (focus (first | (with_reducible assumption) | exact Nat.le_of_lt (by with_reducible assumption) | (focus (simp +arith; done)) | exact Nat.le_trans (by with_reducible assumption) (by simp +arith; done) | (simp; done)))) | ((with_reducible refine Fr.setOld ?_ _ ?_ _); rotate_left; (focus (simp; done)))))⟩
  · have hs' : asoundB p g = false := by simpa using hs
    have hn : ¬ (1 ≤ p ∧ 0 ≤ g ∧ g < p) := fun h => hs ((asoundB_iff hp).2 ⟨h.1, h.2.1, by omega⟩)
    have HP : Hid (awasteP p g = p) := if_neg hn
    have HG : Hid (awasteG p g = g) := if_neg hn
    clear hn hs
    go_enter Try.func59, Try.ntmps59
    go_wp2_with (go_at_call 81; refine (asound_any _ _ _ _ _).mono ?_; rintro e w1 ⟨rfl, f1⟩; apply f1.use (k := w.heap.size); (focus (repeat (first | (with_reducible assumption) | ((with_reducible refine heap_alloc_at ?_ _); first | (with_reducible rfl) | (focus (simp; done))) | (with_reducible apply heap_alloc_old) | ((with_reducible apply heap_set_other); (case hne => (first | (with_reducible assumption) | exact Nat.ne_of_lt (by with_reducible assumption) | exact Nat.ne_of_gt (by with_reducible assumption) | (focus (simp +arith; done)) | (simp; done)))) | (with_reducible apply heap_set_eq) | (with_reducible apply heap_drew_of) | (with_reducible apply heap_drewN_of)))); (focus (first | (simp; done) | (simp; assumption))); intro hg1 hc1 hz1 _ _ _ _ _; (try simp only [List.setIfInBounds_toArray, List.set_cons_zero, List.set_cons_succ] at hg1 hc1); apply f1.use (k := w.heap.size+1); (focus (repeat (first | (with_reducible assumption) | ((with_reducible refine heap_alloc_at ?_ _); first | (with_reducible rfl) | (focus (simp; done))) | (with_reducible apply heap_alloc_old) | ((with_reducible apply heap_set_other); (case hne => (first | (with_reducible assumption) | exact Nat.ne_of_lt (by with_reducible assumption) | exact Nat.ne_of_gt (by with_reducible assumption) | (focus (simp +arith; done)) | (simp; done)))) | (with_reducible apply heap_set_eq) | (with_reducible apply heap_drew_of) | (with_reducible apply heap_drewN_of)))); (focus (first | (simp; done) | (simp; assumption))); intro hg2 hc2 hz2 _ _ _ _ _; (try simp only [List.setIfInBounds_toArray, List.set_cons_zero, List.set_cons_succ] at hg2 hc2); have F1 : Fr [] w w1 := Fr.trans (by repeat' (first | (with_reducible exact Fr.refl _ _) | (with_reducible assumption) | (with_reducible refine Fr.drew ?_) | (with_reducible refine Fr.drewN ?_ _) | (with_reducible refine Fr.alloc ?_ _) | ((with_reducible refine Fr.setNew ?_ _ ?_ _); rotate_left; (focus (first | (with_reducible assumption) | exact Nat.le_of_lt (by with_reducible assumption) | (focus (simp +arith; done)) | exact Nat.le_trans (by with_reducible assumption) (by simp +arith; done) | (simp; done)))) | ((with_reducible refine Fr.setOld ?_ _ ?_ _); rotate_left; (focus (simp; done))))) f1; clear f1)
    all_goals refine bodyPost_ret (v := .agg #[.int .i64 n, .int .i64 a, .int .i64 (awasteP p g), .int .i64 (awasteG p g)]) (by simp [results, Try.results59, go_sem, HP.out, HG.out, *]) rfl ⟨rfl, (by repeat' (first | (with_reducible exact Fr.refl _ _) | (with_reducible assumption) | (with_reducible refine Fr.drew ?_) | (with_reducible refine Fr.drewN ?_ _) | (with_reducible refine Fr.alloc ?_ _) | ((with_reducible refine Fr.setNew ?_ _ ?_ _); rotate_left; (focus (first | (with_reducible assumption) | exact Nat.le_of_lt (by with_reducible assumption) | (focus (simp +arith; done)) | exact Nat.le_trans (by with_reducible assumption) (by simp +arith; done) | (simp; done)))) | ((with_reducible refine Fr.setOld ?_ _ ?_ _); rotate_left; (focus (simp; done)))))⟩

theorem Try_ta_amp (v : Value) (w : World) : (Instr.typeAssert (.iface 135 v) 20 135 true).run Try.prog w = .ok (.tuple #[v, .bool true]) w := by kernel_rfl

set_option maxHeartbeats 400000 in
/-- The deferred closure of Read, where the frame panics with a refusal: it lays the code, and nothing else, into the results. -/
theorem aread_catch (p q r : Nat) (c x1 x2 x3 x4 y1 y2 z : Int) (older : List PanicEntry) (w : World)
   (hp : w.heap[p]? = some (.cells #[.int .i64 x1, .int .i64 x2, .int .i64 x3, .int .i64 x4] 57))
   (hq : w.heap[q]? = some (.cells #[.int .i64 y1, .int .i64 y2] 36)) (hr : w.heap[r]? = some (.cells #[.int .i64 z] 27))
   (hpq : p ≠ q) (hpr : p ≠ r) (hqr : q ≠ r):
    CallsD Try.prog 75 #[.pointer (some ⟨p, 0, none⟩), .pointer (some ⟨q, 0, none⟩), .pointer (some ⟨r, 0, none⟩)] (.panicking ({ v := .iface 135 (.agg #[.int .i64 c]), recovered := false } :: older)) w fun e u' w' =>
      e = .returned (.tuple #[]) ∧ u' = .panicking ({ v := .iface 135 (.agg #[.int .i64 c]), recovered := true } :: older) ∧
      w'.heap[p]? = some (.cells #[.int .i64 0, .int .i64 0, .int .i64 0, .int .i64 0] 57) ∧ w'.heap[q]? = some (.cells #[.int .i64 0, .int .i64 0] 36) ∧ w'.heap[r]? = some (.cells #[.int .i64 c] 27) ∧ Fr [p, q, r] w w' := by
  refine callsD_of_wpS Try.func75 rfl fun c₀ cs hu => ?_
  have hta := Try_ta_amp
  refine wpS_recover_panic hu ?_
  refine wpS_of_wp ?_
  simp only [Try.ntmps75, Act.put, List.size_toArray, List.length_cons, List.length_nil, Nat.reduceAdd, Nat.reduceSub, Array.replicate_succ,
     Array.replicate_zero, List.push_toArray, List.append_toArray, List.nil_append, List.cons_append, List.setIfInBounds_toArray, List.set_cons_succ, List.set_cons_zero]
  go_wp2
  have p0 := fun o => blk_cell (heap_alloc_old hp o)
  have p1 := fun o => blk_frozen (heap_alloc_old hp o)
  have q0 := fun o => blk_cell (heap_alloc_old hq o)
  have q1 := fun o => blk_frozen (heap_alloc_old hq o)
  have r0 := fun o => blk_cell (heap_alloc_old hr o)
  have r1 := fun o => blk_frozen (heap_alloc_old hr o)
  have p2 := ne_size hp
  have q2 := ne_size hq
  have r2 := ne_size hr
  have p3 := p2.symm
  have q3 := q2.symm
  have r3 := r2.symm
  have hpq' := hpq.symm
  have hpr' := hpr.symm
  have hqr' := hqr.symm
  go_region
  refine ⟨rfl, _, rfl, .tuple #[], by simp [results, Try.results75], rfl, rfl, ?_, ?_, ?_, ?_⟩
  · (apply heap_eq_of; (focus (repeat (first | (with_reducible assumption) | ((with_reducible refine heap_alloc_at ?_ _); first | (with_reducible rfl) | (focus (simp; done))) | (with_reducible apply heap_alloc_old) | ((with_reducible apply heap_set_other); (case hne => (first | (with_reducible assumption) | exact Nat.ne_of_lt (by with_reducible assumption) | exact Nat.ne_of_gt (by with_reducible assumption) | (focus (simp +arith; done)) | (simp; done)))) | (with_reducible apply heap_set_eq) | (with_reducible apply heap_drew_of) | (with_reducible apply heap_drewN_of)))); (focus (first | (simp; done) | rfl)))
  · (apply heap_eq_of; (focus (repeat (first | (with_reducible assumption) | ((with_reducible refine heap_alloc_at ?_ _); first | (with_reducible rfl) | (focus (simp; done))) | (with_reducible apply heap_alloc_old) | ((with_reducible apply heap_set_other); (case hne => (first | (with_reducible assumption) | exact Nat.ne_of_lt (by with_reducible assumption) | exact Nat.ne_of_gt (by with_reducible assumption) | (focus (simp +arith; done)) | (simp; done)))) | (with_reducible apply heap_set_eq) | (with_reducible apply heap_drew_of) | (with_reducible apply heap_drewN_of)))); (focus (first | (simp; done) | rfl)))
  · (apply heap_eq_of; (focus (repeat (first | (with_reducible assumption) | ((with_reducible refine heap_alloc_at ?_ _); first | (with_reducible rfl) | (focus (simp; done))) | (with_reducible apply heap_alloc_old) | ((with_reducible apply heap_set_other); (case hne => (first | (with_reducible assumption) | exact Nat.ne_of_lt (by with_reducible assumption) | exact Nat.ne_of_gt (by with_reducible assumption) | (focus (simp +arith; done)) | (simp; done)))) | (with_reducible apply heap_set_eq) | (with_reducible apply heap_drew_of) | (with_reducible apply heap_drewN_of)))); (focus (first | (simp; done) | rfl)))
  · exact (by repeat' (first | (with_reducible exact Fr.refl _ _) | (with_reducible assumption) | (with_reducible refine Fr.drew ?_) | (with_reducible refine Fr.drewN ?_ _) | (with_reducible refine Fr.alloc ?_ _) | ((with_reducible refine Fr.setNew ?_ _ ?_ _); rotate_left; (focus (first | (with_reducible assumption) | exact Nat.le_of_lt (by with_reducible assumption) | (focus (simp +arith; done)) | exact Nat.le_trans (by with_reducible assumption) (by simp +arith; done) | (simp; done)))) | ((with_reducible refine Fr.setOld ?_ _ ?_ _); rotate_left; (focus (simp; done)))))

set_option maxHeartbeats 400000 in
theorem aread_idle (p q r : Nat) (w : World) :
    CallsD Try.prog 75 #[.pointer (some ⟨p, 0, none⟩), .pointer (some ⟨q, 0, none⟩), .pointer (some ⟨r, 0, none⟩)] .returning w fun e u' w' =>
      e = .returned (.tuple #[]) ∧ u' = .returning ∧ w' = w := by
  refine callsD_of_wpS Try.func75 rfl fun c₀ cs hu => ?_
  refine wpS_recover_idle hu ?_
  refine wpS_of_wp ?_
  simp only [Try.ntmps75, Act.put, List.size_toArray, List.length_cons, List.length_nil, Nat.reduceAdd, Nat.reduceSub, Array.replicate_succ,
     Array.replicate_zero, List.push_toArray, List.append_toArray, List.nil_append, List.cons_append, List.setIfInBounds_toArray, List.set_cons_succ, List.set_cons_zero]
  go_wp2
  cases c₀
  simp_all [bodyPostS, results, Try.results75]

end Go.Proofs.Ytoapobhdpgcmbaa
