/- The contracts of package pool's New, Frame, Count, Pins, Take. -/
import Derived.Test.YtmhdnafdbgbmfaaPoolOps
import Derived.IntWalk
import Derived.Test.YtmhdnafdbgbmfaaReg2
namespace Go.Proofs.Ytmhdnafdbgbmfaa
open Go.RowKit

def fm0 : Fm := ⟨0, 0, 0, 0, 0⟩
theorem fmade (n : Nat) : madeCells #[.int .i64 0, .int .i64 0, .int .i64 0, .int .i64 0, .int .u64 0] (n * 5) = (fcells (List.replicate n fm0)).toArray := by
  apply Array.ext_getElem?
  intro j
  by_cases hj : j < n * 5
  · have h1 : j / 5 < n := by omega
    have := fcells_get (List.replicate n fm0) (j / 5) (j % 5) fm0 (by simp [h1]) (by omega)
    rw [show j / 5 * 5 + j % 5 = j by omega] at this
    rw [show (fcells (List.replicate n fm0)).toArray[j]? = (fcells (List.replicate n fm0))[j]? by simp, this]
    simp only [madeCells, Array.getElem?_map, Array.getElem?_range, hj, if_true, Option.map_some]
    have h5 : j % 5 < 5 := by omega
    generalize j % 5 = m at h5
    match m, h5 with
    | 0, _ => rfl
    | 1, _ => rfl
    | 2, _ => rfl
    | 3, _ => rfl
    | 4, _ => rfl
  · rw [Array.getElem?_eq_none (by rw [size_madeCells]; omega), Array.getElem?_eq_none (by simp [fcells_len]; omega)]
theorem run_fmake (n : Nat) (h : n ≤ 1000) (w : World) : (Instr.makeSlice 62 (.int .i64 n) (.int .i64 n)).run Try.prog w = .ok (.slice (some ⟨w.heap.size, 0, none⟩) n n) (w.alloc (.cells (fcells (List.replicate n fm0)).toArray 59)) := by
  obtain ⟨i, hi, hz, hs, hb⟩ := info_parts (P := Try.prog) (e := 59) (z := .agg #[.int .i64 0, .int .i64 0, .int .i64 0, .int .i64 0, .int .u64 0]) (size := 5) (bytes := 40) (by kernel_rfl)
  have := run_make (P := Try.prog) w 62 59 i _ (by kernel_rfl) hi hz .i64 .i64 n n (by omega) (Int.le_refl _) (by rw [hb]; omega) (by omega)
  rw [this, hs]
  simp only [Int.toNat_natCast, Value.cells, fmade]

set_option maxHeartbeats 1000000 in
theorem pnew_no (n : Int) (h : n < 1 ∨ 64 < n) (w : World) :
    Calls Try.prog 26 #[.int .i64 n] w fun e w' => e = .returned (.tuple #[.pointer none, .int .i64 1]) ∧ w = w' := by
  rcases h with h | h
  · go_enter Try.func26, Try.ntmps26
    go_wp2
    refine bodyPost_ret (v := .tuple #[.pointer none, .int .i64 1]) (by simp [results, Try.results26, go_sem, *]) rfl ⟨rfl, rfl⟩
  · have h1 : ¬ n < 1 := by omega
    go_enter Try.func26, Try.ntmps26
    go_wp2
    refine bodyPost_ret (v := .tuple #[.pointer none, .int .i64 1]) (by simp [results, Try.results26, go_sem, *]) rfl ⟨rfl, rfl⟩

set_option maxHeartbeats 1000000 in
theorem pnew_ok (n : Nat) (h1 : 1 ≤ n) (h2 : n ≤ 64) (w : World) :
    Calls Try.prog 26 #[.int .i64 n] w fun e w' => e = .returned (.tuple #[.pointer (some ⟨w.heap.size + 1, 0, none⟩), .int .i64 0]) ∧ PoolAt pT w' (w.heap.size + 1) w.heap.size (List.replicate n fm0) ∧ Fr [] w w' := by
  have h3 : ¬ (n : Int) < 1 := by omega
  have h4 : ¬ 64 < (n : Int) := by omega
  have hmk := run_fmake n (by omega)
  go_enter Try.func26, Try.ntmps26
  go_wp2
  refine bodyPost_ret (v := .tuple #[.pointer (some ⟨w.heap.size + 1, 0, none⟩), .int .i64 0]) (by simp [results, Try.results26, go_sem, *]) rfl ⟨rfl, ⟨?_, ?_, by omega⟩, (by repeat' (first | (with_reducible exact Fr.refl _ _) | (with_reducible assumption) | (with_reducible refine Fr.drew ?_) | (with_reducible refine Fr.drewN ?_ _) | (with_reducible refine Fr.alloc ?_ _) | ((with_reducible refine Fr.setNew ?_ _ ?_ _); rotate_left; (focus (first | (with_reducible assumption) | exact Nat.le_of_lt (by with_reducible assumption) | (focus (simp +arith; done)) | exact Nat.le_trans (by with_reducible assumption) (by simp +arith; done) | (simp; done)))) | ((with_reducible refine Fr.setOld ?_ _ ?_ _); rotate_left; (focus (simp; done)))))⟩
  · (apply heap_eq_of; (focus (repeat (first | (with_reducible assumption) | ((with_reducible refine heap_alloc_at ?_ _); first | (with_reducible rfl) | (focus (simp; done))) | (with_reducible apply heap_alloc_old) | ((with_reducible apply heap_set_other); (case hne => (first | (with_reducible assumption) | exact Nat.ne_of_lt (by with_reducible assumption) | exact Nat.ne_of_gt (by with_reducible assumption) | (focus (simp +arith; done)) | (simp; done)))) | (with_reducible apply heap_set_eq) | (with_reducible apply heap_drew_of) | (with_reducible apply heap_drewN_of)))); (focus (first | (simp; done) | rfl)))
  · (apply heap_eq_of; (focus (repeat (first | (with_reducible assumption) | ((with_reducible refine heap_alloc_at ?_ _); first | (with_reducible rfl) | (focus (simp; done))) | (with_reducible apply heap_alloc_old) | ((with_reducible apply heap_set_other); (case hne => (first | (with_reducible assumption) | exact Nat.ne_of_lt (by with_reducible assumption) | exact Nat.ne_of_gt (by with_reducible assumption) | (focus (simp +arith; done)) | (simp; done)))) | (with_reducible apply heap_set_eq) | (with_reducible apply heap_drew_of) | (with_reducible apply heap_drewN_of)))); (focus (first | (simp; done) | rfl)))

set_option maxHeartbeats 1000000 in
theorem pframe_ok (bp bf : Nat) (l : List Fm) (i : Nat) (f : Fm) (hi : l[i]? = some f) (w : World) (hP : PoolAt pT w bp bf l) :
    Calls Try.prog 33 #[.pointer (some ⟨bp, 0, none⟩), .int .i64 i] w fun e w' => e = .returned (.tuple #[.agg #[.int .i64 f.s, .int .i64 f.b, .int .i64 f.g, .int .i64 f.p, .int .u64 f.v], .bool true]) ∧ Fr [] w w' := by
  have hil : i < l.length := (List.getElem?_eq_some_iff.1 hi).1
  have c0 := (hP).cell hi 0 (by omega); have c1 := (hP).cell hi 1 (by omega); have c2 := (hP).cell hi 2 (by omega); have c3 := (hP).cell hi 3 (by omega); have c4 := (hP).cell hi 4 (by omega); simp [Fm.cells] at c0 c1 c2 c3 c4
  have hz0 := blk_frozen hP.hf
  apply blk_use hP.hp; intro hg1 hc1 hz1 _ _ _ _ _
  obtain ⟨L1, L2⟩ := hP.lt
  go_enter Try.func33, Try.ntmps33
  go_wp2
  refine bodyPost_ret (v := .tuple #[.agg #[.int .i64 f.s, .int .i64 f.b, .int .i64 f.g, .int .i64 f.p, .int .u64 f.v], .bool true]) (by simp [results, Try.results33, go_sem, *]) rfl ⟨rfl, (by repeat' (first | (with_reducible exact Fr.refl _ _) | (with_reducible assumption) | (with_reducible refine Fr.drew ?_) | (with_reducible refine Fr.drewN ?_ _) | (with_reducible refine Fr.alloc ?_ _) | ((with_reducible refine Fr.setNew ?_ _ ?_ _); rotate_left; (focus (first | (with_reducible assumption) | exact Nat.le_of_lt (by with_reducible assumption) | (focus (simp +arith; done)) | exact Nat.le_trans (by with_reducible assumption) (by simp +arith; done) | (simp; done)))) | ((with_reducible refine Fr.setOld ?_ _ ?_ _); rotate_left; (focus (simp; done)))))⟩

set_option maxHeartbeats 1000000 in
theorem pframe_no (bp bf : Nat) (l : List Fm) (i : Int) (hi : i < 0 ∨ (l.length : Int) ≤ i) (w : World) (hP : PoolAt pT w bp bf l) :
    Calls Try.prog 33 #[.pointer (some ⟨bp, 0, none⟩), .int .i64 i] w fun e w' => e = .returned (.tuple #[.agg #[.int .i64 0, .int .i64 0, .int .i64 0, .int .i64 0, .int .u64 0], .bool false]) ∧ Fr [] w w' := by
  apply blk_use hP.hp; intro hg1 hc1 hz1 _ _ _ _ _
  by_cases h1 : i < 0
  · clear hi
    go_enter Try.func33, Try.ntmps33
    go_wp2
    refine bodyPost_ret (v := .tuple #[.agg #[.int .i64 0, .int .i64 0, .int .i64 0, .int .i64 0, .int .u64 0], .bool false]) (by simp [results, Try.results33, go_sem, *]) rfl ⟨rfl, (by repeat' (first | (with_reducible exact Fr.refl _ _) | (with_reducible assumption) | (with_reducible refine Fr.drew ?_) | (with_reducible refine Fr.drewN ?_ _) | (with_reducible refine Fr.alloc ?_ _) | ((with_reducible refine Fr.setNew ?_ _ ?_ _); rotate_left; (focus (first | (with_reducible assumption) | exact Nat.le_of_lt (by with_reducible assumption) | (focus (simp +arith; done)) | exact Nat.le_trans (by with_reducible assumption) (by simp +arith; done) | (simp; done)))) | ((with_reducible refine Fr.setOld ?_ _ ?_ _); rotate_left; (focus (simp; done)))))⟩
  · have h2 : (l.length : Int) ≤ i := by omega
    clear hi
    go_enter Try.func33, Try.ntmps33
    go_wp2
    refine bodyPost_ret (v := .tuple #[.agg #[.int .i64 0, .int .i64 0, .int .i64 0, .int .i64 0, .int .u64 0], .bool false]) (by simp [results, Try.results33, go_sem, *]) rfl ⟨rfl, (by repeat' (first | (with_reducible exact Fr.refl _ _) | (with_reducible assumption) | (with_reducible refine Fr.drew ?_) | (with_reducible refine Fr.drewN ?_ _) | (with_reducible refine Fr.alloc ?_ _) | ((with_reducible refine Fr.setNew ?_ _ ?_ _); rotate_left; (focus (first | (with_reducible assumption) | exact Nat.le_of_lt (by with_reducible assumption) | (focus (simp +arith; done)) | exact Nat.le_trans (by with_reducible assumption) (by simp +arith; done) | (simp; done)))) | ((with_reducible refine Fr.setOld ?_ _ ?_ _); rotate_left; (focus (simp; done)))))⟩

/-- How many frames are of a state. -/
def cntS (l : List Fm) (s : Int) : Int := (l.countP fun f => f.s == s : Nat)
def sumP (l : List Fm) : Int := (l.map Fm.p).sum
theorem cntS_take {l : List Fm} {k : Nat} {f : Fm} (h : l[k]? = some f) (s : Int) : cntS (l.take (k + 1)) s = cntS (l.take k) s + if f.s = s then 1 else 0 := by
  rw [cntS, cntS, List.take_add_one, h, List.countP_append]
  by_cases hs : f.s = s <;> simp [hs]
theorem sumP_take {l : List Fm} {k : Nat} {f : Fm} (h : l[k]? = some f) : sumP (l.take (k + 1)) = sumP (l.take k) + f.p := by
  rw [sumP, sumP, List.take_add_one, h]
  simp
theorem cntS_le (l : List Fm) (s : Int) : 0 ≤ cntS l s ∧ cntS l s ≤ l.length := by
  unfold cntS
  have := List.countP_le_length (p := fun f : Fm => f.s == s) (l := l)
  omega

set_option maxHeartbeats 4000000 in
theorem pcount (bp bf : Nat) (l : List Fm) (hn : l.length ≤ 1000) (hs : ∀ f ∈ l, 0 ≤ f.s ∧ f.s ≤ 3) (w : World) (hP : PoolAt pT w bp bf l) :
    Calls Try.prog 29 #[.pointer (some ⟨bp, 0, none⟩)] w fun e w' => e = .returned (.agg #[.int .i64 (cntS l 0), .int .i64 (cntS l 1), .int .i64 (cntS l 2), .int .i64 (cntS l 3)]) ∧ Fr [] w w' := by
  have HP := Lib.hid hP
  apply blk_use hP.hp; intro hg1 hc1 hz1 _ _ _ _ _
  obtain ⟨L1, L2⟩ := hP.lt
  have HS := Lib.hid hs
  clear hP hs
  go_enter Try.func29, Try.ntmps29
  go_wp2_with fail
  refine wp_name (fun w5 f5 => ?_)
  apply f5.use (k := w.heap.size); (focus (repeat (first | (with_reducible assumption) | ((with_reducible refine heap_alloc_at ?_ _); first | (with_reducible rfl) | (focus (simp; done))) | (with_reducible apply heap_alloc_old) | ((with_reducible apply heap_set_other); (case hne => (first | (with_reducible assumption) | exact Nat.ne_of_lt (by with_reducible assumption) | exact Nat.ne_of_gt (by with_reducible assumption) | (focus (simp +arith; done)) | (simp; done)))) | (with_reducible apply heap_set_eq) | (with_reducible apply heap_drew_of) | (with_reducible apply heap_drewN_of)))); (focus (simp; done)); intro hg2 hc2 hz2 _ _ _ _ _; (try simp only [List.setIfInBounds_toArray, List.set_cons_zero, List.set_cons_succ] at hg2 hc2); apply f5.use (k := w.heap.size+1); (focus (repeat (first | (with_reducible assumption) | ((with_reducible refine heap_alloc_at ?_ _); first | (with_reducible rfl) | (focus (simp; done))) | (with_reducible apply heap_alloc_old) | ((with_reducible apply heap_set_other); (case hne => (first | (with_reducible assumption) | exact Nat.ne_of_lt (by with_reducible assumption) | exact Nat.ne_of_gt (by with_reducible assumption) | (focus (simp +arith; done)) | (simp; done)))) | (with_reducible apply heap_set_eq) | (with_reducible apply heap_drew_of) | (with_reducible apply heap_drewN_of)))); (focus (simp; done)); intro hg3 hc3 hz3 _ _ _ _ _; (try simp only [List.setIfInBounds_toArray, List.set_cons_zero, List.set_cons_succ] at hg3 hc3)
  have F5 : Fr [] w w5 := Fr.trans (by repeat' (first | (with_reducible exact Fr.refl _ _) | (with_reducible assumption) | (with_reducible refine Fr.drew ?_) | (with_reducible refine Fr.drewN ?_ _) | (with_reducible refine Fr.alloc ?_ _) | ((with_reducible refine Fr.setNew ?_ _ ?_ _); rotate_left; (focus (first | (with_reducible assumption) | exact Nat.le_of_lt (by with_reducible assumption) | (focus (simp +arith; done)) | exact Nat.le_trans (by with_reducible assumption) (by simp +arith; done) | (simp; done)))) | ((with_reducible refine Fr.setOld ?_ _ ?_ _); rotate_left; (focus (simp; done))))) f5
  clear hg1 hc1 hz1 hc2 hz2 hc3 hz3 f5
  go_loopw [11] (fun v w' => ∃ k : Nat, v = .int .i64 k ∧ k ≤ l.length ∧ w'.heap[w.heap.size+1]? = some (.cells #[.int .i64 (cntS (l.take k) 0), .int .i64 (cntS (l.take k) 1), .int .i64 (cntS (l.take k) 2), .int .i64 (cntS (l.take k) 3)] 55) ∧
      w'.heap[w.heap.size]? = some (.cells #[.int .i64 0, .int .i64 0, .int .i64 0, .int .i64 0] 55) ∧ Fr [] w w') (fun v _ => l.length - (intOf v).toNat)
  case atStart => exact ⟨0, rfl, by omega, by simpa [cntS] using hg3, hg2, F5⟩
  case round =>
    clear hg2 hg3 F5
    obtain ⟨k, rfl, k1, s1, s2, F6⟩ := hrel
    by_cases hk : k < l.length
    · obtain ⟨f, hi⟩ : ∃ f, l[k]? = some f := ⟨l[k], by simp [hk]⟩
      have P6 := HP.out.fr F6 (by simp) (by simp)
      have hz6 := blk_frozen P6.hf
      have c0 := (P6).cell hi 0 (by omega); have c1 := (P6).cell hi 1 (by omega); have c2 := (P6).cell hi 2 (by omega); have c3 := (P6).cell hi 3 (by omega); have c4 := (P6).cell hi 4 (by omega); simp [Fm.cells] at c0 c1 c2 c3 c4
      obtain ⟨S0, S3⟩ := HS.out f (List.mem_of_getElem? hi)
      have t0 := cntS_take hi 0
      have t1 := cntS_take hi 1
      have t2 := cntS_take hi 2
      have t3 := cntS_take hi 3
      obtain ⟨d0, e0⟩ := cntS_le (l.take k) 0
      obtain ⟨d1, e1⟩ := cntS_le (l.take k) 1
      obtain ⟨d2, e2⟩ := cntS_le (l.take k) 2
      obtain ⟨d3, e3⟩ := cntS_le (l.take k) 3
      rw [List.length_take] at e0 e1 e2 e3
      generalize cntS (l.take k) 0 = n0 at *
      generalize cntS (l.take k) 1 = n1 at *
      generalize cntS (l.take k) 2 = n2 at *
      generalize cntS (l.take k) 3 = n3 at *
      have q0 : n0 ≤ 1000 ∧ n1 ≤ 1000 ∧ n2 ≤ 1000 ∧ n3 ≤ 1000 := by omega
      obtain ⟨q0, q1, q2, q3⟩ := q0
      clear e0 e1 e2 e3 k1
      have F := Lib.hid F6
      have S2 := Lib.hid s2
      clear F6 P6 s2
      apply blk_use s1; intro hg1 hc1 hz1 _ _ _ _ _
      clear s1
      rcases (by omega : f.s = 0 ∨ f.s = 1 ∨ f.s = 2 ∨ f.s = 3) with q | q | q | q
      all_goals
        rw [q] at c0
        simp [q] at t0 t1 t2 t3
        have T0 := Lib.hid t0
        have T1 := Lib.hid t1
        have T2 := Lib.hid t2
        have T3 := Lib.hid t3
        clear t0 t1 t2 t3
        go_wp2
        go_roundw
        case rel =>
          refine ⟨k + 1, by go_num, by omega, ?_, ?_, ?_⟩
          · rw [T0.out, T1.out, T2.out, T3.out]
            (apply heap_eq_of; (focus (repeat (first | (with_reducible assumption) | ((with_reducible refine heap_alloc_at ?_ _); first | (with_reducible rfl) | (focus (simp; done))) | (with_reducible apply heap_alloc_old) | ((with_reducible apply heap_set_other); (case hne => (first | (with_reducible assumption) | exact Nat.ne_of_lt (by with_reducible assumption) | exact Nat.ne_of_gt (by with_reducible assumption) | (focus (simp +arith; done)) | (simp; done)))) | (with_reducible apply heap_set_eq) | (with_reducible apply heap_drew_of) | (with_reducible apply heap_drewN_of)))); (focus (first | (simp; done) | rfl)))
          · have s2 := S2.out
            (apply heap_eq_of; (focus (repeat (first | (with_reducible assumption) | ((with_reducible refine heap_alloc_at ?_ _); first | (with_reducible rfl) | (focus (simp; done))) | (with_reducible apply heap_alloc_old) | ((with_reducible apply heap_set_other); (case hne => (first | (with_reducible assumption) | exact Nat.ne_of_lt (by with_reducible assumption) | exact Nat.ne_of_gt (by with_reducible assumption) | (focus (simp +arith; done)) | (simp; done)))) | (with_reducible apply heap_set_eq) | (with_reducible apply heap_drew_of) | (with_reducible apply heap_drewN_of)))); (focus (first | (simp; done) | rfl)))
          · have F6 := F.out
            exact (by repeat' (first | (with_reducible exact Fr.refl _ _) | (with_reducible assumption) | (with_reducible refine Fr.drew ?_) | (with_reducible refine Fr.drewN ?_ _) | (with_reducible refine Fr.alloc ?_ _) | ((with_reducible refine Fr.setNew ?_ _ ?_ _); rotate_left; (focus (first | (with_reducible assumption) | exact Nat.le_of_lt (by with_reducible assumption) | (focus (simp +arith; done)) | exact Nat.le_trans (by with_reducible assumption) (by simp +arith; done) | (simp; done)))) | ((with_reducible refine Fr.setOld ?_ _ ?_ _); rotate_left; (focus (simp; done)))))
        case measure => simp [intOf]; omega
    · have hk' : k = l.length := by omega
      subst hk'
      rw [List.take_length] at s1
      apply blk_use s1; intro hg1 hc1 hz1 _ _ _ _ _; apply blk_use s2; intro hg2 hc2 hz2 _ _ _ _ _
      clear s1 s2 hk
      go_wp2
      refine bodyPost_ret (v := .agg #[.int .i64 (cntS l 0), .int .i64 (cntS l 1), .int .i64 (cntS l 2), .int .i64 (cntS l 3)]) ?_ rfl ⟨rfl, (by repeat' (first | (with_reducible exact Fr.refl _ _) | (with_reducible assumption) | (with_reducible refine Fr.drew ?_) | (with_reducible refine Fr.drewN ?_ _) | (with_reducible refine Fr.alloc ?_ _) | ((with_reducible refine Fr.setNew ?_ _ ?_ _); rotate_left; (focus (first | (with_reducible assumption) | exact Nat.le_of_lt (by with_reducible assumption) | (focus (simp +arith; done)) | exact Nat.le_trans (by with_reducible assumption) (by simp +arith; done) | (simp; done)))) | ((with_reducible refine Fr.setOld ?_ _ ?_ _); rotate_left; (focus (simp; done)))))⟩
      refine results_name (fun w6 f6 => ?_)
      apply f6.use (k := w.heap.size); (focus (repeat (first | (with_reducible assumption) | ((with_reducible refine heap_alloc_at ?_ _); first | (with_reducible rfl) | (focus (simp; done))) | (with_reducible apply heap_alloc_old) | ((with_reducible apply heap_set_other); (case hne => (first | (with_reducible assumption) | exact Nat.ne_of_lt (by with_reducible assumption) | exact Nat.ne_of_gt (by with_reducible assumption) | (focus (simp +arith; done)) | (simp; done)))) | (with_reducible apply heap_set_eq) | (with_reducible apply heap_drew_of) | (with_reducible apply heap_drewN_of)))); (focus (simp; done)); intro hg5 hc5 hz5 _ _ _ _ _; (try simp only [List.setIfInBounds_toArray, List.set_cons_zero, List.set_cons_succ] at hg5 hc5)
      simp [results, Try.results29, go_sem, *]

theorem sumP_le {l : List Fm} (h : ∀ f ∈ l, 0 ≤ f.p ∧ f.p < 1000000) : 0 ≤ sumP l ∧ sumP l ≤ l.length * 1000000 := by
  induction l with
  | nil => simp [sumP]
  | cons f r ih =>
    obtain ⟨h1, h2⟩ := ih (fun g hg => h g (by simp [hg]))
    obtain ⟨h3, h4⟩ := h f (by simp)
    have e : sumP (f :: r) = f.p + sumP r := by simp [sumP]
    rw [e, List.length_cons]
    omega

set_option maxHeartbeats 4000000 in
theorem ppins (bp bf : Nat) (l : List Fm) (hn : l.length ≤ 1000) (hB : ∀ f ∈ l, 0 ≤ f.p ∧ f.p < 1000000) (w : World) (hP : PoolAt pT w bp bf l) :
    Calls Try.prog 31 #[.pointer (some ⟨bp, 0, none⟩)] w fun e w' => e = .returned (.int .i64 (sumP l)) ∧ Fr [] w w' := by
  have HP := Lib.hid hP
  apply blk_use hP.hp; intro hg1 hc1 hz1 _ _ _ _ _
  have HB := Lib.hid hB
  clear hP hB
  go_enter Try.func31, Try.ntmps31
  go_wp2_with fail
  go_loopw [3, 11] (fun u v w' => ∃ k : Nat, v = .int .i64 k ∧ k ≤ l.length ∧ u = .int .i64 (sumP (l.take k)) ∧ Fr [] w w') (fun _ v _ => l.length - (intOf v).toNat)
  case atStart => exact ⟨0, rfl, by omega, by simp [sumP], Fr.refl _ _⟩
  case round =>
    obtain ⟨k, rfl, k1, rfl, F6⟩ := hrel
    by_cases hk : k < l.length
    · obtain ⟨f, hi⟩ : ∃ f, l[k]? = some f := ⟨l[k], by simp [hk]⟩
      have P6 := HP.out.fr F6 (by simp) (by simp)
      have hz6 := blk_frozen P6.hf
      have c0 := (P6).cell hi 0 (by omega); have c1 := (P6).cell hi 1 (by omega); have c2 := (P6).cell hi 2 (by omega); have c3 := (P6).cell hi 3 (by omega); have c4 := (P6).cell hi 4 (by omega); simp [Fm.cells] at c0 c1 c2 c3 c4
      have t0 := sumP_take hi
      obtain ⟨d0, e0⟩ := sumP_le (l := l.take k) (fun g hg => HB.out g (List.mem_of_mem_take hg))
      obtain ⟨B0, B1⟩ := HB.out f (List.mem_of_getElem? hi)
      rw [List.length_take] at e0
      generalize sumP (l.take k) = n0 at *
      have q0 : n0 ≤ 1000000000 := by omega
      have T0 := Lib.hid t0
      have L6 := P6.lt
      clear e0 k1 t0 P6
      obtain ⟨L7, L8⟩ := L6
      go_wp2
      go_roundw
      case rel => exact ⟨k + 1, by go_num, by omega, by rw [T0.out], (by repeat' (first | (with_reducible exact Fr.refl _ _) | (with_reducible assumption) | (with_reducible refine Fr.drew ?_) | (with_reducible refine Fr.drewN ?_ _) | (with_reducible refine Fr.alloc ?_ _) | ((with_reducible refine Fr.setNew ?_ _ ?_ _); rotate_left; (focus (first | (with_reducible assumption) | exact Nat.le_of_lt (by with_reducible assumption) | (focus (simp +arith; done)) | exact Nat.le_trans (by with_reducible assumption) (by simp +arith; done) | (simp; done)))) | ((with_reducible refine Fr.setOld ?_ _ ?_ _); rotate_left; (focus (simp; done)))))⟩
      case measure => simp [intOf]; omega
    · have hk' : k = l.length := by omega
      subst hk'
      rw [List.take_length]
      clear hk
      go_wp2
      go_ret
      exact ⟨rfl, F6⟩

/-- The first free frame. -/
def freeIx (l : List Fm) : Option Nat := l.findIdx? fun f => f.s == 0
def ixOf : Option Nat → Int | some i => i | none => -1

theorem freeIx_some {l : List Fm} {k : Nat} {f : Fm} (hi : l[k]? = some f) (hs : f.s = 0) (h : ∀ j, j < k → ∀ g, l[j]? = some g → g.s ≠ 0) : freeIx l = some k := by
  obtain ⟨hk, hf⟩ := List.getElem?_eq_some_iff.1 hi
  unfold freeIx
  rw [List.findIdx?_eq_some_iff_getElem]
  refine ⟨hk, by simp [hf, hs], fun j hj => ?_⟩
  have := h j hj l[j] (by simp)
  simpa using this
theorem freeIx_none {l : List Fm} (h : ∀ (j : Nat) (g : Fm), l[j]? = some g → g.s ≠ 0) : freeIx l = none := by
  unfold freeIx
  rw [List.findIdx?_eq_none_iff]
  intro x hx
  obtain ⟨j, hj⟩ := List.mem_iff_getElem?.1 hx
  simpa using h j x hj
theorem freeIx_spec {l : List Fm} {k : Nat} (h : freeIx l = some k) : ∃ f, l[k]? = some f ∧ f.s = 0 := by
  unfold freeIx at h
  rw [List.findIdx?_eq_some_iff_getElem] at h
  obtain ⟨hk, hs, _⟩ := h
  exact ⟨l[k], by simp [hk], by simpa using hs⟩

set_option maxHeartbeats 1000000 in
theorem ptake1 (f : Fm) (w : World) :
    Calls Try.prog 49 #[.agg #[.int .i64 f.s, .int .i64 f.b, .int .i64 f.g, .int .i64 f.p, .int .u64 f.v]] w fun e w' => e = .returned (.bool (f.s == 0)) ∧ Fr [] w w' := by
  go_enter Try.func49, Try.ntmps49
  go_wp2
  go_ret
  exact ⟨rfl, (by repeat' (first | (with_reducible exact Fr.refl _ _) | (with_reducible assumption) | (with_reducible refine Fr.drew ?_) | (with_reducible refine Fr.drewN ?_ _) | (with_reducible refine Fr.alloc ?_ _) | ((with_reducible refine Fr.setNew ?_ _ ?_ _); rotate_left; (focus (first | (with_reducible assumption) | exact Nat.le_of_lt (by with_reducible assumption) | (focus (simp +arith; done)) | exact Nat.le_trans (by with_reducible assumption) (by simp +arith; done) | (simp; done)))) | ((with_reducible refine Fr.setOld ?_ _ ?_ _); rotate_left; (focus (simp; done)))))⟩

set_option maxHeartbeats 4000000 in
theorem pindex (bp bf : Nat) (l : List Fm) (hn : l.length ≤ 1000) (w : World) (hP : PoolAt pT w bp bf l) :
    Calls Try.prog 48 #[.slice (some ⟨bf, 0, none⟩) l.length l.length, .func (.func 49) #[] #[]] w fun e w' =>
      e = .returned (.int .i64 (ixOf (freeIx l))) ∧ Fr [] w w' := by
  have HP := Lib.hid hP
  obtain ⟨L1, L2⟩ := hP.lt
  clear hP
  go_enter Try.func48, Try.ntmps48
  go_wp2_with fail
  go_loopw [8] (fun v w' => ∃ k : Nat, v = .int .i64 k ∧ k ≤ l.length ∧ (∀ j, j < k → ∀ f, l[j]? = some f → f.s ≠ 0) ∧ Fr [] w w') (fun v _ => l.length - (intOf v).toNat)
  case atStart => exact ⟨0, rfl, by omega, by omega, Fr.refl _ _⟩
  case round =>
    obtain ⟨k, rfl, k1, K2, F6⟩ := hrel
    by_cases hk : k < l.length
    · obtain ⟨f, hi⟩ : ∃ f, l[k]? = some f := ⟨l[k], by simp [hk]⟩
      have P6 := HP.out.fr F6 (by simp) (by simp)
      have c0 := (P6).cell hi 0 (by omega); have c1 := (P6).cell hi 1 (by omega); have c2 := (P6).cell hi 2 (by omega); have c3 := (P6).cell hi 3 (by omega); have c4 := (P6).cell hi 4 (by omega); simp [Fm.cells] at c0 c1 c2 c3 c4
      by_cases hs : f.s = 0
      · have hs' : (f.s == 0) = true := by simpa using hs
        have HI := Lib.hid (freeIx_some hi hs (fun j hj g hg => K2 j hj g hg))
        clear K2 hs
        go_wp2_with (go_at_call 49; (with_reducible refine (ptake1 f _).mono ?_); rintro e w1 ⟨rfl, f1⟩)
        go_ret
        rw [HI.out]
        exact ⟨rfl, F6.trans f1⟩
      · have hs' : (f.s == 0) = false := by simpa using hs
        have K3 : Hid (∀ j, j < k + 1 → ∀ f, l[j]? = some f → f.s ≠ 0) := by
          intro j hj g hg
          by_cases hjk : j = k
          · subst hjk; rw [hi] at hg; cases hg; exact hs
          · exact K2 j (by omega) g hg
        clear K2 hs
        go_wp2_with (go_at_call 49; (with_reducible refine (ptake1 f _).mono ?_); rintro e w1 ⟨rfl, f1⟩)
        go_roundw
        case rel => exact ⟨k + 1, by go_num, by omega, K3.out, F6.trans f1⟩
        case measure => simp [intOf]; omega
    · have hk' : k = l.length := by omega
      subst hk'
      have HI := Lib.hid (freeIx_none (l := l) (fun j g hg => K2 j (List.getElem?_eq_some_iff.1 hg).1 g hg))
      clear hk K2
      go_wp2
      go_ret
      rw [HI.out]
      exact ⟨rfl, F6⟩

/-- What taking comes to: the answers, and the frames behind it. -/
def takeL (l : List Fm) (b : Int) : Int × Int × List Fm :=
  if b < 0 then (0, 1, l) else match freeIx l with
    | none => (0, 2, l)
    | some i => (i, 0, match l[i]? with | some f => l.set i ⟨1, b, f.g + 1, 0, 0⟩ | none => l)

set_option maxHeartbeats 4000000 in
theorem ptake (bp bf : Nat) (l : List Fm) (b : Int) (hn : l.length ≤ 1000) (hG : ∀ f ∈ l, 0 ≤ f.g ∧ f.g < 1000000) (w : World) (hP : PoolAt pT w bp bf l) :
    Calls Try.prog 34 #[.pointer (some ⟨bp, 0, none⟩), .int .i64 b] w fun e w' =>
      e = .returned (.tuple #[.int .i64 (takeL l b).1, .int .i64 (takeL l b).2.1]) ∧ PoolAt pT w' bp bf (takeL l b).2.2 ∧ Fr [bf] w w' := by
  have HX := Lib.hid (pindex bp bf l hn)
  have HP := Lib.hid hP
  have HG := Lib.hid hG
  apply blk_use hP.hp; intro hg1 hc1 hz1 _ _ _ _ _
  obtain ⟨L1, L2⟩ := hP.lt
  clear hP hG
  by_cases hb : b < 0
  · have hE : takeL l b = (0, 1, l) := if_pos hb
    rw [hE]
    clear hE
    go_enter Try.func34, Try.ntmps34
    generalize ixOf (freeIx l) = z at HX
    go_wp2_with (go_at_call 48; (with_reducible refine (HX.out _ HP.out).mono ?_); rintro e w1 ⟨rfl, f1⟩)
    refine bodyPost_ret (v := .tuple #[.int .i64 0, .int .i64 1]) (by simp [results, Try.results34, go_sem, *]) rfl ⟨rfl, HP.out.fr f1 (by simp) (by simp), f1.mono (by simp)⟩
  · cases hx : freeIx l with
    | none =>
      have hE : takeL l b = (0, 2, l) := by rw [takeL, if_neg hb, hx]
      rw [hE]
      simp only [hx, ixOf] at HX
      clear hE hx
      go_enter Try.func34, Try.ntmps34
      go_wp2_with (go_at_call 48; (with_reducible refine (HX.out _ HP.out).mono ?_); rintro e w1 ⟨rfl, f1⟩)
      refine bodyPost_ret (v := .tuple #[.int .i64 0, .int .i64 2]) (by simp [results, Try.results34, go_sem, *]) rfl ⟨rfl, HP.out.fr f1 (by simp) (by simp), f1.mono (by simp)⟩
    | some i =>
      obtain ⟨f, hi, hs⟩ := freeIx_spec hx
      have hE : takeL l b = ((i : Int), 0, l.set i ⟨1, b, f.g + 1, 0, 0⟩) := by rw [takeL, if_neg hb, hx]; simp only [hi]
      rw [hE]
      simp only [hx, ixOf] at HX
      obtain ⟨G0, G1⟩ := HG.out f (List.mem_of_getElem? hi)
      have hil : i < l.length := (List.getElem?_eq_some_iff.1 hi).1
      clear hE hx hs HG
      have fol : Try.prog.follows .mixedOrders = true := by kernel_rfl
      go_enter Try.func34, Try.ntmps34
      go_wp2_with (go_at_call 48; (with_reducible refine (HX.out _ HP.out).mono ?_); rintro e w1 ⟨rfl, f1⟩; have P1 := HP.out.fr f1 (by simp) (by simp))
      refine wp_region_mix_lit 17 [] fol (by kernel_rfl) (by kernel_rfl) (by kernel_rfl) (fun p hp => by cases hp) ?_
      clear hg1 hc1 hz1
      have P2 : PoolAt pT w1.drew bp bf l := P1.fr (S := []) (Fr.drew (Fr.refl _ _)) (by simp) (by simp)
      have HP2 := Lib.hid P2
      have F1 := Lib.hid f1
      clear P1 P2 f1
      (repeat (first | (refine SeqP.skip rfl ?_) | (apply SeqP.cons rfl; (focus (intro wv hfv; have Pv := HP2.out.fr hfv (by simp) (by simp); have hz6 := blk_frozen Pv.hf; apply blk_use Pv.hp; intro hg1 hc1 hz1 _ _ _ _ _; have c0 := (Pv).cell hi 0 (by omega); have c1 := (Pv).cell hi 1 (by omega); have c2 := (Pv).cell hi 2 (by omega); have c3 := (Pv).cell hi 3 (by omega); have c4 := (Pv).cell hi 4 (by omega); simp [Fm.cells] at c0 c1 c2 c3 c4; clear Pv; go_wp2_with (fail); exact StepPost.mk rfl (by first | (with_reducible exact Fr.refl _ _) | assumption))); (try simp only [Act.put, List.setIfInBounds_toArray, List.set_cons_zero, List.set_cons_succ]))))
      refine SeqP.nil ?_
      intro β w5 f5 _ _
      rw [putA_none _ _ _ _ (by kernel_rfl)]
      simp only [List.drop_succ_cons, List.drop_zero]
      have P5 := HP2.out.fr f5 (by simp) (by simp)
      have HQ := Lib.hid (P5.put hi ⟨1, b, f.g + 1, 0, 0⟩)
      simp only [World.setCells, Fm.cells] at HQ
      have F5 : Fr [] w w5 := (F1.out.drew).trans f5
      have hz5 := blk_frozen P5.hf
      have c0 := (P5).cell hi 0 (by omega); have c1 := (P5).cell hi 1 (by omega); have c2 := (P5).cell hi 2 (by omega); have c3 := (P5).cell hi 3 (by omega); have c4 := (P5).cell hi 4 (by omega); simp [Fm.cells] at c0 c1 c2 c3 c4
      clear P5 f5
      go_wp2
      refine bodyPost_ret (v := .tuple #[.int .i64 i, .int .i64 0]) (by simp [results, Try.results34, go_sem, *]) rfl ⟨rfl, HQ.out, ?_⟩
      have F5 := F5.mono (S' := [bf]) (by simp)
      exact (by repeat' (first | (with_reducible exact Fr.refl _ _) | (with_reducible assumption) | (with_reducible refine Fr.drew ?_) | (with_reducible refine Fr.drewN ?_ _) | (with_reducible refine Fr.alloc ?_ _) | ((with_reducible refine Fr.setNew ?_ _ ?_ _); rotate_left; (focus (first | (with_reducible assumption) | exact Nat.le_of_lt (by with_reducible assumption) | (focus (simp +arith; done)) | exact Nat.le_trans (by with_reducible assumption) (by simp +arith; done) | (simp; done)))) | ((with_reducible refine Fr.setOld ?_ _ ?_ _); rotate_left; (focus (simp; done)))))

end Go.Proofs.Ytmhdnafdbgbmfaa
