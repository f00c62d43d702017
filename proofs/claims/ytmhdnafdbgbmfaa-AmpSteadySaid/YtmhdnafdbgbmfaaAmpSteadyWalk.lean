/- AmpSteady answers true at every degree, and changes nothing that was there. -/
import Derived.Test.YtmhdnafdbgbmfaaAmpAwake
import Derived.Test.YtmhdnafdbgbmfaaGlue
import Derived.Lib.Hide
namespace Go.Proofs.Ytmhdnafdbgbmfaa
open Go.RowKit

/-- What holds ahead of reading block i: e is the end of what was asked for, k the number of the next run. -/
def SteadyInv (d : Int) (i k : Nat) (a p e : Int) : Prop :=
  (i = 0 ∧ a = 0 ∧ e = 1 ∧ k = 1 ∧ p = 1) ∨ (1 ≤ i ∧ a = e ∧ e ≤ 256 ∧ (i : Int) + 1 ≤ e ∧ 2 ≤ k ∧ k ≤ i + 1 ∧ p = min ((k : Int) - 1) d) ∨ (i = 256 ∧ k ≤ 300)

theorem steady_more {d : Int} {i k : Nat} {a p e : Int} (d1 : 1 ≤ d) (d2 : d ≤ 16) (hi : i < 256) (h : SteadyInv d i k a p e) (hc : (i : Int) + 1 < e ∨ e = 256) :
    SteadyInv d (i + 1) k e (arP i a p 1 d) e ∧ ∀ w, Calls Try.prog 15 #[.agg #[.int .i64 i, .int .i64 a, .int .i64 p, .int .i64 0], .int .i64 1, .int .i64 d, .int .i64 256] w fun r w' =>
      r = .returned (.tuple #[.agg #[.int .i64 ((i : Int) + 1), .int .i64 e, .int .i64 (arP i a p 1 d), .int .i64 0], .agg #[.int .i64 0, .int .i64 0], .int .i64 0]) ∧ Fr [] w w' := by
  have hm : amayB i a p 0 d 256 = true := (amayB_iff _ _ _ _ _ _).2 (by rcases h with h | h | h <;> omega)
  refine ⟨?_, fun w => (aread_ok i a p 0 1 d 256 hm (by decide +kernel) (by omega) w).mono ?_⟩
  · rcases h with h | ⟨h1, h2, h3, h4, h5, h6, h7⟩ | h
    · omega
    · by_cases hl : (i : Int) + 1 < e
      · refine Or.inr (Or.inl ⟨by omega, rfl, h3, by omega, h5, by omega, ?_⟩)
        unfold arP; rw [if_neg (by omega)]; exact h7
      · exact Or.inr (Or.inr (by omega))
    · omega
  · rintro r w' ⟨rfl, f⟩
    refine ⟨?_, f⟩
    have e1 : arA i a 1 + arC i a p 0 1 d 256 = e := by
      unfold arC arA arP; rcases h with h | h | h
      · omega
      · by_cases hl : (i : Int) + 1 < e
        · rw [if_neg (by omega)]; omega
        · rw [if_pos (by omega)]; split <;> omega
      · omega
    have e2 : arF i a 0 1 256 = 0 := by
      unfold arF arA; rw [if_neg (by rcases h with h | h | h <;> omega)]
    have e3 : arC i a p 0 1 d 256 = 0 := by
      unfold arC arA arP; rcases h with h | h | h
      · omega
      · by_cases hl : (i : Int) + 1 < e
        · rw [if_neg (by omega)]
        · rw [if_pos (by omega)]; split <;> omega
      · omega
    rw [e1, e2, e3]

theorem steady_asks {d : Int} {i k : Nat} {a p e : Int} (d1 : 1 ≤ d) (d2 : d ≤ 16) (hi : i < 256) (h : SteadyInv d i k a p e) (hc : e ≤ (i : Int) + 1) (hc2 : e ≠ 256) :
    SteadyInv d (i + 1) (k + 1) (e + min (min (k : Int) d) (256 - e)) (arP i a p 1 d) (e + min (min (k : Int) d) (256 - e)) ∧ ∀ w, Calls Try.prog 15 #[.agg #[.int .i64 i, .int .i64 a, .int .i64 p, .int .i64 0], .int .i64 1, .int .i64 d, .int .i64 256] w fun r w' =>
      r = .returned (.tuple #[.agg #[.int .i64 ((i : Int) + 1), .int .i64 (e + min (min (k : Int) d) (256 - e)), .int .i64 (arP i a p 1 d), .int .i64 0], .agg #[.int .i64 e, .int .i64 (min (min (k : Int) d) (256 - e))], .int .i64 0]) ∧ Fr [] w w' := by
  have hm : amayB i a p 0 d 256 = true := (amayB_iff _ _ _ _ _ _).2 (by rcases h with h | h | h <;> omega)
  refine ⟨?_, fun w => (aread_ok i a p 0 1 d 256 hm (by decide +kernel) (by omega) w).mono ?_⟩
  · refine Or.inr (Or.inl ⟨by omega, rfl, by omega, by rcases h with h | h | h <;> omega, by rcases h with h | h | h <;> omega, by rcases h with h | h | h <;> omega, ?_⟩)
    unfold arP
    rcases h with h | h | h
    · rw [if_neg (by omega)]; omega
    · rw [if_pos (by omega)]; omega
    · omega
  · rintro r w' ⟨rfl, f⟩
    refine ⟨?_, f⟩
    have e0 : arA i a 1 = e := by unfold arA; rcases h with h | h | h <;> omega
    have e3 : arC i a p 0 1 d 256 = min (min (k : Int) d) (256 - e) := by
      unfold arC; rw [e0, if_pos (by rcases h with h | h | h <;> omega)]; unfold arP
      rcases h with h | h | h
      · rw [if_neg (by omega)]; omega
      · rw [if_pos (by omega)]; omega
      · omega
    have e2 : arF i a 0 1 256 = e := by
      unfold arF; rw [e0, if_pos (by rcases h with h | h | h <;> omega)]
    rw [e0, e2, e3]

set_option maxRecDepth 100000 in
set_option maxHeartbeats 4000000 in
theorem steady_any (m : Int) (m0 : 0 ≤ m) (m1 : m ≤ 255) (w : World) :
    Calls Try.prog 7 #[.int .u8 m] w fun e w' => e = .returned (.bool true) ∧ Fr [] w w' := by
  go_enter Try.func7, Try.ntmps7
  go_wp2_with (first
      | (go_at_call 14; (with_reducible refine (aawake_any _).mono ?_); rintro e w1 ⟨rfl, f1⟩)
      | (go_at_call 24; (with_reducible refine (astart_any _ _).mono ?_); rintro e w2 ⟨rfl, f2⟩; have F2 : Fr [] w w2 := Fr.trans f1 f2))
  refine wp_name (fun w3 f3 => ?_)
  apply f3.use (k := w2.heap.size); (focus (repeat (first | (with_reducible assumption) | ((with_reducible refine heap_alloc_at ?_ _); first | (with_reducible rfl) | (focus (simp; done))) | (with_reducible apply heap_alloc_old) | ((with_reducible apply heap_set_other); (case hne => (first | (with_reducible assumption) | exact Nat.ne_of_lt (by with_reducible assumption) | exact Nat.ne_of_gt (by with_reducible assumption) | (focus (simp +arith; done)) | (simp; done)))) | (with_reducible apply heap_set_eq) | (with_reducible apply heap_drew_of) | (with_reducible apply heap_drewN_of)))); (focus (simp; done)); intro hg3 hc3 hz3 _ _ _ _ _; (try simp only [List.setIfInBounds_toArray, List.set_cons_zero, List.set_cons_succ] at hg3 hc3)
  have F3 : Fr [] w w3 := Fr.trans (by repeat' (first | (with_reducible exact Fr.refl _ _) | (with_reducible assumption) | (with_reducible refine Fr.drew ?_) | (with_reducible refine Fr.drewN ?_ _) | (with_reducible refine Fr.alloc ?_ _) | ((with_reducible refine Fr.setNew ?_ _ ?_ _); rotate_left; (focus (first | (with_reducible assumption) | exact Nat.le_of_lt (by with_reducible assumption) | (focus (simp +arith; done)) | exact Nat.le_trans (by with_reducible assumption) (by simp +arith; done) | (simp; done)))) | ((with_reducible refine Fr.setOld ?_ _ ?_ _); rotate_left; (focus (simp; done))))) f3
  have B0 : w.heap.size ≤ w2.heap.size := F2.size
  clear f3 f1 f2 F2
  go_loopw [5, 6, 7] (fun v5 v6 v7 wr => ∃ (i k : Nat) (a p e : Int), v7 = .int .i64 i ∧ v6 = .int .i64 k ∧ v5 = .int .i64 e ∧ i ≤ 256 ∧ SteadyInv (1 + m % 16) i k a p e ∧
      wr.heap[w2.heap.size]? = some (.cells #[.int .i64 i, .int .i64 a, .int .i64 p, .int .i64 0] 23) ∧ Fr [] w wr) (fun _ _ v _ => 256 - (intOf v).toNat)
  case atStart => exact ⟨0, 1, 0, 1, 1, rfl, rfl, rfl, by omega, Or.inl ⟨rfl, rfl, rfl, rfl, rfl⟩, hg3, F3⟩
  case round =>
    obtain ⟨i, k, a, p, e, rfl, rfl, rfl, i1, hinv, q1, F4⟩ := hrel
    clear hg3 hc3 hz3 F3
    apply blk_use q1; intro hg3 hc3 hz3 _ _ _ _ _
    clear q1
    by_cases hi : (i : Int) < 256
    · have e1 : e ≤ 256 := by rcases hinv with h | h | h <;> omega
      have e2 : 0 ≤ e := by rcases hinv with h | h | h <;> omega
      have k0 : (k : Int) ≤ 300 := by rcases hinv with h | h | h <;> omega
      by_cases hc : (i : Int) + 1 < e ∨ e = 256
      · have H := steady_more (by omega) (by omega) (by omega) hinv hc
        by_cases h1 : (i : Int) + 1 < e
        · have HI := Lib.hid H.1
          have HC := Lib.hid H.2
          clear H hinv hc
          go_wp2_with (go_at_call 15; (with_reducible refine (HC.out _).mono ?_); rintro r w4 ⟨rfl, f4⟩; apply f4.use (k := w2.heap.size); (focus (repeat (first | (with_reducible assumption) | ((with_reducible refine heap_alloc_at ?_ _); first | (with_reducible rfl) | (focus (simp; done))) | (with_reducible apply heap_alloc_old) | ((with_reducible apply heap_set_other); (case hne => (first | (with_reducible assumption) | exact Nat.ne_of_lt (by with_reducible assumption) | exact Nat.ne_of_gt (by with_reducible assumption) | (focus (simp +arith; done)) | (simp; done)))) | (with_reducible apply heap_set_eq) | (with_reducible apply heap_drew_of) | (with_reducible apply heap_drewN_of)))); (focus (simp; done)); intro hg4 hc4 hz4 _ _ _ _ _; (try simp only [List.setIfInBounds_toArray, List.set_cons_zero, List.set_cons_succ] at hg4 hc4); have F5 : Fr [] w w4 := Fr.trans (by repeat' (first | (with_reducible exact Fr.refl _ _) | (with_reducible assumption) | (with_reducible refine Fr.drew ?_) | (with_reducible refine Fr.drewN ?_ _) | (with_reducible refine Fr.alloc ?_ _) | ((with_reducible refine Fr.setNew ?_ _ ?_ _); rotate_left; (focus (first | (with_reducible assumption) | exact Nat.le_of_lt (by with_reducible assumption) | (focus (simp +arith; done)) | exact Nat.le_trans (by with_reducible assumption) (by simp +arith; done) | (simp; done)))) | ((with_reducible refine Fr.setOld ?_ _ ?_ _); rotate_left; (focus (simp; done))))) f4; clear f4)
          go_roundw
          case rel => exact ⟨i + 1, k, _, _, _, by go_num, by go_num, rfl, by omega, HI.out, (by (apply heap_eq_of; (focus (repeat (first | (with_reducible assumption) | ((with_reducible refine heap_alloc_at ?_ _); first | (with_reducible rfl) | (focus (simp; done))) | (with_reducible apply heap_alloc_old) | ((with_reducible apply heap_set_other); (case hne => (first | (with_reducible assumption) | exact Nat.ne_of_lt (by with_reducible assumption) | exact Nat.ne_of_gt (by with_reducible assumption) | (focus (simp +arith; done)) | (simp; done)))) | (with_reducible apply heap_set_eq) | (with_reducible apply heap_drew_of) | (with_reducible apply heap_drewN_of)))); (focus (first | (simp; done) | rfl)))), (by repeat' (first | (with_reducible exact Fr.refl _ _) | (with_reducible assumption) | (with_reducible refine Fr.drew ?_) | (with_reducible refine Fr.drewN ?_ _) | (with_reducible refine Fr.alloc ?_ _) | ((with_reducible refine Fr.setNew ?_ _ ?_ _); rotate_left; (focus (first | (with_reducible assumption) | exact Nat.le_of_lt (by with_reducible assumption) | (focus (simp +arith; done)) | exact Nat.le_trans (by with_reducible assumption) (by simp +arith; done) | (simp; done)))) | ((with_reducible refine Fr.setOld ?_ _ ?_ _); rotate_left; (focus (simp; done)))))⟩
          case measure => simp [intOf]; omega
        · obtain rfl : e = 256 := by omega
          have HI := Lib.hid H.1
          have HC := Lib.hid H.2
          clear H hinv hc
          go_wp2_with (go_at_call 15; (with_reducible refine (HC.out _).mono ?_); rintro r w4 ⟨rfl, f4⟩; apply f4.use (k := w2.heap.size); (focus (repeat (first | (with_reducible assumption) | ((with_reducible refine heap_alloc_at ?_ _); first | (with_reducible rfl) | (focus (simp; done))) | (with_reducible apply heap_alloc_old) | ((with_reducible apply heap_set_other); (case hne => (first | (with_reducible assumption) | exact Nat.ne_of_lt (by with_reducible assumption) | exact Nat.ne_of_gt (by with_reducible assumption) | (focus (simp +arith; done)) | (simp; done)))) | (with_reducible apply heap_set_eq) | (with_reducible apply heap_drew_of) | (with_reducible apply heap_drewN_of)))); (focus (simp; done)); intro hg4 hc4 hz4 _ _ _ _ _; (try simp only [List.setIfInBounds_toArray, List.set_cons_zero, List.set_cons_succ] at hg4 hc4); have F5 : Fr [] w w4 := Fr.trans (by repeat' (first | (with_reducible exact Fr.refl _ _) | (with_reducible assumption) | (with_reducible refine Fr.drew ?_) | (with_reducible refine Fr.drewN ?_ _) | (with_reducible refine Fr.alloc ?_ _) | ((with_reducible refine Fr.setNew ?_ _ ?_ _); rotate_left; (focus (first | (with_reducible assumption) | exact Nat.le_of_lt (by with_reducible assumption) | (focus (simp +arith; done)) | exact Nat.le_trans (by with_reducible assumption) (by simp +arith; done) | (simp; done)))) | ((with_reducible refine Fr.setOld ?_ _ ?_ _); rotate_left; (focus (simp; done))))) f4; clear f4)
          go_roundw
          case rel => exact ⟨i + 1, k, _, _, _, by go_num, by go_num, rfl, by omega, HI.out, (by (apply heap_eq_of; (focus (repeat (first | (with_reducible assumption) | ((with_reducible refine heap_alloc_at ?_ _); first | (with_reducible rfl) | (focus (simp; done))) | (with_reducible apply heap_alloc_old) | ((with_reducible apply heap_set_other); (case hne => (first | (with_reducible assumption) | exact Nat.ne_of_lt (by with_reducible assumption) | exact Nat.ne_of_gt (by with_reducible assumption) | (focus (simp +arith; done)) | (simp; done)))) | (with_reducible apply heap_set_eq) | (with_reducible apply heap_drew_of) | (with_reducible apply heap_drewN_of)))); (focus (first | (simp; done) | rfl)))), (by repeat' (first | (with_reducible exact Fr.refl _ _) | (with_reducible assumption) | (with_reducible refine Fr.drew ?_) | (with_reducible refine Fr.drewN ?_ _) | (with_reducible refine Fr.alloc ?_ _) | ((with_reducible refine Fr.setNew ?_ _ ?_ _); rotate_left; (focus (first | (with_reducible assumption) | exact Nat.le_of_lt (by with_reducible assumption) | (focus (simp +arith; done)) | exact Nat.le_trans (by with_reducible assumption) (by simp +arith; done) | (simp; done)))) | ((with_reducible refine Fr.setOld ?_ _ ?_ _); rotate_left; (focus (simp; done)))))⟩
          case measure => simp [intOf]; omega
      · have H := steady_asks (by omega) (by omega) (by omega) hinv (by omega) (by omega)
        have HI := Lib.hid H.1
        have HC := Lib.hid H.2
        clear H hinv
        have h1 : e ≤ (i : Int) + 1 := by omega
        have h2 : e < 256 := by omega
        have h3 : (e == 256) = false := by simp; omega
        clear hc
        go_wp2_with (go_at_call 15; (with_reducible refine (HC.out _).mono ?_); rintro r w4 ⟨rfl, f4⟩; apply f4.use (k := w2.heap.size); (focus (repeat (first | (with_reducible assumption) | ((with_reducible refine heap_alloc_at ?_ _); first | (with_reducible rfl) | (focus (simp; done))) | (with_reducible apply heap_alloc_old) | ((with_reducible apply heap_set_other); (case hne => (first | (with_reducible assumption) | exact Nat.ne_of_lt (by with_reducible assumption) | exact Nat.ne_of_gt (by with_reducible assumption) | (focus (simp +arith; done)) | (simp; done)))) | (with_reducible apply heap_set_eq) | (with_reducible apply heap_drew_of) | (with_reducible apply heap_drewN_of)))); (focus (simp; done)); intro hg4 hc4 hz4 _ _ _ _ _; (try simp only [List.setIfInBounds_toArray, List.set_cons_zero, List.set_cons_succ] at hg4 hc4); have F5 : Fr [] w w4 := Fr.trans (by repeat' (first | (with_reducible exact Fr.refl _ _) | (with_reducible assumption) | (with_reducible refine Fr.drew ?_) | (with_reducible refine Fr.drewN ?_ _) | (with_reducible refine Fr.alloc ?_ _) | ((with_reducible refine Fr.setNew ?_ _ ?_ _); rotate_left; (focus (first | (with_reducible assumption) | exact Nat.le_of_lt (by with_reducible assumption) | (focus (simp +arith; done)) | exact Nat.le_trans (by with_reducible assumption) (by simp +arith; done) | (simp; done)))) | ((with_reducible refine Fr.setOld ?_ _ ?_ _); rotate_left; (focus (simp; done))))) f4; clear f4)
        go_roundw
        case rel =>
          have hi2 := HI.out
          rw [Int.min_assoc] at hi2
          exact ⟨i + 1, k + 1, _, _, _, by go_num, by go_num, rfl, by omega, hi2, (by (apply heap_eq_of; (focus (repeat (first | (with_reducible assumption) | ((with_reducible refine heap_alloc_at ?_ _); first | (with_reducible rfl) | (focus (simp; done))) | (with_reducible apply heap_alloc_old) | ((with_reducible apply heap_set_other); (case hne => (first | (with_reducible assumption) | exact Nat.ne_of_lt (by with_reducible assumption) | exact Nat.ne_of_gt (by with_reducible assumption) | (focus (simp +arith; done)) | (simp; done)))) | (with_reducible apply heap_set_eq) | (with_reducible apply heap_drew_of) | (with_reducible apply heap_drewN_of)))); (focus (first | (simp; done) | rfl)))), (by repeat' (first | (with_reducible exact Fr.refl _ _) | (with_reducible assumption) | (with_reducible refine Fr.drew ?_) | (with_reducible refine Fr.drewN ?_ _) | (with_reducible refine Fr.alloc ?_ _) | ((with_reducible refine Fr.setNew ?_ _ ?_ _); rotate_left; (focus (first | (with_reducible assumption) | exact Nat.le_of_lt (by with_reducible assumption) | (focus (simp +arith; done)) | exact Nat.le_trans (by with_reducible assumption) (by simp +arith; done) | (simp; done)))) | ((with_reducible refine Fr.setOld ?_ _ ?_ _); rotate_left; (focus (simp; done)))))⟩
        case measure => simp [intOf]; omega
    · go_wp2
      go_ret
      exact ⟨rfl, (by repeat' (first | (with_reducible exact Fr.refl _ _) | (with_reducible assumption) | (with_reducible refine Fr.drew ?_) | (with_reducible refine Fr.drewN ?_ _) | (with_reducible refine Fr.alloc ?_ _) | ((with_reducible refine Fr.setNew ?_ _ ?_ _); rotate_left; (focus (first | (with_reducible assumption) | exact Nat.le_of_lt (by with_reducible assumption) | (focus (simp +arith; done)) | exact Nat.le_trans (by with_reducible assumption) (by simp +arith; done) | (simp; done)))) | ((with_reducible refine Fr.setOld ?_ _ ?_ _); rotate_left; (focus (simp; done)))))⟩

theorem steady_walk (m : Int) (wm : (Lit.int .u8 m).wf = true) (w : World) : Calls Try.prog 7 #[.int .u8 m] w fun e w' => e = .returned (.bool true) ∧ Fr [] w w' :=
  steady_any m (u8_bounds wm).1 (u8_bounds wm).2 w

end Go.Proofs.Ytmhdnafdbgbmfaa
