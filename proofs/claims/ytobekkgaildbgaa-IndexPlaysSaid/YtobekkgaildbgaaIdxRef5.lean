/- index and its reference: which counts of places may be; New. -/
import Derived.Test.YtobekkgaildbgaaIdxRef4
import Derived.Test.YtobekkgaildbgaaIdxAwake
namespace Go.Proofs.Ytobekkgaildbgaa
open Go.RowKit

def mayB (p : Int) : Bool := p == 2 || p == 4 || p == 8 || p == 16 || p == 32 || p == 64 || p == 128 || p == 256
theorem mayB_pow {p : Int} (h : mayB p = true) : ∃ k : Nat, 1 ≤ k ∧ k ≤ 8 ∧ p = (2 ^ k : Nat) := by
  simp only [mayB, Bool.or_eq_true, beq_iff_eq] at h
  rcases h with ((((((h | h) | h) | h) | h) | h) | h) | h
  · exact ⟨1, by omega, by omega, h⟩
  · exact ⟨2, by omega, by omega, h⟩
  · exact ⟨3, by omega, by omega, h⟩
  · exact ⟨4, by omega, by omega, h⟩
  · exact ⟨5, by omega, by omega, h⟩
  · exact ⟨6, by omega, by omega, h⟩
  · exact ⟨7, by omega, by omega, h⟩
  · exact ⟨8, by omega, by omega, h⟩
theorem mayB_bits : ∀ n : Fin 257, 2 ≤ n.val → mayB (n.val : Int) = false → (bits .and .i64 (n.val : Int) ((n.val : Int) - 1) == 0) = false := by decide +kernel
theorem mayB_no {p : Int} (h0 : 2 ≤ p) (h1 : p ≤ 256) (h : mayB p = false) : (bits .and .i64 p (p - 1) == 0) = false := by
  obtain ⟨n, rfl⟩ := Int.eq_ofNat_of_zero_le (by omega : 0 ≤ p)
  exact mayB_bits ⟨n, by omega⟩ (by simp only; omega) h

set_option maxRecDepth 100000 in
set_option maxHeartbeats 2000000 in
theorem idx_new_no (p : Int) (h : mayB p = false) (w : World) : Calls Try.prog 14 #[.int .i64 p] w fun e w' => e = .returned (.tuple #[.pointer none, .int .i64 1]) ∧ w = w' := by
  by_cases h0 : p < 2
  · clear h
    go_enter Try.func14, Try.ntmps14
    go_wp2
    go_ret2
    exact ⟨rfl, rfl⟩
  · by_cases h1 : 256 < p
    · clear h
      go_enter Try.func14, Try.ntmps14
      go_wp2
      go_ret2
      exact ⟨rfl, rfl⟩
    · have hb := mayB_no (by omega) (by omega) h
      have h2 : 2 ≤ p := by omega
      have h3 : p ≤ 256 := by omega
      have hb2 : (bits .and .i64 p (p - 1) != 0) = true := by simpa using hb
      generalize hq : bits .and .i64 p (p - 1) = q at *
      clear h h0 h1
      go_enter Try.func14, Try.ntmps14
      go_wp2
      go_ret2
      exact ⟨rfl, rfl⟩
set_option maxRecDepth 100000 in
set_option maxHeartbeats 4000000 in
theorem rx_may (p : Int) (w : World) : Calls Try.prog 15 #[.int .i64 p] w fun e w' => e = .returned (.bool (mayB p)) ∧ w = w' := by
  have hm : Hid (mayB p = (p == 2 || p == 4 || p == 8 || p == 16 || p == 32 || p == 64 || p == 128 || p == 256)) := rfl
  generalize mayB p = β at *
  go_enter Try.func15, Try.ntmps15
  go_wp2_with fail
  go_loop [3] (fun v => ∃ k : Nat, 1 ≤ k ∧ k ≤ 9 ∧ v = .int .i64 (2 ^ k : Nat) ∧ ∀ j, 1 ≤ j → j < k → p ≠ (2 ^ j : Nat)) (fun v => 1000 - (intOf v).toNat)
  case atStart => exact ⟨1, by omega, by omega, rfl, fun j a b => by omega⟩
  case round =>
    obtain ⟨k, k1, k2, rfl, hj⟩ := hrel
    have HJ := Lib.hid hj
    clear hj
    rcases (by omega : k = 1 ∨ k = 2 ∨ k = 3 ∨ k = 4 ∨ k = 5 ∨ k = 6 ∨ k = 7 ∨ k = 8 ∨ k = 9) with rfl | rfl | rfl | rfl | rfl | rfl | rfl | rfl | rfl
    · rw [show ((2 ^ 1 : Nat) : Int) = 2 by decide]
      by_cases hp : p = 2
      · have hb : ((2 : Int) == p) = true := by rw [beq_iff_eq, hp]
        have HP := Lib.hid hp
        clear hp
        go_wp2_with fail
        go_ret
        exact ⟨ret_bool (by rw [hm.out, HP.out]; decide), rfl⟩
      · have hb : ((2 : Int) == p) = false := by rw [beq_eq_false_iff_ne]; exact fun q => hp q.symm
        have HP := Lib.hid hp
        clear hp
        go_wp2_with fail
        go_round
        case rel => exact ⟨2, by omega, by omega, by rw [show ((2 ^ 2 : Nat) : Int) = 4 by decide], fun j a b => (Nat.lt_or_eq_of_le (Nat.le_of_lt_succ b)).elim (fun q => HJ.out j a q) (fun q => by rw [q]; exact HP.out)⟩
        case measure => simp [intOf]
    · rw [show ((2 ^ 2 : Nat) : Int) = 4 by decide]
      by_cases hp : p = 4
      · have hb : ((4 : Int) == p) = true := by rw [beq_iff_eq, hp]
        have HP := Lib.hid hp
        clear hp
        go_wp2_with fail
        go_ret
        exact ⟨ret_bool (by rw [hm.out, HP.out]; decide), rfl⟩
      · have hb : ((4 : Int) == p) = false := by rw [beq_eq_false_iff_ne]; exact fun q => hp q.symm
        have HP := Lib.hid hp
        clear hp
        go_wp2_with fail
        go_round
        case rel => exact ⟨3, by omega, by omega, by rw [show ((2 ^ 3 : Nat) : Int) = 8 by decide], fun j a b => (Nat.lt_or_eq_of_le (Nat.le_of_lt_succ b)).elim (fun q => HJ.out j a q) (fun q => by rw [q]; exact HP.out)⟩
        case measure => simp [intOf]
    · rw [show ((2 ^ 3 : Nat) : Int) = 8 by decide]
      by_cases hp : p = 8
      · have hb : ((8 : Int) == p) = true := by rw [beq_iff_eq, hp]
        have HP := Lib.hid hp
        clear hp
        go_wp2_with fail
        go_ret
        exact ⟨ret_bool (by rw [hm.out, HP.out]; decide), rfl⟩
      · have hb : ((8 : Int) == p) = false := by rw [beq_eq_false_iff_ne]; exact fun q => hp q.symm
        have HP := Lib.hid hp
        clear hp
        go_wp2_with fail
        go_round
        case rel => exact ⟨4, by omega, by omega, by rw [show ((2 ^ 4 : Nat) : Int) = 16 by decide], fun j a b => (Nat.lt_or_eq_of_le (Nat.le_of_lt_succ b)).elim (fun q => HJ.out j a q) (fun q => by rw [q]; exact HP.out)⟩
        case measure => simp [intOf]
    · rw [show ((2 ^ 4 : Nat) : Int) = 16 by decide]
      by_cases hp : p = 16
      · have hb : ((16 : Int) == p) = true := by rw [beq_iff_eq, hp]
        have HP := Lib.hid hp
        clear hp
        go_wp2_with fail
        go_ret
        exact ⟨ret_bool (by rw [hm.out, HP.out]; decide), rfl⟩
      · have hb : ((16 : Int) == p) = false := by rw [beq_eq_false_iff_ne]; exact fun q => hp q.symm
        have HP := Lib.hid hp
        clear hp
        go_wp2_with fail
        go_round
        case rel => exact ⟨5, by omega, by omega, by rw [show ((2 ^ 5 : Nat) : Int) = 32 by decide], fun j a b => (Nat.lt_or_eq_of_le (Nat.le_of_lt_succ b)).elim (fun q => HJ.out j a q) (fun q => by rw [q]; exact HP.out)⟩
        case measure => simp [intOf]
    · rw [show ((2 ^ 5 : Nat) : Int) = 32 by decide]
      by_cases hp : p = 32
      · have hb : ((32 : Int) == p) = true := by rw [beq_iff_eq, hp]
        have HP := Lib.hid hp
        clear hp
        go_wp2_with fail
        go_ret
        exact ⟨ret_bool (by rw [hm.out, HP.out]; decide), rfl⟩
      · have hb : ((32 : Int) == p) = false := by rw [beq_eq_false_iff_ne]; exact fun q => hp q.symm
        have HP := Lib.hid hp
        clear hp
        go_wp2_with fail
        go_round
        case rel => exact ⟨6, by omega, by omega, by rw [show ((2 ^ 6 : Nat) : Int) = 64 by decide], fun j a b => (Nat.lt_or_eq_of_le (Nat.le_of_lt_succ b)).elim (fun q => HJ.out j a q) (fun q => by rw [q]; exact HP.out)⟩
        case measure => simp [intOf]
    · rw [show ((2 ^ 6 : Nat) : Int) = 64 by decide]
      by_cases hp : p = 64
      · have hb : ((64 : Int) == p) = true := by rw [beq_iff_eq, hp]
        have HP := Lib.hid hp
        clear hp
        go_wp2_with fail
        go_ret
        exact ⟨ret_bool (by rw [hm.out, HP.out]; decide), rfl⟩
      · have hb : ((64 : Int) == p) = false := by rw [beq_eq_false_iff_ne]; exact fun q => hp q.symm
        have HP := Lib.hid hp
        clear hp
        go_wp2_with fail
        go_round
        case rel => exact ⟨7, by omega, by omega, by rw [show ((2 ^ 7 : Nat) : Int) = 128 by decide], fun j a b => (Nat.lt_or_eq_of_le (Nat.le_of_lt_succ b)).elim (fun q => HJ.out j a q) (fun q => by rw [q]; exact HP.out)⟩
        case measure => simp [intOf]
    · rw [show ((2 ^ 7 : Nat) : Int) = 128 by decide]
      by_cases hp : p = 128
      · have hb : ((128 : Int) == p) = true := by rw [beq_iff_eq, hp]
        have HP := Lib.hid hp
        clear hp
        go_wp2_with fail
        go_ret
        exact ⟨ret_bool (by rw [hm.out, HP.out]; decide), rfl⟩
      · have hb : ((128 : Int) == p) = false := by rw [beq_eq_false_iff_ne]; exact fun q => hp q.symm
        have HP := Lib.hid hp
        clear hp
        go_wp2_with fail
        go_round
        case rel => exact ⟨8, by omega, by omega, by rw [show ((2 ^ 8 : Nat) : Int) = 256 by decide], fun j a b => (Nat.lt_or_eq_of_le (Nat.le_of_lt_succ b)).elim (fun q => HJ.out j a q) (fun q => by rw [q]; exact HP.out)⟩
        case measure => simp [intOf]
    · rw [show ((2 ^ 8 : Nat) : Int) = 256 by decide]
      by_cases hp : p = 256
      · have hb : ((256 : Int) == p) = true := by rw [beq_iff_eq, hp]
        have HP := Lib.hid hp
        clear hp
        go_wp2_with fail
        go_ret
        exact ⟨ret_bool (by rw [hm.out, HP.out]; decide), rfl⟩
      · have hb : ((256 : Int) == p) = false := by rw [beq_eq_false_iff_ne]; exact fun q => hp q.symm
        have HP := Lib.hid hp
        clear hp
        go_wp2_with fail
        go_round
        case rel => exact ⟨9, by omega, by omega, by rw [show ((2 ^ 9 : Nat) : Int) = 512 by decide], fun j a b => (Nat.lt_or_eq_of_le (Nat.le_of_lt_succ b)).elim (fun q => HJ.out j a q) (fun q => by rw [q]; exact HP.out)⟩
        case measure => simp [intOf]
    · rw [show ((2 ^ 9 : Nat) : Int) = 512 by decide]
      go_wp2_with fail
      go_ret
      refine ⟨ret_bool ?_, rfl⟩
      have q1 := HJ.out 1 (by omega) (by omega)
      have q2 := HJ.out 2 (by omega) (by omega)
      have q3 := HJ.out 3 (by omega) (by omega)
      have q4 := HJ.out 4 (by omega) (by omega)
      have q5 := HJ.out 5 (by omega) (by omega)
      have q6 := HJ.out 6 (by omega) (by omega)
      have q7 := HJ.out 7 (by omega) (by omega)
      have q8 := HJ.out 8 (by omega) (by omega)
      rw [hm.out]
      simp at q1 q2 q3 q4 q5 q6 q7 q8 ⊢
      omega

def eB : El Bool := ⟨4, 69, 1, fun b => [.bool b]⟩
theorem eBok : eB.Ok where
  len _ := rfl
  one x u hu := by simp [eB] at hu; subst hu; rfl
  und := Try.underlying69
  pos := by decide
  info := by
    obtain ⟨ti, h1, h2, h3, h4⟩ := info_parts (P := Try.prog) (e := 4) (z := .bool false) (size := 1) (bytes := 1) (by kernel_rfl)
    exact ⟨ti, _, h1, h2, h3, by omega, rfl⟩
theorem eB_cs : ∀ n, (eB.cs (List.replicate n false)).toArray = isC (List.replicate n (0, 0)) n := by
  intro n
  have h : ∀ m, eB.cs (List.replicate m false) = List.replicate m (Value.bool false) := by
    intro m
    induction m with
    | zero => rfl
    | succ m ih => rw [List.replicate_succ, List.replicate_succ, El.cs, ih]; rfl
  rw [h]
  unfold isC
  congr 1
  apply List.ext_getElem?
  intro i
  rw [List.getElem?_replicate, List.getElem?_map]
  have g0 : ∀ i, gt (List.replicate n ((0 : Int), (0 : Int))) i = (0, 0) := fun i => by unfold gt; rw [List.getD_eq_getElem?_getD, List.getElem?_replicate]; split <;> rfl
  by_cases hi : i < n
  · simp [hi, g0]
  · simp [hi]
theorem eN_cs0 : ∀ n, (eN.cs (List.replicate n 0)).toArray = nmC (fun _ => 0) n := by
  intro n
  rw [eN_cs]
  unfold nmC
  congr 1
  apply List.ext_getElem?
  intro i
  simp only [List.getElem?_map, List.getElem?_replicate]
  by_cases hi : i < n <;> simp [hi]
theorem eB_make (n : Nat) (hn : n ≤ 256) (w : World) : (Instr.makeSlice 69 (.int .i64 n) (.int .i64 n)).run Try.prog w = .ok (.slice (some ⟨w.heap.size, 0, none⟩) n n) (w.alloc (.cells (isC (List.replicate n (0, 0)) n) 4)) := by
  obtain ⟨ti, h1, h2, h3, h4⟩ := info_parts (P := Try.prog) (e := 4) (z := .bool false) (size := 1) (bytes := 1) (by kernel_rfl)
  rw [← eB_cs]
  exact eBok.run_make false h1 h2 h3 (by omega) rfl n (by omega) w
theorem eN_make (n : Nat) (hn : n ≤ 256) (w : World) : (Instr.makeSlice 38 (.int .i64 n) (.int .i64 n)).run Try.prog w = .ok (.slice (some ⟨w.heap.size, 0, none⟩) n n) (w.alloc (.cells (nmC (fun _ => 0) n) 3)) := by
  obtain ⟨ti, h1, h2, h3, h4⟩ := info_parts (P := Try.prog) (e := 3) (z := .int .i64 0) (size := 1) (bytes := 8) (by kernel_rfl)
  rw [← eN_cs0]
  exact eNok.run_make 0 h1 h2 h3 (by omega) rfl n (by omega) w
theorem agr_new (N : Nat) : Agr N (List.replicate N (0, 0)) (fun _ => 0) (fun _ => 0) := by
  intro i hi hp
  have g0 : gt (List.replicate N ((0 : Int), (0 : Int))) i = (0, 0) := by unfold gt; rw [List.getD_eq_getElem?_getD, List.getElem?_replicate]; split <;> rfl
  rw [g0] at hp; simp at hp
set_option maxRecDepth 100000 in
set_option maxHeartbeats 8000000 in
theorem rx_new (N : Nat) (h0 : 1 ≤ N) (h1 : N ≤ 256) (n : Int) (hn : n = N) (w : World) : Calls Try.prog 16 #[.int .i64 n] w fun e w' => (∃ r bi bk bn, e = .returned (.pointer (some ⟨r, 0, none⟩)) ∧ RIx w' r bi bk bn N (List.replicate N (0, 0)) (fun _ => 0) (fun _ => 0) ∧ w.heap.size ≤ r ∧ w.heap.size ≤ bi ∧ w.heap.size ≤ bk ∧ w.heap.size ≤ bn) ∧ Fr [] w w' := by
  subst hn
  have hb := eB_make N h1
  have hi := eN_make N h1
  have n0 : 1 ≤ (N : Int) := by omega
  have n1 : (N : Int) ≤ 256 := by omega
  go_enter Try.func16, Try.ntmps16
  go_wp2_with fail
  go_region
  all_goals
    go_wp2_with fail
    go_ret
    refine ⟨⟨_, _, _, _, rfl, ⟨by (apply heap_eq_of; (focus (repeat (first | (with_reducible assumption) | ((with_reducible refine heap_alloc_at ?_ _); first | (with_reducible rfl) | (focus (simp; done))) | (with_reducible apply heap_alloc_old) | ((with_reducible apply heap_set_other); (case hne => (first | (with_reducible assumption) | exact Nat.ne_of_lt (by with_reducible assumption) | exact Nat.ne_of_gt (by with_reducible assumption) | (focus (simp +arith; done)) | (simp; done)))) | (with_reducible apply heap_set_eq) | (with_reducible apply heap_drew_of) | (with_reducible apply heap_drewN_of)))); (focus (first | (simp; done) | rfl))), by (apply heap_eq_of; (focus (repeat (first | (with_reducible assumption) | ((with_reducible refine heap_alloc_at ?_ _); first | (with_reducible rfl) | (focus (simp; done))) | (with_reducible apply heap_alloc_old) | ((with_reducible apply heap_set_other); (case hne => (first | (with_reducible assumption) | exact Nat.ne_of_lt (by with_reducible assumption) | exact Nat.ne_of_gt (by with_reducible assumption) | (focus (simp +arith; done)) | (simp; done)))) | (with_reducible apply heap_set_eq) | (with_reducible apply heap_drew_of) | (with_reducible apply heap_drewN_of)))); (focus (first | (simp; done) | rfl))), by (apply heap_eq_of; (focus (repeat (first | (with_reducible assumption) | ((with_reducible refine heap_alloc_at ?_ _); first | (with_reducible rfl) | (focus (simp; done))) | (with_reducible apply heap_alloc_old) | ((with_reducible apply heap_set_other); (case hne => (first | (with_reducible assumption) | exact Nat.ne_of_lt (by with_reducible assumption) | exact Nat.ne_of_gt (by with_reducible assumption) | (focus (simp +arith; done)) | (simp; done)))) | (with_reducible apply heap_set_eq) | (with_reducible apply heap_drew_of) | (with_reducible apply heap_drewN_of)))); (focus (first | (simp; done) | rfl))), by (apply heap_eq_of; (focus (repeat (first | (with_reducible assumption) | ((with_reducible refine heap_alloc_at ?_ _); first | (with_reducible rfl) | (focus (simp; done))) | (with_reducible apply heap_alloc_old) | ((with_reducible apply heap_set_other); (case hne => (first | (with_reducible assumption) | exact Nat.ne_of_lt (by with_reducible assumption) | exact Nat.ne_of_gt (by with_reducible assumption) | (focus (simp +arith; done)) | (simp; done)))) | (with_reducible apply heap_set_eq) | (with_reducible apply heap_drew_of) | (with_reducible apply heap_drewN_of)))); (focus (first | (simp; done) | rfl))), ?_⟩, by (try simp) <;> (try omega), by (try simp) <;> (try omega), by (try simp) <;> (try omega), by (try simp) <;> (try omega)⟩, (by repeat' (first | (with_reducible exact Fr.refl _ _) | (with_reducible assumption) | (with_reducible refine Fr.drew ?_) | (with_reducible refine Fr.drewN ?_ _) | (with_reducible refine Fr.alloc ?_ _) | ((with_reducible refine Fr.setNew ?_ _ ?_ _); rotate_left; (focus (first | (with_reducible assumption) | exact Nat.le_of_lt (by with_reducible assumption) | (focus (simp +arith; done)) | exact Nat.le_trans (by with_reducible assumption) (by simp +arith; done) | (simp; done)))) | ((with_reducible refine Fr.setOld ?_ _ ?_ _); rotate_left; (focus (simp; done)))))⟩
    (try simp) <;> (try omega)
end Go.Proofs.Ytobekkgaildbgaa
