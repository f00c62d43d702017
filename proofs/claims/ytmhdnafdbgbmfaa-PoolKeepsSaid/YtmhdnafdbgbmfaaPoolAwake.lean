/- The first question of each statement of layer 4 ('awake') is answered yes. -/
import Derived.Test.YtmhdnafdbgbmfaaPoolRef2
namespace Go.Proofs.Ytmhdnafdbgbmfaa
open Go.RowKit

/-- Frames as they are where each step turned at most one number by one. -/
def Sane (N : Int) (l : List Fm) : Prop := l.length ≤ 64 ∧ ∀ f ∈ l, Fm.ok N f
theorem Sane.p {N : Int} {l : List Fm} (h : Sane N l) (hN : N ≤ 999999) : ∀ f ∈ l, 0 ≤ f.p ∧ f.p < 1000000 := fun f hf => ⟨(h.2 f hf).p0, by have := (h.2 f hf).pN; omega⟩
theorem Sane.g {N : Int} {l : List Fm} (h : Sane N l) (hN : N ≤ 999999) : ∀ f ∈ l, 0 ≤ f.g ∧ f.g < 1000000 := fun f hf => ⟨(h.2 f hf).g0, by have := (h.2 f hf).gN; omega⟩
theorem Sane.s {N : Int} {l : List Fm} (h : Sane N l) : ∀ f ∈ l, 0 ≤ f.s ∧ f.s ≤ 3 := fun f hf => ⟨(h.2 f hf).s0, (h.2 f hf).s3⟩
theorem Sane.n {N : Int} {l : List Fm} (h : Sane N l) : l.length ≤ 1000 := by have := h.1; omega
theorem Sane.z {N : Int} {l : List Fm} (h : Sane N l) : ∀ f ∈ l, f.s = 0 → f.p = 0 ∧ f.v = 0 := fun f hf hs => ⟨((h.2 f hf).free hs).2.1, ((h.2 f hf).free hs).2.2⟩

section
variable {N : Int} {bp bf : Nat} {l l' : List Fm} {w : World}
theorem ptakec (b i e : Int) (hE : takeL l b = (i, e, l')) (hs : Sane N l) (hN : N ≤ 999999) (hP : PoolAt pT w bp bf l) :
    Calls Try.prog 34 #[.pointer (some ⟨bp, 0, none⟩), .int .i64 b] w fun e' w' => e' = .returned (.tuple #[.int .i64 i, .int .i64 e]) ∧ PoolAt pT w' bp bf l' ∧ Fr [bf] w w' := by
  have := ptake bp bf l b hs.n (hs.g hN) w hP
  rw [hE] at this; exact this
theorem pfillc (i v c : Int) (hE : stepAt l i (fillK v) = (c, l')) (hP : PoolAt pT w bp bf l) :
    Calls Try.prog 37 #[.pointer (some ⟨bp, 0, none⟩), .int .i64 i, .int .u64 v] w fun e w' => e = .returned (.int .i64 c) ∧ PoolAt pT w' bp bf l' ∧ Fr [bf] w w' := by
  have := pfill bp bf l i v w hP
  rw [hE] at this; exact this
theorem ppinc (i g c : Int) (hE : stepAt l i (pinK g) = (c, l')) (hs : Sane N l) (hN : N ≤ 999999) (hP : PoolAt pT w bp bf l) :
    Calls Try.prog 36 #[.pointer (some ⟨bp, 0, none⟩), .int .i64 i, .int .i64 g] w fun e w' => e = .returned (.int .i64 c) ∧ PoolAt pT w' bp bf l' ∧ Fr [bf] w w' := by
  have := ppin bp bf l i g w hP (hs.p hN)
  rw [hE] at this; exact this
theorem punpinc (i g c : Int) (hE : stepAt l i (unpinK g) = (c, l')) (hs : Sane N l) (hN : N ≤ 999999) (hP : PoolAt pT w bp bf l) :
    Calls Try.prog 38 #[.pointer (some ⟨bp, 0, none⟩), .int .i64 i, .int .i64 g] w fun e w' => e = .returned (.int .i64 c) ∧ PoolAt pT w' bp bf l' ∧ Fr [bf] w w' := by
  have := punpin bp bf l i g w hP (hs.p hN)
  rw [hE] at this; exact this
theorem pdoomc (i c : Int) (hE : stepAt l i doomK = (c, l')) (hP : PoolAt pT w bp bf l) :
    Calls Try.prog 35 #[.pointer (some ⟨bp, 0, none⟩), .int .i64 i] w fun e w' => e = .returned (.int .i64 c) ∧ PoolAt pT w' bp bf l' ∧ Fr [bf] w w' := by
  have := pdoom bp bf l i w hP
  rw [hE] at this; exact this
theorem pcountc (c0 c1 c2 c3 : Int) (hc : cntS l 0 = c0 ∧ cntS l 1 = c1 ∧ cntS l 2 = c2 ∧ cntS l 3 = c3) (hs : Sane N l) (hP : PoolAt pT w bp bf l) :
    Calls Try.prog 29 #[.pointer (some ⟨bp, 0, none⟩)] w fun e w' => e = .returned (.agg #[.int .i64 c0, .int .i64 c1, .int .i64 c2, .int .i64 c3]) ∧ Fr [] w w' := by
  obtain ⟨rfl, rfl, rfl, rfl⟩ := hc
  exact pcount bp bf l hs.n hs.s w hP
theorem ppinsc (s : Int) (hc : sumP l = s) (hs : Sane N l) (hN : N ≤ 999999) (hP : PoolAt pT w bp bf l) :
    Calls Try.prog 31 #[.pointer (some ⟨bp, 0, none⟩)] w fun e w' => e = .returned (.int .i64 s) ∧ Fr [] w w' := by
  subst hc; exact ppins bp bf l hs.n (hs.p hN) w hP
theorem pnewc (n : Int) (k : Nat) (hk : n = k) (h1 : 1 ≤ k) (h2 : k ≤ 64) :
    Calls Try.prog 26 #[.int .i64 n] w fun e w' => e = .returned (.tuple #[.pointer (some ⟨w.heap.size + 1, 0, none⟩), .int .i64 0]) ∧ PoolAt pT w' (w.heap.size + 1) w.heap.size (List.replicate k fm0) ∧ Fr [] w w' := by
  subst hk; exact pnew_ok k h1 h2 w
theorem pframec (i s b g p v : Int) (h0 : 0 ≤ i) (hE : l[i.toNat]? = some ⟨s, b, g, p, v⟩) (hP : PoolAt pT w bp bf l) :
    Calls Try.prog 33 #[.pointer (some ⟨bp, 0, none⟩), .int .i64 i] w fun e w' => e = .returned (.tuple #[.agg #[.int .i64 s, .int .i64 b, .int .i64 g, .int .i64 p, .int .u64 v], .bool true]) ∧ Fr [] w w' := by
  have := pframe_ok bp bf l i.toNat ⟨s, b, g, p, v⟩ hE w hP
  rw [Int.toNat_of_nonneg h0] at this; exact this
end

theorem fm_ok {N s b g p v : Int} (h : (decide (0 ≤ s) && decide (s ≤ 3) && decide (0 ≤ p) && decide (p ≤ N) && decide (0 ≤ g) && decide (g ≤ N) && (!decide (s = 0) || (decide (b = 0) && decide (p = 0) && decide (v = 0)))) = true) : Fm.ok N ⟨s, b, g, p, v⟩ := by
  simp only [Bool.and_eq_true, decide_eq_true_eq, Bool.or_eq_true, Bool.not_eq_true', decide_eq_false_iff_not] at h
  obtain ⟨⟨⟨⟨⟨⟨h1, h2⟩, h3⟩, h4⟩, h5⟩, h6⟩, h7⟩ := h
  exact ⟨h1, h2, h3, h4, h5, h6, fun hs => by rcases h7 with h7 | ⟨⟨h7, h8⟩, h9⟩; exact absurd hs h7; exact ⟨h7, h8, h9⟩⟩
theorem sane2 {N : Int} {x y : Fm} (hx : Fm.ok N x) (hy : Fm.ok N y) : Sane N [x, y] := ⟨by simp, by intro f hf; simp at hf; rcases hf with rfl | rfl; exact hx; exact hy⟩
theorem fm0_ok {N : Int} (h : 0 ≤ N) : Fm.ok N fm0 := ⟨by simp [fm0], by simp [fm0], by simp [fm0], by simpa [fm0] using h, by simp [fm0], by simpa [fm0] using h, by simp [fm0]⟩

set_option maxHeartbeats 1000000 in
theorem eq_arr4 (a b c d a' b' c' d' : Int) (w : World) : (Op.equalIn 10000 55 (.agg #[.int .i64 a, .int .i64 b, .int .i64 c, .int .i64 d]) (.agg #[.int .i64 a', .int .i64 b', .int .i64 c', .int .i64 d'])).run Try.prog w = .ok (a == a' && (b == b' && (c == c' && d == d'))) w := by
  have hu : Try.prog.underlying 55 = some (.array 4 3) := by kernel_rfl
  have a3 := Try.isAgg3
  have u3 := Try.underlying3
  rw [show (10000 : Nat) = 9999 + 1 from rfl, Op.equalIn]
  simp [run_underlying hu, go_sem, List.range', a3]
  by_cases h1 : a = a' <;> by_cases h2 : b = b' <;> by_cases h3 : c = c' <;> by_cases h4 : d = d' <;> simp [h1, h2, h3, h4, go_sem]

set_option maxHeartbeats 4000000 in
theorem pawake (w : World) : Calls Try.prog 25 #[] w fun e w' => e = .returned (.bool true) ∧ Fr [] w w' := by
  have hz : Fm.ok 5 fm0 := fm0_ok (by omega)
  have a1 : takeL (List.replicate 2 fm0) 9 = (0, 0, [⟨1, 9, 1, 0, 0⟩, fm0]) := by decide +kernel
  have a2 : stepAt [⟨1, 9, 1, 0, 0⟩, fm0] 0 (pinK 1) = (0, [⟨1, 9, 1, 1, 0⟩, fm0]) := by decide +kernel
  have a3 : stepAt [⟨1, 9, 1, 1, 0⟩, fm0] 0 (fillK 5) = (0, [⟨2, 9, 1, 1, 5⟩, fm0]) := by decide +kernel
  have a4 : stepAt [⟨2, 9, 1, 1, 5⟩, fm0] 0 doomK = (0, [⟨3, 9, 1, 1, 5⟩, fm0]) := by decide +kernel
  have a5 : stepAt [⟨3, 9, 1, 1, 5⟩, fm0] 0 (unpinK 1) = (0, [⟨0, 0, 1, 0, 0⟩, fm0]) := by decide +kernel
  have s0 : Sane 5 (List.replicate 2 fm0) := sane2 hz hz
  have s1 : Sane 5 [⟨1, 9, 1, 0, 0⟩, fm0] := sane2 (fm_ok (by decide +kernel)) hz
  have s4 : Sane 5 [⟨3, 9, 1, 1, 5⟩, fm0] := sane2 (fm_ok (by decide +kernel)) hz
  have s5 : Sane 5 [⟨0, 0, 1, 0, 0⟩, fm0] := sane2 (fm_ok (by decide +kernel)) hz
  have heq := eq_arr4
  have A1 := Lib.hid a1
  have A2 := Lib.hid a2
  have A3 := Lib.hid a3
  have A4 := Lib.hid a4
  have A5 := Lib.hid a5
  have S0 := Lib.hid s0
  have S1 := Lib.hid s1
  have S4 := Lib.hid s4
  have S5 := Lib.hid s5
  clear a1 a2 a3 a4 a5 s0 s1 s4 s5 hz
  go_enter Try.func25, Try.ntmps25
  go_wp2_with (first
    | (go_at_call 26; first
       | ((with_reducible refine (pnewc 2 2 rfl (by omega) (by omega)).mono ?_); rintro e w1 ⟨rfl, P1, F1⟩)
       | ((with_reducible refine (pnew_no 0 (by omega) _).mono ?_); rintro e w1 ⟨rfl, rfl⟩))
    | (go_at_call 34; (with_reducible refine (ptakec _ _ _ A1.out S0.out (by omega) P1).mono ?_); rintro e w2 ⟨rfl, P2, f2⟩; have F2 : Fr [] w w2 := Fr.trans' F1 f2 (by simp); clear P1 F1 f2)
    | (go_at_call 36; (with_reducible refine (ppinc _ _ _ A2.out S1.out (by omega) P2).mono ?_); rintro e w3 ⟨rfl, P3, f3⟩; have F3 : Fr [] w w3 := Fr.trans' F2 f3 (by simp); clear P2 F2 f3)
    | (go_at_call 37; (with_reducible refine (pfillc _ _ _ A3.out P3).mono ?_); rintro e w4 ⟨rfl, P4, f4⟩; have F4 : Fr [] w w4 := Fr.trans' F3 f4 (by simp); clear P3 F3 f4)
    | (go_at_call 35; (with_reducible refine (pdoomc _ _ A4.out P4).mono ?_); rintro e w5 ⟨rfl, P5, f5⟩; have F5 : Fr [] w w5 := Fr.trans' F4 f5 (by simp); clear P4 F4 f5)
    | (go_at_call 33; first
       | ((with_reducible refine (pframec 0 3 9 1 1 5 (by omega) rfl P5).mono ?_); rintro e w6 ⟨rfl, f6⟩; have F6 : Fr [] w w6 := Fr.trans F5 f6; have P6 := P5.fr f6 (by simp) (by simp); have n6 : w6.heap.size ≠ w.heap.size := (by have := P6.lt.2; omega); clear P5 F5 f6)
       | ((with_reducible refine (pframec 0 0 0 1 0 0 (by omega) rfl P7).mono ?_); rintro e w8 ⟨rfl, f8⟩; apply f8.use (k := w6.heap.size); (focus (repeat (first | (with_reducible assumption) | ((with_reducible refine heap_alloc_at ?_ _); first | (with_reducible rfl) | (focus (simp; done))) | (with_reducible apply heap_alloc_old) | ((with_reducible apply heap_set_other); (case hne => (first | (with_reducible assumption) | exact Nat.ne_of_lt (by with_reducible assumption) | exact Nat.ne_of_gt (by with_reducible assumption) | (focus (simp +arith; done)) | (simp; done)))) | (with_reducible apply heap_set_eq) | (with_reducible apply heap_drew_of) | (with_reducible apply heap_drewN_of)))); (focus (first | (simp; done) | (simp; assumption))); intro hg8 hc8 hz8 _ _ _ _ _; (try simp only [List.setIfInBounds_toArray, List.set_cons_zero, List.set_cons_succ] at hg8 hc8); have F8 : Fr [] w w8 := Fr.trans F7 f8; have P8 := P7.fr f8 (by simp) (by simp); clear P7 F7 f8)))
  refine (punpinc _ _ _ A5.out S4.out (by omega) (P6.fr (S := []) (by repeat' (first | (with_reducible exact Fr.refl _ _) | (with_reducible assumption) | (with_reducible refine Fr.drew ?_) | (with_reducible refine Fr.drewN ?_ _) | (with_reducible refine Fr.alloc ?_ _) | ((with_reducible refine Fr.setNew ?_ _ ?_ _); rotate_left; (focus (first | (with_reducible assumption) | exact Nat.le_of_lt (by with_reducible assumption) | (focus (simp +arith; done)) | exact Nat.le_trans (by with_reducible assumption) (by simp +arith; done) | (simp; done)))) | ((with_reducible refine Fr.setOld ?_ _ ?_ _); rotate_left; (focus (simp; done))))) (by simp) (by simp))).mono ?_
  rintro e w7 ⟨rfl, P7, f7⟩
  apply f7.use (k := w6.heap.size); (focus (repeat (first | (with_reducible assumption) | ((with_reducible refine heap_alloc_at ?_ _); first | (with_reducible rfl) | (focus (simp; done))) | (with_reducible apply heap_alloc_old) | ((with_reducible apply heap_set_other); (case hne => (first | (with_reducible assumption) | exact Nat.ne_of_lt (by with_reducible assumption) | exact Nat.ne_of_gt (by with_reducible assumption) | (focus (simp +arith; done)) | (simp; done)))) | (with_reducible apply heap_set_eq) | (with_reducible apply heap_drew_of) | (with_reducible apply heap_drewN_of)))); (focus (first | (simp; done) | (simp; assumption))); intro hg7 hc7 hz7 _ _ _ _ _; (try simp only [List.setIfInBounds_toArray, List.set_cons_zero, List.set_cons_succ] at hg7 hc7)
  have F7 : Fr [] w w7 := Fr.trans' (by repeat' (first | (with_reducible exact Fr.refl _ _) | (with_reducible assumption) | (with_reducible refine Fr.drew ?_) | (with_reducible refine Fr.drewN ?_ _) | (with_reducible refine Fr.alloc ?_ _) | ((with_reducible refine Fr.setNew ?_ _ ?_ _); rotate_left; (focus (first | (with_reducible assumption) | exact Nat.le_of_lt (by with_reducible assumption) | (focus (simp +arith; done)) | exact Nat.le_trans (by with_reducible assumption) (by simp +arith; done) | (simp; done)))) | ((with_reducible refine Fr.setOld ?_ _ ?_ _); rotate_left; (focus (simp; done))))) f7 (by simp)
  clear P6 F6 f7
  go_wp2_with (first
    | (go_at_call 33; ((with_reducible refine (pframec 0 0 0 1 0 0 (by omega) rfl P7).mono ?_); rintro e w8 ⟨rfl, f8⟩; apply f8.use (k := w6.heap.size); (focus (repeat (first | (with_reducible assumption) | ((with_reducible refine heap_alloc_at ?_ _); first | (with_reducible rfl) | (focus (simp; done))) | (with_reducible apply heap_alloc_old) | ((with_reducible apply heap_set_other); (case hne => (first | (with_reducible assumption) | exact Nat.ne_of_lt (by with_reducible assumption) | exact Nat.ne_of_gt (by with_reducible assumption) | (focus (simp +arith; done)) | (simp; done)))) | (with_reducible apply heap_set_eq) | (with_reducible apply heap_drew_of) | (with_reducible apply heap_drewN_of)))); (focus (first | (simp; done) | (simp; assumption))); intro hg8 hc8 hz8 _ _ _ _ _; (try simp only [List.setIfInBounds_toArray, List.set_cons_zero, List.set_cons_succ] at hg8 hc8); have F8 : Fr [] w w8 := Fr.trans F7 f8; have P8 := P7.fr f8 (by simp) (by simp); clear P7 F7 f8))
    | (go_at_call 29; (with_reducible refine (pcountc 2 0 0 0 (by decide +kernel) S5.out (P8.fr (S := []) (by repeat' (first | (with_reducible exact Fr.refl _ _) | (with_reducible assumption) | (with_reducible refine Fr.drew ?_) | (with_reducible refine Fr.drewN ?_ _) | (with_reducible refine Fr.alloc ?_ _) | ((with_reducible refine Fr.setNew ?_ _ ?_ _); rotate_left; (focus (first | (with_reducible assumption) | exact Nat.le_of_lt (by with_reducible assumption) | (focus (simp +arith; done)) | exact Nat.le_trans (by with_reducible assumption) (by simp +arith; done) | (simp; done)))) | ((with_reducible refine Fr.setOld ?_ _ ?_ _); rotate_left; (focus (simp; done))))) (by simp) (by simp))).mono ?_); rintro e w9 ⟨rfl, f9⟩; apply f9.use (k := w6.heap.size); (focus (repeat (first | (with_reducible assumption) | ((with_reducible refine heap_alloc_at ?_ _); first | (with_reducible rfl) | (focus (simp; done))) | (with_reducible apply heap_alloc_old) | ((with_reducible apply heap_set_other); (case hne => (first | (with_reducible assumption) | exact Nat.ne_of_lt (by with_reducible assumption) | exact Nat.ne_of_gt (by with_reducible assumption) | (focus (simp +arith; done)) | (simp; done)))) | (with_reducible apply heap_set_eq) | (with_reducible apply heap_drew_of) | (with_reducible apply heap_drewN_of)))); (focus (first | (simp; done) | (simp; assumption))); intro hg9 hc9 hz9 _ _ _ _ _; (try simp only [List.setIfInBounds_toArray, List.set_cons_zero, List.set_cons_succ] at hg9 hc9); apply f9.use (k := w8.heap.size); (focus (repeat (first | (with_reducible assumption) | ((with_reducible refine heap_alloc_at ?_ _); first | (with_reducible rfl) | (focus (simp; done))) | (with_reducible apply heap_alloc_old) | ((with_reducible apply heap_set_other); (case hne => (first | (with_reducible assumption) | exact Nat.ne_of_lt (by with_reducible assumption) | exact Nat.ne_of_gt (by with_reducible assumption) | (focus (simp +arith; done)) | (simp; done)))) | (with_reducible apply heap_set_eq) | (with_reducible apply heap_drew_of) | (with_reducible apply heap_drewN_of)))); (focus (first | (simp; done) | (simp; assumption))); intro hg10 hc10 hz10 _ _ _ _ _; (try simp only [List.setIfInBounds_toArray, List.set_cons_zero, List.set_cons_succ] at hg10 hc10); have F9 : Fr [] w w9 := Fr.trans (by repeat' (first | (with_reducible exact Fr.refl _ _) | (with_reducible assumption) | (with_reducible refine Fr.drew ?_) | (with_reducible refine Fr.drewN ?_ _) | (with_reducible refine Fr.alloc ?_ _) | ((with_reducible refine Fr.setNew ?_ _ ?_ _); rotate_left; (focus (first | (with_reducible assumption) | exact Nat.le_of_lt (by with_reducible assumption) | (focus (simp +arith; done)) | exact Nat.le_trans (by with_reducible assumption) (by simp +arith; done) | (simp; done)))) | ((with_reducible refine Fr.setOld ?_ _ ?_ _); rotate_left; (focus (simp; done))))) f9; have P9 := P8.fr (S := []) (Fr.trans (by repeat' (first | (with_reducible exact Fr.refl _ _) | (with_reducible assumption) | (with_reducible refine Fr.drew ?_) | (with_reducible refine Fr.drewN ?_ _) | (with_reducible refine Fr.alloc ?_ _) | ((with_reducible refine Fr.setNew ?_ _ ?_ _); rotate_left; (focus (first | (with_reducible assumption) | exact Nat.le_of_lt (by with_reducible assumption) | (focus (simp +arith; done)) | exact Nat.le_trans (by with_reducible assumption) (by simp +arith; done) | (simp; done)))) | ((with_reducible refine Fr.setOld ?_ _ ?_ _); rotate_left; (focus (simp; done))))) f9) (by simp) (by simp); clear P8 F8 f9)
    | (go_at_call 31; (with_reducible refine (ppinsc 0 (by decide +kernel) S5.out (by omega) P9).mono ?_); rintro e w10 ⟨rfl, f10⟩; have F10 : Fr [] w w10 := Fr.trans F9 f10; clear P9 F9 f10))
  go_ret
  exact ⟨rfl, F10⟩

end Go.Proofs.Ytmhdnafdbgbmfaa
