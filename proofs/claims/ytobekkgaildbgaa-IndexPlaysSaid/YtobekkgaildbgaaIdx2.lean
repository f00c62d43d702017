/- Package index: New, right, Put, Get, Len, Far. -/
import Derived.Test.YtobekkgaildbgaaIdx
import Derived.Test.YtobekkgaildbgaaSlice
namespace Go.Proofs.Ytobekkgaildbgaa
open Go.RowKit

/-- A table as it may be, with its count. -/
structure IOk (N : Nat) (T : Tb) (c : Int) : Prop where
  pw : ∃ k, k ≤ 8 ∧ N = 2 ^ k
  ok : TOk N T
  cn : c = (cnt T : Int)
  lt : cnt T < N
theorem IOk.found {N : Nat} {T : Tb} {c : Int} (h : IOk N T c) (k1 : Int) : FoundAt N T k1 (findL N T k1) := by
  obtain ⟨e, h1, h2⟩ := h.ok.room h.lt
  exact Go.Proofs.Ytobekkgaildbgaa.found (by have := h.ok.pos; omega) e h1 (Or.inl h2)
/-- A key that may be. -/
def rightK (key : Int) : Bool := decide (0 ≤ key) && decide (key ≤ 1048576)
/-- What Put leaves, and its code. -/
def putL (N : Nat) (T : Tb) (c key n : Int) : Tb × Int × Int :=
  if rightK key = false then (T, c, 1)
  else if (gt T (findL N T (key + 1))).1 = 0 then (if c = N - 1 then (T, c, 2) else (T.set (findL N T (key + 1)) (key + 1, n), c + 1, 0))
  else (T.set (findL N T (key + 1)) (key + 1, n), c, 0)
/-- A key's number, and whether it is there. -/
def getL (N : Nat) (T : Tb) (key : Int) : Int × Bool :=
  if rightK key = false then (0, false) else ((gt T (findL N T (key + 1))).2, decide (0 < (gt T (findL N T (key + 1))).1))

theorem IdxAt.cnt {w : World} {x b N : Nat} {T : Tb} {c : Int} (h : IdxAt w x b N T c) (c' : Int) : IdxAt (w.setCell ⟨x, 1, none⟩ (.int .i64 c')) x b N T c' := by
  refine ⟨?_, ?_, h.ne⟩
  · rw [heap_set_eq h.hx]; simp
  · rw [heap_set_ne _ _ _ (Ne.symm h.ne)]; exact h.hb
section
variable {x b N : Nat} {T : Tb} {c : Int} {w : World}
set_option maxHeartbeats 1000000 in
theorem idx_right (key : Int) : Calls Try.prog 48 #[.int .i64 key] w fun e w' => e = .returned (.bool (rightK key)) ∧ w = w' := by
  unfold rightK
  go_enter Try.func48, Try.ntmps48
  go_wp2
  all_goals (go_ret; refine ⟨ret_bool ?_, rfl⟩; (try simp only [ge_iff_le, decide_eq_true_eq, decide_eq_false_iff_not] at *); first | (symm; simp; omega) | (simp; omega))

set_option maxRecDepth 100000 in
set_option maxHeartbeats 4000000 in
theorem idx_put (key n : Int) (hk : IOk N T c) (H : IdxAt w x b N T c) :
    Calls Try.prog 17 #[.pointer (some ⟨x, 0, none⟩), .int .i64 key, .int .i64 n] w fun e w' => e = .returned (.int .i64 (putL N T c key n).2.2) ∧ IdxAt w' x b N (putL N T c key n).1 (putL N T c key n).2.1 ∧ Fr [x, b] w w' := by
  have fol : Try.prog.follows .mixedOrders = true := by kernel_rfl
  have HR := fun w => idx_right (w := w) key
  obtain ⟨n0, n1⟩ := pow_le hk.pw
  have n0' : 0 < (N : Int) := by omega
  have n1' : (N : Int) ≤ 256 := by omega
  have HX := H.hx
  have hne := H.ne
  have HH := Lib.hid H
  have HK := Lib.hid hk
  apply blk_use HX; intro hg1 hc1 hz1 _ _ _ _ _
  by_cases hr : rightK key = false
  · have e : Hid (putL N T c key n = (T, c, 1)) := by unfold Hid putL; rw [if_pos hr]
    rw [hr] at HR
    have HR := Lib.hid HR
    clear H hk hr
    go_enter Try.func17, Try.ntmps17
    go_wp2_with fail
    with_reducible refine (HR.out _).mono ?_
    rintro e' w' ⟨rfl, rfl⟩
    go_wp2_with fail
    go_ret
    exact ⟨by rw [e.out]; rfl, by rw [e.out]; exact HH.out, Fr.refl _ _⟩
  · have e : putL N T c key n = if (gt T (findL N T (key + 1))).1 = 0 then (if c = N - 1 then (T, c, 2) else (T.set (findL N T (key + 1)) (key + 1, n), c + 1, 0)) else (T.set (findL N T (key + 1)) (key + 1, n), c, 0) := by unfold putL; rw [if_neg hr]
    have hr' : rightK key = true := by simpa using hr
    have hrr := hr'
    simp only [rightK, Bool.and_eq_true, decide_eq_true_eq] at hrr
    obtain ⟨k0, k1⟩ := hrr
    rw [hr'] at HR
    have HR := Lib.hid HR
    have HF := fun w' (h : IdxAt w' x b N T c) => idx_find (w := w') hk.pw key k0 k1 hk.ok.len (hk.found _) h
    have hfl := (hk.found (key + 1)).lt
    obtain ⟨c0, c1⟩ := H.cell (i := findL N T (key + 1)) (by rw [hk.ok.len]; exact hfl)
    have w0 := (hk.ok.wf _ hfl).1
    have hlen := hk.ok.len
    have hz := H.frz
    have hcn : 0 ≤ c ∧ c < N := by have := hk.cn; have := hk.lt; omega
    generalize findL N T (key + 1) = f at *
    generalize gt T f = g at *
    obtain ⟨g1, g2⟩ := g
    simp only at c0 c1 e w0
    have HF := Lib.hid HF
    have hfl' : (f : Int) < N := by omega
    have hlen' : Hid (f < T.length) := by unfold Hid; omega
    have ks : wrap64 (key + 1) = key + 1 := by unfold wrap64; omega
    obtain ⟨hc0, hc9⟩ := hcn
    clear H hk hr hr' hlen
    by_cases z : g1 = 0
    · subst z
      rw [if_pos rfl] at e
      by_cases zc : c = N - 1
      · subst zc
        rw [if_pos rfl] at e
        have E := Lib.hid e
        clear e
        go_enter Try.func17, Try.ntmps17
        go_wp2_with fail
        with_reducible refine (HR.out _).mono ?_
        rintro e' w' ⟨rfl, rfl⟩
        go_wp2_with fail
        with_reducible refine (HF.out _ HH.out).mono ?_
        rintro e' w' ⟨rfl, rfl⟩
        go_wp2_with fail
        go_region
        go_wp2_with fail
        go_ret
        exact ⟨by rw [E.out]; rfl, by rw [E.out]; exact HH.out.fr (S := []) (by repeat' (first | (with_reducible exact Fr.refl _ _) | (with_reducible assumption) | (with_reducible refine Fr.drew ?_) | (with_reducible refine Fr.drewN ?_ _) | (with_reducible refine Fr.alloc ?_ _) | ((with_reducible refine Fr.setNew ?_ _ ?_ _); rotate_left; (focus (first | (with_reducible assumption) | exact Nat.le_of_lt (by with_reducible assumption) | (focus (simp +arith; done)) | exact Nat.le_trans (by with_reducible assumption) (by simp +arith; done) | (simp; done)))) | ((with_reducible refine Fr.setOld ?_ _ ?_ _); rotate_left; (focus (simp; done))))) (by simp) (by simp), (by repeat' (first | (with_reducible exact Fr.refl _ _) | (with_reducible assumption) | (with_reducible refine Fr.drew ?_) | (with_reducible refine Fr.drewN ?_ _) | (with_reducible refine Fr.alloc ?_ _) | ((with_reducible refine Fr.setNew ?_ _ ?_ _); rotate_left; (focus (first | (with_reducible assumption) | exact Nat.le_of_lt (by with_reducible assumption) | (focus (simp +arith; done)) | exact Nat.le_trans (by with_reducible assumption) (by simp +arith; done) | (simp; done)))) | ((with_reducible refine Fr.setOld ?_ _ ?_ _); rotate_left; (focus (simp; done)))))⟩
      · rw [if_neg zc] at e
        have E := Lib.hid e
        clear e
        go_enter Try.func17, Try.ntmps17
        go_wp2_with fail
        with_reducible refine (HR.out _).mono ?_
        rintro e' w' ⟨rfl, rfl⟩
        go_wp2_with fail
        with_reducible refine (HF.out _ HH.out).mono ?_
        rintro e' w' ⟨rfl, rfl⟩
        go_wp2_with fail
        go_region
        go_wp2_with fail
        go_ret
        exact ⟨by rw [E.out]; rfl, by rw [E.out]; exact (((HH.out.cnt (c + 1)).set hlen'.out (key + 1, n)).fr (S := []) (by repeat' (first | (with_reducible exact Fr.refl _ _) | (with_reducible assumption) | (with_reducible refine Fr.drew ?_) | (with_reducible refine Fr.drewN ?_ _) | (with_reducible refine Fr.alloc ?_ _) | ((with_reducible refine Fr.setNew ?_ _ ?_ _); rotate_left; (focus (first | (with_reducible assumption) | exact Nat.le_of_lt (by with_reducible assumption) | (focus (simp +arith; done)) | exact Nat.le_trans (by with_reducible assumption) (by simp +arith; done) | (simp; done)))) | ((with_reducible refine Fr.setOld ?_ _ ?_ _); rotate_left; (focus (simp; done))))) (by simp) (by simp)), (by repeat' (first | (with_reducible exact Fr.refl _ _) | (with_reducible assumption) | (with_reducible refine Fr.drew ?_) | (with_reducible refine Fr.drewN ?_ _) | (with_reducible refine Fr.alloc ?_ _) | ((with_reducible refine Fr.setNew ?_ _ ?_ _); rotate_left; (focus (first | (with_reducible assumption) | exact Nat.le_of_lt (by with_reducible assumption) | (focus (simp +arith; done)) | exact Nat.le_trans (by with_reducible assumption) (by simp +arith; done) | (simp; done)))) | ((with_reducible refine Fr.setOld ?_ _ ?_ _); rotate_left; (focus (simp; done)))))⟩
    · rw [if_neg z] at e
      have E := Lib.hid e
      clear e
      go_enter Try.func17, Try.ntmps17
      go_wp2_with fail
      with_reducible refine (HR.out _).mono ?_
      rintro e' w' ⟨rfl, rfl⟩
      go_wp2_with fail
      with_reducible refine (HF.out _ HH.out).mono ?_
      rintro e' w' ⟨rfl, rfl⟩
      go_wp2_with fail
      go_ret
      exact ⟨by rw [E.out]; rfl, by rw [E.out]; exact HH.out.set hlen'.out (key + 1, n), (by repeat' (first | (with_reducible exact Fr.refl _ _) | (with_reducible assumption) | (with_reducible refine Fr.drew ?_) | (with_reducible refine Fr.drewN ?_ _) | (with_reducible refine Fr.alloc ?_ _) | ((with_reducible refine Fr.setNew ?_ _ ?_ _); rotate_left; (focus (first | (with_reducible assumption) | exact Nat.le_of_lt (by with_reducible assumption) | (focus (simp +arith; done)) | exact Nat.le_trans (by with_reducible assumption) (by simp +arith; done) | (simp; done)))) | ((with_reducible refine Fr.setOld ?_ _ ?_ _); rotate_left; (focus (simp; done)))))⟩

theorem find_of (hk : IOk N T c) (key : Int) (k0 : 0 ≤ key) (k1 : key ≤ 1048576) {f : Nat} (hf : findL N T (key + 1) = f) : ∀ w', IdxAt w' x b N T c → Calls Try.prog 49 #[.pointer (some ⟨x, 0, none⟩), .int .i64 key] w' fun e w'' => e = .returned (.int .i64 (f : Nat)) ∧ w' = w'' := by
  subst hf
  exact fun w' h => idx_find hk.pw key k0 k1 hk.ok.len (hk.found _) h
theorem rightK_of {key : Int} (h : rightK key = true) : 0 ≤ key ∧ key ≤ 1048576 := by simpa [rightK] using h

set_option maxRecDepth 100000 in
set_option maxHeartbeats 4000000 in
theorem idx_get (key : Int) (hk : IOk N T c) (H : IdxAt w x b N T c) :
    Calls Try.prog 21 #[.pointer (some ⟨x, 0, none⟩), .int .i64 key] w fun e w' => e = .returned (.tuple #[.int .i64 (getL N T key).1, .bool (getL N T key).2]) ∧ Fr [] w w' := by
  have fol : Try.prog.follows .mixedOrders = true := by kernel_rfl
  have HR := fun w => idx_right (w := w) key
  have HH := Lib.hid H
  by_cases hr : rightK key = false
  · have e : Hid (getL N T key = (0, false)) := by unfold Hid getL; rw [if_pos hr]
    rw [hr] at HR
    have HR := Lib.hid HR
    clear H hk hr
    go_enter Try.func21, Try.ntmps21
    go_wp2_with fail
    with_reducible refine (HR.out _).mono ?_
    rintro e' w' ⟨rfl, rfl⟩
    go_wp2_with fail
    go_ret2
    exact ⟨by rw [e.out]; rfl, (by repeat' (first | (with_reducible exact Fr.refl _ _) | (with_reducible assumption) | (with_reducible refine Fr.drew ?_) | (with_reducible refine Fr.drewN ?_ _) | (with_reducible refine Fr.alloc ?_ _) | ((with_reducible refine Fr.setNew ?_ _ ?_ _); rotate_left; (focus (first | (with_reducible assumption) | exact Nat.le_of_lt (by with_reducible assumption) | (focus (simp +arith; done)) | exact Nat.le_trans (by with_reducible assumption) (by simp +arith; done) | (simp; done)))) | ((with_reducible refine Fr.setOld ?_ _ ?_ _); rotate_left; (focus (simp; done)))))⟩
  · have hr' : rightK key = true := by simpa using hr
    obtain ⟨k0, k1⟩ := rightK_of hr'
    have e : getL N T key = ((gt T (findL N T (key + 1))).2, decide (0 < (gt T (findL N T (key + 1))).1)) := by unfold getL; rw [if_neg hr]
    rw [hr'] at HR
    have HR := Lib.hid HR
    have HF := find_of (x := x) (b := b) hk key k0 k1 rfl
    have hfl := (hk.found (key + 1)).lt
    obtain ⟨c0, c1⟩ := H.cell (i := findL N T (key + 1)) (by rw [hk.ok.len]; exact hfl)
    have HX := H.hx
    have hlt := H.lt
    obtain ⟨n0, n1⟩ := pow_le hk.pw
    have n0' : 0 < (N : Int) := by omega
    have n1' : (N : Int) ≤ 256 := by omega
    have w0 := (hk.ok.wf _ hfl).1
    generalize findL N T (key + 1) = f at *
    generalize gt T f = g at *
    obtain ⟨g1, g2⟩ := g
    simp only at c0 c1 e w0
    have HF := Lib.hid HF
    have E := Lib.hid e
    have hfl' : (f : Int) < N := by omega
    apply blk_use HX; intro hg1 hc1 hz1 _ _ _ _ _
    have hbx : b ≠ w.heap.size := by omega
    have hbs : b < w.heap.size := by omega
    clear H hk hr hr' e
    go_enter Try.func21, Try.ntmps21
    go_wp2_with fail
    with_reducible refine (HR.out _).mono ?_
    rintro e' w' ⟨rfl, rfl⟩
    go_wp2_with fail
    refine wp_region_seqV_lit (AlS 9 10 79 #[.int .i64 0, .int .i64 0] #[.int .i64 g1, .int .i64 g2] w) fol (by kernel_rfl) AlS.start ?_
    have HXX := HX
    clear hg1 hc1 hz1
    (repeat (apply SeqV.cons; (focus (intro Vv bv wv hbv hdv hsh hSv; have f0 := hSv.fr; apply f0.use (k := x); (focus (repeat (first | (with_reducible assumption) | ((with_reducible refine heap_alloc_at ?_ _); first | (with_reducible rfl) | (focus (simp; done))) | (with_reducible apply heap_alloc_old) | ((with_reducible apply heap_set_other); (case hne => (first | (with_reducible assumption) | exact Nat.ne_of_lt (by with_reducible assumption) | exact Nat.ne_of_gt (by with_reducible assumption) | (focus (simp +arith; done)) | (simp; done)))) | (with_reducible apply heap_set_eq) | (with_reducible apply heap_drew_of) | (with_reducible apply heap_drewN_of)))); (focus (first | (simp; done) | (simp; assumption))); intro hg21 hc21 hz21 _ _ _ _ _; (try simp only [List.setIfInBounds_toArray, List.set_cons_zero, List.set_cons_succ] at hg21 hc21); (have z0 := (hSv.fr.cell (off := f * 2) hbs).trans c0); (have z1 := (hSv.fr.cell (off := f * 2 + 1) hbs).trans c1); clear hsh hdv; go_wp2_with fail; exact StepPost.mk rfl (AlS.plain hSv (by decide) (by repeat' (first | (with_reducible exact Fr.refl _ _) | (with_reducible assumption) | (with_reducible refine Fr.drew ?_) | (with_reducible refine Fr.drewN ?_ _) | (with_reducible refine Fr.alloc ?_ _) | ((with_reducible refine Fr.setNew ?_ _ ?_ _); rotate_left; (focus (first | (with_reducible assumption) | exact Nat.le_of_lt (by with_reducible assumption) | (focus (simp +arith; done)) | exact Nat.le_trans (by with_reducible assumption) (by simp +arith; done) | (simp; done)))) | ((with_reducible refine Fr.setOld ?_ _ ?_ _); rotate_left; (focus (simp; done)))))))); (try simp only [Act.put, List.setIfInBounds_toArray, List.set_cons_zero, List.set_cons_succ, Nat.reduceAdd, Nat.zero_add])))
    apply SeqV.cons (v := .int .i64 (f : Nat)); (focus (intro Vv bv wv hbv hdv hsh hSv; go_wp2_with fail; with_reducible refine (HF.out _ (HH.out.fr hSv.fr (by simp) (by simp))).mono ?_; rintro e ww ⟨rfl, rfl⟩; go_wp2_with fail; exact StepPost.mk rfl (AlS.plain hSv (by decide) (Fr.refl _ _)))); (try simp only [Act.put, List.setIfInBounds_toArray, List.set_cons_zero, List.set_cons_succ, Nat.reduceAdd, Nat.zero_add])
    (repeat (apply SeqV.cons; (focus (intro Vv bv wv hbv hdv hsh hSv; have f0 := hSv.fr; apply f0.use (k := x); (focus (repeat (first | (with_reducible assumption) | ((with_reducible refine heap_alloc_at ?_ _); first | (with_reducible rfl) | (focus (simp; done))) | (with_reducible apply heap_alloc_old) | ((with_reducible apply heap_set_other); (case hne => (first | (with_reducible assumption) | exact Nat.ne_of_lt (by with_reducible assumption) | exact Nat.ne_of_gt (by with_reducible assumption) | (focus (simp +arith; done)) | (simp; done)))) | (with_reducible apply heap_set_eq) | (with_reducible apply heap_drew_of) | (with_reducible apply heap_drewN_of)))); (focus (first | (simp; done) | (simp; assumption))); intro hg21 hc21 hz21 _ _ _ _ _; (try simp only [List.setIfInBounds_toArray, List.set_cons_zero, List.set_cons_succ] at hg21 hc21); (have z0 := (hSv.fr.cell (off := f * 2) hbs).trans c0); (have z1 := (hSv.fr.cell (off := f * 2 + 1) hbs).trans c1); clear hsh hdv; go_wp2_with fail; exact StepPost.mk rfl (AlS.plain hSv (by decide) (by repeat' (first | (with_reducible exact Fr.refl _ _) | (with_reducible assumption) | (with_reducible refine Fr.drew ?_) | (with_reducible refine Fr.drewN ?_ _) | (with_reducible refine Fr.alloc ?_ _) | ((with_reducible refine Fr.setNew ?_ _ ?_ _); rotate_left; (focus (first | (with_reducible assumption) | exact Nat.le_of_lt (by with_reducible assumption) | (focus (simp +arith; done)) | exact Nat.le_trans (by with_reducible assumption) (by simp +arith; done) | (simp; done)))) | ((with_reducible refine Fr.setOld ?_ _ ?_ _); rotate_left; (focus (simp; done)))))))); (try simp only [Act.put, List.setIfInBounds_toArray, List.set_cons_zero, List.set_cons_succ, Nat.reduceAdd, Nat.zero_add])))
    apply SeqV.var; (focus (intro Vv bv wv hbv hdv hsh hSv; have bst := shut_no hsh hbv 10 (by kernel_rfl); clear hsh hdv; go_wp2_with fail; exact StepV.mk _ rfl (AlS.alloc hSv (by decide) bst (by repeat' (first | (with_reducible exact Fr.refl _ _) | (with_reducible assumption) | (with_reducible refine Fr.drew ?_) | (with_reducible refine Fr.drewN ?_ _) | (with_reducible refine Fr.alloc ?_ _) | ((with_reducible refine Fr.setNew ?_ _ ?_ _); rotate_left; (focus (first | (with_reducible assumption) | exact Nat.le_of_lt (by with_reducible assumption) | (focus (simp +arith; done)) | exact Nat.le_trans (by with_reducible assumption) (by simp +arith; done) | (simp; done)))) | ((with_reducible refine Fr.setOld ?_ _ ?_ _); rotate_left; (focus (simp; done))))) (Nat.le_refl _) (by (apply heap_eq_of; (focus (repeat (first | (with_reducible assumption) | ((with_reducible refine heap_alloc_at ?_ _); first | (with_reducible rfl) | (focus (simp; done))) | (with_reducible apply heap_alloc_old) | ((with_reducible apply heap_set_other); (case hne => (first | (with_reducible assumption) | exact Nat.ne_of_lt (by with_reducible assumption) | exact Nat.ne_of_gt (by with_reducible assumption) | (focus (simp +arith; done)) | (simp; done)))) | (with_reducible apply heap_set_eq) | (with_reducible apply heap_drew_of) | (with_reducible apply heap_drewN_of)))); (focus (first | (simp; done) | rfl))))))); (try simp only [Act.put, List.setIfInBounds_toArray, List.set_cons_zero, List.set_cons_succ, Nat.reduceAdd, Nat.zero_add])
    apply SeqV.cons (v := undef); (focus (intro Vv bv wv hbv hdv hsh hSv; obtain ⟨q, hq1, hq2, hq3⟩ := AlS.at hSv (hdv { on := 9, ground := .data } (by simp) rfl) hbv; apply blk_use hq3; intro hg21 hc21 hz21 _ _ _ _ _; clear hsh hdv; go_wp2_with fail; exact StepPost.mk rfl (AlS.store hSv (by decide) hq1 hq2 (by repeat' (first | (with_reducible exact Fr.refl _ _) | (with_reducible assumption) | (with_reducible refine Fr.drew ?_) | (with_reducible refine Fr.drewN ?_ _) | (with_reducible refine Fr.alloc ?_ _) | ((with_reducible refine Fr.setNew ?_ _ ?_ _); rotate_left; (focus (first | (with_reducible assumption) | exact Nat.le_of_lt (by with_reducible assumption) | (focus (simp +arith; done)) | exact Nat.le_trans (by with_reducible assumption) (by simp +arith; done) | (simp; done)))) | ((with_reducible refine Fr.setOld ?_ _ ?_ _); rotate_left; (focus (simp; done))))) (by (apply heap_eq_of; (focus (repeat (first | (with_reducible assumption) | ((with_reducible refine heap_alloc_at ?_ _); first | (with_reducible rfl) | (focus (simp; done))) | (with_reducible apply heap_alloc_old) | ((with_reducible apply heap_set_other); (case hne => (first | (with_reducible assumption) | exact Nat.ne_of_lt (by with_reducible assumption) | exact Nat.ne_of_gt (by with_reducible assumption) | (focus (simp +arith; done)) | (simp; done)))) | (with_reducible apply heap_set_eq) | (with_reducible apply heap_drew_of) | (with_reducible apply heap_drewN_of)))); (focus (first | (simp; done) | rfl))))))); (try simp only [Act.put, List.setIfInBounds_toArray, List.set_cons_zero, List.set_cons_succ, Nat.reduceAdd, Nat.zero_add])
    refine SeqV.nil ?_
    intro Vv bv w5 hb5 hSv
    obtain ⟨q, hq1, hq2, hq3⟩ := AlS.done hSv (hb5 9 (by decide)) (hb5 10 (by decide))
    have F5 := hSv.fr
    apply blk_use hq3; intro hg5 hc5 hz5 _ _ _ _ _
    clear hSv hb5
    go_wp2_with fail
    go_region
    go_wp2_with fail
    go_ret2
    exact ⟨by rw [E.out]; rfl, (by repeat' (first | (with_reducible exact Fr.refl _ _) | (with_reducible assumption) | (with_reducible refine Fr.drew ?_) | (with_reducible refine Fr.drewN ?_ _) | (with_reducible refine Fr.alloc ?_ _) | ((with_reducible refine Fr.setNew ?_ _ ?_ _); rotate_left; (focus (first | (with_reducible assumption) | exact Nat.le_of_lt (by with_reducible assumption) | (focus (simp +arith; done)) | exact Nat.le_trans (by with_reducible assumption) (by simp +arith; done) | (simp; done)))) | ((with_reducible refine Fr.setOld ?_ _ ?_ _); rotate_left; (focus (simp; done)))))⟩
end
end Go.Proofs.Ytobekkgaildbgaa
