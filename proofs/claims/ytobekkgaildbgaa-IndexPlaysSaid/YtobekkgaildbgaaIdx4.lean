/- Package index: Del. -/
import Derived.Test.YtobekkgaildbgaaIdx3
namespace Go.Proofs.Ytobekkgaildbgaa
open Go.RowKit

section
variable {x b N : Nat} {T : Tb} {c : Int} {w : World}
set_option maxRecDepth 100000 in
set_option maxHeartbeats 4000000 in
theorem idx_del_no (key : Int) (hk : IOk N T c) (hn : (getL N T key).2 = false) (H : IdxAt w x b N T c) :
    Calls Try.prog 19 #[.pointer (some ⟨x, 0, none⟩), .int .i64 key] w fun e w' => e = .returned (.bool false) ∧ w = w' := by
  have HR := fun w => idx_right (w := w) key
  have HH := Lib.hid H
  by_cases hr : rightK key = false
  · rw [hr] at HR
    have HR := Lib.hid HR
    clear H hk hr
    go_enter Try.func19, Try.ntmps19
    go_wp2_with fail
    with_reducible refine (HR.out _).mono ?_
    rintro e' w' ⟨rfl, rfl⟩
    go_wp2_with fail
    go_ret
    exact ⟨rfl, rfl⟩
  · have hr' : rightK key = true := by simpa using hr
    obtain ⟨k0, k1⟩ := rightK_of hr'
    unfold getL at hn
    rw [if_neg hr] at hn
    simp only [decide_eq_false_iff_not] at hn
    rw [hr'] at HR
    have HR := Lib.hid HR
    have HF := Lib.hid (find_of (x := x) (b := b) hk key k0 k1 rfl)
    have hfl := (hk.found (key + 1)).lt
    obtain ⟨c0, c1⟩ := H.cell (i := findL N T (key + 1)) (by rw [hk.ok.len]; exact hfl)
    have w0 := (hk.ok.wf _ hfl).1
    have e0 : (gt T (findL N T (key + 1))).1 = 0 := by omega
    rw [e0] at c0
    have HX := H.hx
    generalize findL N T (key + 1) = f at *
    generalize (gt T f).2 = g at *
    have hfl' : (f : Int) < N := by omega
    clear H hk hr hr' e0 w0 hn
    apply blk_use HX; intro hg1 hc1 hz1 _ _ _ _ _
    go_enter Try.func19, Try.ntmps19
    go_wp2_with fail
    with_reducible refine (HR.out _).mono ?_
    rintro e' w' ⟨rfl, rfl⟩
    go_wp2_with fail
    with_reducible refine (HF.out _ HH.out).mono ?_
    rintro e' w' ⟨rfl, rfl⟩
    go_wp2_with fail
    go_ret
    exact ⟨rfl, rfl⟩

set_option maxRecDepth 100000 in
set_option maxHeartbeats 8000000 in
theorem idx_del_ok (key : Int) (e : Nat) (hk : IOk N T c) (hn : (getL N T key).2 = true) (he : Hole N T (findL N T (key + 1)) e) (H : IdxAt w x b N T c) :
    Calls Try.prog 19 #[.pointer (some ⟨x, 0, none⟩), .int .i64 key] w fun e' w' => e' = .returned (.bool true) ∧ IdxAt w' x b N (delU N T (findL N T (key + 1)) e) (c - 1) ∧ Fr [x, b] w w' := by
  have fol : Try.prog.follows .mixedOrders = true := by kernel_rfl
  have HR := fun w => idx_right (w := w) key
  have HH := Lib.hid H
  have hr : ¬ rightK key = false := fun q => by unfold getL at hn; rw [if_pos q] at hn; cases hn
  have hr' : rightK key = true := by simpa using hr
  obtain ⟨k0, k1⟩ := rightK_of hr'
  unfold getL at hn
  rw [if_neg hr] at hn
  simp only [decide_eq_true_eq] at hn
  rw [hr'] at HR
  have HR := Lib.hid HR
  have HF := Lib.hid (find_of (x := x) (b := b) hk key k0 k1 rfl)
  have hfl := (hk.found (key + 1)).lt
  obtain ⟨c0, c1⟩ := H.cell (i := findL N T (key + 1)) (by rw [hk.ok.len]; exact hfl)
  have HX := H.hx
  have hz := H.frz
  have hlen := hk.ok.len
  obtain ⟨n0, n1⟩ := pow_le hk.pw
  have n0' : 0 < (N : Int) := by omega
  have n1' : (N : Int) ≤ 256 := by omega
  have HPW := Lib.hid hk.pw
  have hcn : 0 ≤ c ∧ c < N := by have := hk.cn; have := hk.lt; omega
  have hne := H.ne
  obtain ⟨hc0, hc9⟩ := hcn
  generalize findL N T (key + 1) = f at *
  have HE := Lib.hid he
  have HIT := Lib.hid (dj_it he hn)
  have hlen' : Hid (f < T.length) := by unfold Hid; omega
  have hgf : ¬ (gt T f).1 = 0 := by omega
  have hgb : ((gt T f).1 == 0) = false := by rw [beq_eq_false_iff_ne]; exact hgf
  have hdu : Hid (delU N T f e = delIt N f (T.set f (0, 0)) (dist N f e - 1)) := rfl
  generalize delU N T f e = UU at *
  generalize hgt : gt T f = g at *
  obtain ⟨g1, g2⟩ := g
  simp only at c0 c1 hgf hgb hn
  have hfl' : (f : Int) < N := by omega
  have hd0 : Hid (0 < dist N f e) := by
    unfold Hid
    rcases Nat.eq_zero_or_pos (dist N f e) with q | q
    · exact absurd (dist_inj he.il he.el he.il (by rw [q, dist_self])) he.ne
    · exact q
  clear H hk hr hr' hlen hgt he hgf
  apply blk_use HX; intro hg1 hc1 hz1 _ _ _ _ _
  go_enter Try.func19, Try.ntmps19
  go_wp2_with fail
  with_reducible refine (HR.out _).mono ?_
  rintro e' w' ⟨rfl, rfl⟩
  go_wp2_with fail
  with_reducible refine (HF.out _ HH.out).mono ?_
  rintro e' w' ⟨rfl, rfl⟩
  go_wp2_with fail
  have I5 := (HH.out.set hlen'.out (0, 0)).cnt (c - 1)
  have F5 : Fr [x, b] w (((w.setCell ⟨b, f * 2, none⟩ (.int .i64 0)).setCell ⟨b, f * 2 + 1, none⟩ (.int .i64 0)).setCell ⟨x, 1, none⟩ (.int .i64 (c - 1))) := (by repeat' (first | (with_reducible exact Fr.refl _ _) | (with_reducible assumption) | (with_reducible refine Fr.drew ?_) | (with_reducible refine Fr.drewN ?_ _) | (with_reducible refine Fr.alloc ?_ _) | ((with_reducible refine Fr.setNew ?_ _ ?_ _); rotate_left; (focus (first | (with_reducible assumption) | exact Nat.le_of_lt (by with_reducible assumption) | (focus (simp +arith; done)) | exact Nat.le_trans (by with_reducible assumption) (by simp +arith; done) | (simp; done)))) | ((with_reducible refine Fr.setOld ?_ _ ?_ _); rotate_left; (focus (simp; done)))))
  obtain ⟨w5, hw5⟩ : ∃ y, y = ((w.setCell ⟨b, f * 2, none⟩ (.int .i64 0)).setCell ⟨b, f * 2 + 1, none⟩ (.int .i64 0)).setCell ⟨x, 1, none⟩ (.int .i64 (c - 1)) := ⟨_, rfl⟩
  simp only at I5
  rw [← hw5] at I5 F5 ⊢
  clear hw5 hg1 hc1 hz1 c0 c1 hz
  with_reducible refine (idx_next HPW.out f hfl I5).mono ?_
  rintro e' w6 ⟨rfl, rfl⟩
  go_wp2_with fail
  go_loopw [5, 6] (fun v _ wr => ∃ k : Nat, v = .int .i64 (Go.Proofs.Ytobekkgaildbgaa.wr N (f + (k + 1)) : Nat) ∧ k + 1 ≤ dist N f e ∧ IdxAt wr x b N (delIt N f (T.set f (0, 0)) k) (c - 1) ∧ Fr [x, b] w wr) (fun v _ _ => N - dist N f (intOf v).toNat)
  case atStart => exact ⟨0, rfl, hd0.out, I5, F5⟩
  case round =>
    clear I5 F5
    obtain ⟨k, rfl, k1', I5, F5⟩ := hrel
    have hfe := dist_lt hfl HE.out.el
    have hyN : Go.Proofs.Ytobekkgaildbgaa.wr N (f + (k + 1)) < N := wr_lt (by omega) n0
    have hdy := dist_wr (h := f) (d := k + 1) hfl (by omega)
    have D := HIT.out k (by omega)
    have hnx : Hid (k + 1 < dist N f e → Go.Proofs.Ytobekkgaildbgaa.wr N (Go.Proofs.Ytobekkgaildbgaa.wr N (f + (k + 1)) + 1) = Go.Proofs.Ytobekkgaildbgaa.wr N (f + (k + 1 + 1))) := by
      unfold Hid; intro _; unfold Go.Proofs.Ytobekkgaildbgaa.wr; split <;> split <;> (try split) <;> (try split) <;> omega
    have hlU := D.di.len
    have I5' := Lib.hid I5
    have HX5 := I5.hx
    obtain ⟨d0, d1⟩ := I5.cell (i := Go.Proofs.Ytobekkgaildbgaa.wr N (f + (k + 1))) (by omega)
    have hz5 := I5.frz
    have lt5 := I5.lt
    generalize hU : delIt N f (T.set f (0, 0)) k = U at *
    generalize hy : Go.Proofs.Ytobekkgaildbgaa.wr N (f + (k + 1)) = y at *
    have hy' : (y : Int) < N := by omega
    by_cases hke : k + 1 < dist N f e
    · obtain ⟨s1, s2, s3, s4, s5⟩ := D.di.step HE.out hke
      rw [hy] at s2 s3 s4 s5
      have hst : Hid (delIt N f (T.set f (0, 0)) (k + 1) = delStep N U y) := by unfold Hid; rw [delIt, hU, hy]
      have wfy := D.di.wf y hyN
      have HF2 : ∀ w', IdxAt w' x b N (U.set y (0, 0)) (c - 1) → Calls Try.prog 49 #[.pointer (some ⟨x, 0, none⟩), .int .i64 ((gt U y).1 - 1)] w' fun e w'' => e = .returned (.int .i64 (findL N (U.set y (0, 0)) (gt U y).1 : Nat)) ∧ w' = w'' := by
        intro w' hw'
        have := idx_find (w := w') HPW.out ((gt U y).1 - 1) (by omega) (by omega) s3 (by rw [Int.sub_add_cancel]; exact s4) hw'
        rw [Int.sub_add_cancel] at this
        exact this
      have hfl2 := s4.lt
      have hds : Hid (delStep N U y = (U.set y (0, 0)).set (findL N (U.set y (0, 0)) (gt U y).1) (gt U y)) := rfl
      have hl2 : Hid (findL N (U.set y (0, 0)) (gt U y).1 < (U.set y (0, 0)).length) := by unfold Hid; rw [s3]; exact hfl2
      have hl1 : Hid (y < U.length) := by unfold Hid; omega
      generalize findL N (U.set y (0, 0)) (gt U y).1 = f2 at *
      generalize delStep N U y = U2 at *
      generalize gt U y = g at *
      obtain ⟨p1, p2⟩ := g
      simp only at d0 d1 s2 wfy HF2
      have HF2 := Lib.hid HF2
      have hf2' : (f2 : Int) < N := by omega
      obtain ⟨wf1, wf2, _⟩ := wfy
      have hw9 : wrap64 (p1 - 1) = p1 - 1 := by unfold wrap64; omega
      have HDJ := Lib.hid hdy
      clear D s1 s3 s4 s5 hU hy I5 hdy
      apply blk_use HX5; intro hg5 hc5 hz5 _ _ _ _ _
      have hbx : b ≠ wr.heap.size := by omega
      have hbx2 : b < wr.heap.size := lt5.2
      go_wp2_with fail
      have I7 : IdxAt (((wr.setCell ⟨b, y * 2, none⟩ (.int .i64 0)).setCell ⟨b, y * 2 + 1, none⟩ (.int .i64 0)).alloc (.cells #[.int .i64 p1, .int .i64 p2] 79)) x b N (U.set y (0, 0)) (c - 1) := (I5'.out.set hl1.out (0, 0)).fr (S := []) (by repeat' (first | (with_reducible exact Fr.refl _ _) | (with_reducible assumption) | (with_reducible refine Fr.drew ?_) | (with_reducible refine Fr.drewN ?_ _) | (with_reducible refine Fr.alloc ?_ _) | ((with_reducible refine Fr.setNew ?_ _ ?_ _); rotate_left; (focus (first | (with_reducible assumption) | exact Nat.le_of_lt (by with_reducible assumption) | (focus (simp +arith; done)) | exact Nat.le_trans (by with_reducible assumption) (by simp +arith; done) | (simp; done)))) | ((with_reducible refine Fr.setOld ?_ _ ?_ _); rotate_left; (focus (simp; done))))) (by simp) (by simp)
      have F7 : Fr [x, b] w (((wr.setCell ⟨b, y * 2, none⟩ (.int .i64 0)).setCell ⟨b, y * 2 + 1, none⟩ (.int .i64 0)).alloc (.cells #[.int .i64 p1, .int .i64 p2] 79)) := (by repeat' (first | (with_reducible exact Fr.refl _ _) | (with_reducible assumption) | (with_reducible refine Fr.drew ?_) | (with_reducible refine Fr.drewN ?_ _) | (with_reducible refine Fr.alloc ?_ _) | ((with_reducible refine Fr.setNew ?_ _ ?_ _); rotate_left; (focus (first | (with_reducible assumption) | exact Nat.le_of_lt (by with_reducible assumption) | (focus (simp +arith; done)) | exact Nat.le_trans (by with_reducible assumption) (by simp +arith; done) | (simp; done)))) | ((with_reducible refine Fr.setOld ?_ _ ?_ _); rotate_left; (focus (simp; done)))))
      have Q7 : (((wr.setCell ⟨b, y * 2, none⟩ (.int .i64 0)).setCell ⟨b, y * 2 + 1, none⟩ (.int .i64 0)).alloc (.cells #[.int .i64 p1, .int .i64 p2] 79)).heap[wr.heap.size]? = some (.cells #[.int .i64 p1, .int .i64 p2] 79) := heap_alloc_at (by simp [size_setCell]) _
      obtain ⟨w7, hw7⟩ : ∃ y', y' = (((wr.setCell ⟨b, y * 2, none⟩ (.int .i64 0)).setCell ⟨b, y * 2 + 1, none⟩ (.int .i64 0)).alloc (.cells #[.int .i64 p1, .int .i64 p2] 79)) := ⟨_, rfl⟩
      rw [← hw7] at I7 F7 Q7 ⊢
      have hqb : wr.heap.size ≠ b := Ne.symm hbx
      generalize wr.heap.size = qb at *
      clear hw7 hg5 hc5 hz5 d0 d1
      have H7 := Lib.hid I7
      refine wp_region_seqV_lit (FinS 11 (Fr [] w7) (fun w' => Fr [b] w7 w' ∧ IdxAt w' x b N U2 (c - 1))) fol (by kernel_rfl) (FinS.start (Fr.refl _ _).drew) ?_
      have HX7 := I7.hx
      clear I7
      (repeat (apply SeqV.cons; (focus (intro Vv bv wv hbv hdv hsh hSv; have bst := shut_no hsh hbv 11 (by kernel_rfl); have s0 := FinS.pre hSv bst; clear hsh hdv; apply s0.use (k := x); (focus (repeat (first | (with_reducible assumption) | ((with_reducible refine heap_alloc_at ?_ _); first | (with_reducible rfl) | (focus (simp; done))) | (with_reducible apply heap_alloc_old) | ((with_reducible apply heap_set_other); (case hne => (first | (with_reducible assumption) | exact Nat.ne_of_lt (by with_reducible assumption) | exact Nat.ne_of_gt (by with_reducible assumption) | (focus (simp +arith; done)) | (simp; done)))) | (with_reducible apply heap_set_eq) | (with_reducible apply heap_drew_of) | (with_reducible apply heap_drewN_of)))); (focus (first | (simp; done) | (simp; assumption))); intro hg21 hc21 hz21 _ _ _ _ _; (try simp only [List.setIfInBounds_toArray, List.set_cons_zero, List.set_cons_succ] at hg21 hc21); apply s0.use (k := qb); (focus (repeat (first | (with_reducible assumption) | ((with_reducible refine heap_alloc_at ?_ _); first | (with_reducible rfl) | (focus (simp; done))) | (with_reducible apply heap_alloc_old) | ((with_reducible apply heap_set_other); (case hne => (first | (with_reducible assumption) | exact Nat.ne_of_lt (by with_reducible assumption) | exact Nat.ne_of_gt (by with_reducible assumption) | (focus (simp +arith; done)) | (simp; done)))) | (with_reducible apply heap_set_eq) | (with_reducible apply heap_drew_of) | (with_reducible apply heap_drewN_of)))); (focus (first | (simp; done) | (simp; assumption))); intro hg22 hc22 hz22 _ _ _ _ _; (try simp only [List.setIfInBounds_toArray, List.set_cons_zero, List.set_cons_succ] at hg22 hc22); go_wp2_with fail; exact StepPost.mk rfl (FinS.plain (by decide) bst (Fr.trans s0 (by repeat' (first | (with_reducible exact Fr.refl _ _) | (with_reducible assumption) | (with_reducible refine Fr.drew ?_) | (with_reducible refine Fr.drewN ?_ _) | (with_reducible refine Fr.alloc ?_ _) | ((with_reducible refine Fr.setNew ?_ _ ?_ _); rotate_left; (focus (first | (with_reducible assumption) | exact Nat.le_of_lt (by with_reducible assumption) | (focus (simp +arith; done)) | exact Nat.le_trans (by with_reducible assumption) (by simp +arith; done) | (simp; done)))) | ((with_reducible refine Fr.setOld ?_ _ ?_ _); rotate_left; (focus (simp; done))))))))); (try simp only [Act.put, List.setIfInBounds_toArray, List.set_cons_zero, List.set_cons_succ, Nat.reduceAdd, Nat.zero_add])))
      apply SeqV.cons (v := .int .i64 (f2 : Nat)); (focus (intro Vv bv wv hbv hdv hsh hSv; have bst := shut_no hsh hbv 11 (by kernel_rfl); have s0 := FinS.pre hSv bst; go_wp2_with fail; with_reducible refine (HF2.out _ (H7.out.fr s0 (by simp) (by simp))).mono ?_; rintro e ww ⟨rfl, rfl⟩; go_wp2_with fail; exact StepPost.mk rfl (FinS.plain (by decide) bst s0))); (try simp only [Act.put, List.setIfInBounds_toArray, List.set_cons_zero, List.set_cons_succ, Nat.reduceAdd, Nat.zero_add])
      (repeat (apply SeqV.cons; (focus (intro Vv bv wv hbv hdv hsh hSv; have bst := shut_no hsh hbv 11 (by kernel_rfl); have s0 := FinS.pre hSv bst; clear hsh hdv; apply s0.use (k := x); (focus (repeat (first | (with_reducible assumption) | ((with_reducible refine heap_alloc_at ?_ _); first | (with_reducible rfl) | (focus (simp; done))) | (with_reducible apply heap_alloc_old) | ((with_reducible apply heap_set_other); (case hne => (first | (with_reducible assumption) | exact Nat.ne_of_lt (by with_reducible assumption) | exact Nat.ne_of_gt (by with_reducible assumption) | (focus (simp +arith; done)) | (simp; done)))) | (with_reducible apply heap_set_eq) | (with_reducible apply heap_drew_of) | (with_reducible apply heap_drewN_of)))); (focus (first | (simp; done) | (simp; assumption))); intro hg21 hc21 hz21 _ _ _ _ _; (try simp only [List.setIfInBounds_toArray, List.set_cons_zero, List.set_cons_succ] at hg21 hc21); apply s0.use (k := qb); (focus (repeat (first | (with_reducible assumption) | ((with_reducible refine heap_alloc_at ?_ _); first | (with_reducible rfl) | (focus (simp; done))) | (with_reducible apply heap_alloc_old) | ((with_reducible apply heap_set_other); (case hne => (first | (with_reducible assumption) | exact Nat.ne_of_lt (by with_reducible assumption) | exact Nat.ne_of_gt (by with_reducible assumption) | (focus (simp +arith; done)) | (simp; done)))) | (with_reducible apply heap_set_eq) | (with_reducible apply heap_drew_of) | (with_reducible apply heap_drewN_of)))); (focus (first | (simp; done) | (simp; assumption))); intro hg22 hc22 hz22 _ _ _ _ _; (try simp only [List.setIfInBounds_toArray, List.set_cons_zero, List.set_cons_succ] at hg22 hc22); go_wp2_with fail; exact StepPost.mk rfl (FinS.plain (by decide) bst (Fr.trans s0 (by repeat' (first | (with_reducible exact Fr.refl _ _) | (with_reducible assumption) | (with_reducible refine Fr.drew ?_) | (with_reducible refine Fr.drewN ?_ _) | (with_reducible refine Fr.alloc ?_ _) | ((with_reducible refine Fr.setNew ?_ _ ?_ _); rotate_left; (focus (first | (with_reducible assumption) | exact Nat.le_of_lt (by with_reducible assumption) | (focus (simp +arith; done)) | exact Nat.le_trans (by with_reducible assumption) (by simp +arith; done) | (simp; done)))) | ((with_reducible refine Fr.setOld ?_ _ ?_ _); rotate_left; (focus (simp; done))))))))); (try simp only [Act.put, List.setIfInBounds_toArray, List.set_cons_zero, List.set_cons_succ, Nat.reduceAdd, Nat.zero_add])))
      apply SeqV.cons (v := undef); (focus (intro Vv bv wv hbv hdv hsh hSv; have s0 := FinS.pre hSv hbv; (have I9 := H7.out.fr s0 (by simp) (by simp)); (have hz9 := I9.frz); (obtain ⟨e0, e1⟩ := I9.cell (i := f2) hl2.out); (have I9 := Lib.hid I9); go_wp2_with fail; exact StepPost.mk rfl (FinS.fin ⟨Fr.trans (s0.mono (by simp)) (by repeat' (first | (with_reducible exact Fr.refl _ _) | (with_reducible assumption) | (with_reducible refine Fr.drew ?_) | (with_reducible refine Fr.drewN ?_ _) | (with_reducible refine Fr.alloc ?_ _) | ((with_reducible refine Fr.setNew ?_ _ ?_ _); rotate_left; (focus (first | (with_reducible assumption) | exact Nat.le_of_lt (by with_reducible assumption) | (focus (simp +arith; done)) | exact Nat.le_trans (by with_reducible assumption) (by simp +arith; done) | (simp; done)))) | ((with_reducible refine Fr.setOld ?_ _ ?_ _); rotate_left; (focus (simp; done))))), by rw [hds.out]; exact I9.out.set hl2.out (p1, p2)⟩))); (try simp only [Act.put, List.setIfInBounds_toArray, List.set_cons_zero, List.set_cons_succ, Nat.reduceAdd, Nat.zero_add])
      refine SeqV.nil ?_
      intro Vv bv w8 hb8 hSv
      obtain ⟨F8, I8⟩ := FinS.end_ hSv (hb8 11 (by decide))
      have F9 : Fr [x, b] w w8 := F7.trans' F8 (by simp)
      clear hSv hb8
      go_wp2_with fail
      with_reducible refine (idx_next HPW.out y hyN I8).mono ?_
      rintro e' w6 ⟨rfl, rfl⟩
      go_wp2_with fail
      go_roundw
      case rel => exact ⟨k + 1, by rw [hnx.out hke], by omega, by rw [hst.out]; exact I8, F9⟩
      case measure =>
        have hd2 := dist_wr (N := N) (h := f) (d := k + 1 + 1) hfl (by omega)
        rw [hnx.out hke]
        simp only [intOf, Int.toNat_natCast]
        rw [hd2, HDJ.out]
        omega
    · have hk2 : k + 1 = dist N f e := by omega
      have hye : y = e := by rw [← hy, hk2, wr_dist hfl HE.out.el]
      have hue : gt U y = (0, 0) := by rw [hye, D.di.un e HE.out.el (by omega), HE.out.em]
      rw [hue] at d0 d1
      simp only at d0 d1
      have hUU : UU = U := by rw [hdu.out, show dist N f e - 1 = k by omega, hU]
      subst hUU
      clear D hy hU hye hue I5
      apply blk_use HX5; intro hg5 hc5 hz5 _ _ _ _ _
      go_wp2_with fail
      go_ret
      exact ⟨rfl, I5'.out, F5⟩
end
end Go.Proofs.Ytobekkgaildbgaa
