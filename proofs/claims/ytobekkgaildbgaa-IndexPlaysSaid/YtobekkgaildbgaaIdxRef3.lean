/- The reference of package index: Del. -/
import Derived.Test.YtobekkgaildbgaaIdxRef2
namespace Go.Proofs.Ytobekkgaildbgaa
open Go.RowKit

section
variable {w w' : World} {r bi bk bn N : Nat} {T : Tb} {K V : Nat → Int} {c : Int}
set_option maxRecDepth 100000 in
set_option maxHeartbeats 4000000 in
theorem rx_del_no (hk : IOk N T c) (hA : Agr N T K V) (key : Int) (hg : (getL N T key).2 = false) (H : RIx w r bi bk bn N T K V) :
    Calls Try.prog 20 #[.pointer (some ⟨r, 0, none⟩), .int .i64 key] w fun e w' => e = .returned (.bool false) ∧ w = w' := by
  have HAt := Lib.hid (rx_at (w := w) hk hA key H)
  rw [atL_no hg] at HAt
  clear H hk hA hg
  go_enter Try.func20, Try.ntmps20
  go_wp2_with fail
  with_reducible refine HAt.out.mono ?_
  rintro e w1 ⟨rfl, rfl⟩
  go_wp2_with fail
  go_ret
  exact ⟨rfl, rfl⟩

set_option maxRecDepth 100000 in
set_option maxHeartbeats 8000000 in
theorem rx_del (hk : IOk N T c) (hA : Agr N T K V) (key : Int) (e : Nat) (hg : (getL N T key).2 = true) (he : Hole N T (findL N T (key + 1)) e) (H : RIx w r bi bk bn N T K V) :
    Calls Try.prog 20 #[.pointer (some ⟨r, 0, none⟩), .int .i64 key] w fun e' w' => (∃ K' V', e' = .returned (.bool true) ∧ RIx w' r bi bk bn N (delU N T (findL N T (key + 1)) e) K' V' ∧ Agr N (delU N T (findL N T (key + 1)) e) K' V') ∧ Fr [bi, bk, bn] w w' := by
  have fol : Try.prog.follows .mixedOrders = true := by kernel_rfl
  have HAt := Lib.hid (rx_at (w := w) hk hA key H)
  rw [atL_yes hg] at HAt
  obtain ⟨_, hp⟩ := getL_true hg
  have HX := H.hr
  have HH := Lib.hid H
  have hN := hk.le
  have hN2 := hk.ok.pos
  have n1' : (N : Int) ≤ 256 := by omega
  have n0' : 0 < (N : Int) := by omega
  have hl := hk.ok.len
  have hfl := (hk.found (key + 1)).lt
  have HA := Lib.hid hA
  generalize findL N T (key + 1) = f at *
  have HE := Lib.hid he
  have HIT := Lib.hid (dj_it he hp)
  have HDU : Hid (delU N T f e = delIt N f (T.set f (0, 0)) (dist N f e - 1)) := rfl
  generalize delU N T f e = UU at *
  have hd0 : Hid (0 < dist N f e) := by
    unfold Hid
    rcases Nat.eq_zero_or_pos (dist N f e) with q | q
    · exact absurd (dist_inj he.il he.el he.il (by rw [q, dist_self])) he.ne
    · exact q
  obtain ⟨z0, _, _⟩ := H.frz f
  obtain ⟨c0, _, _⟩ := H.cell hfl
  have hf' : (f : Int) < N := by omega
  have I5 := Lib.hid (H.setIs hl hfl (0, 0) (β := false) rfl)
  have A5 := Lib.hid (hA.del hl hfl)
  have hxb := H.ne.1
  have hxb' := Ne.symm hxb
  clear H hk hA hg hp he hl
  apply blk_use HX; intro hg1 hc1 hz1 _ _ _ _ _
  go_enter Try.func20, Try.ntmps20
  go_wp2_with fail
  with_reducible refine HAt.out.mono ?_
  rintro e' w1 ⟨rfl, rfl⟩
  go_wp2_with fail
  have F5 : Fr [bi, bk, bn] w (w.setCell ⟨bi, f, none⟩ (.bool false)) := (by repeat' (first | (with_reducible exact Fr.refl _ _) | (with_reducible assumption) | (with_reducible refine Fr.drew ?_) | (with_reducible refine Fr.drewN ?_ _) | (with_reducible refine Fr.alloc ?_ _) | ((with_reducible refine Fr.setNew ?_ _ ?_ _); rotate_left; (focus (first | (with_reducible assumption) | exact Nat.le_of_lt (by with_reducible assumption) | (focus (simp +arith; done)) | exact Nat.le_trans (by with_reducible assumption) (by simp +arith; done) | (simp; done)))) | ((with_reducible refine Fr.setOld ?_ _ ?_ _); rotate_left; (focus (simp; done)))))
  obtain ⟨w5, hw5⟩ : ∃ y, y = w.setCell ⟨bi, f, none⟩ (.bool false) := ⟨_, rfl⟩
  rw [← hw5] at I5 F5 ⊢
  clear hw5 hg1 hc1 hz1 c0 z0
  go_loopw [7] (fun v wr => ∃ (q : Nat) (K' V' : Nat → Int), v = .int .i64 q ∧ 1 ≤ q ∧ q ≤ dist N f e ∧ RIx wr r bi bk bn N (delIt N f (T.set f (0, 0)) (q - 1)) K' V' ∧ Agr N (delIt N f (T.set f (0, 0)) (q - 1)) K' V' ∧ Fr [bi, bk, bn] w wr) (fun v _ => N + 1 - (intOf v).toNat)
  case atStart => exact ⟨1, K, V, rfl, by omega, hd0.out, I5.out, A5.out, F5⟩
  case round =>
    clear I5 F5 A5
    obtain ⟨q, K', V', rfl, q1, q2, I5, A5, F5⟩ := hrel
    have hfe := dist_lt hfl HE.out.el
    have hyN : Go.Proofs.Ytobekkgaildbgaa.wr N (f + q) < N := wr_lt (by omega) (by omega)
    have D := HIT.out (q - 1) (by omega)
    rw [show q - 1 + 1 = q by omega] at D
    have hlU := D.di.len
    have hw2 : ((f : Int) + (q : Int)) % (N : Int) = (Go.Proofs.Ytobekkgaildbgaa.wr N (f + q) : Nat) := by
      have := wr_emod (N := N) (a := f + q) (by omega) (by omega)
      rw [← this]; simp
    have HX5 := I5.hr
    obtain ⟨d0, d1, d2⟩ := I5.cell hyN
    obtain ⟨zz0, zz1, zz2⟩ := I5.frz (Go.Proofs.Ytobekkgaildbgaa.wr N (f + q))
    have lt5 := I5.lt
    have I5' := Lib.hid I5
    have A5' := Lib.hid A5
    have hqN : (q : Int) < N := by omega
    have hU' : Hid (q < dist N f e → delIt N f (T.set f (0, 0)) (q + 1 - 1) = delStep N (delIt N f (T.set f (0, 0)) (q - 1)) (Go.Proofs.Ytobekkgaildbgaa.wr N (f + q))) := by
      unfold Hid; intro _
      obtain ⟨k, rfl⟩ : ∃ k, q = k + 1 := ⟨q - 1, by omega⟩
      rfl
    have hUe : Hid (q = dist N f e → UU = delIt N f (T.set f (0, 0)) (q - 1)) := by
      unfold Hid; intro h; rw [HDU.out, ← h]
    have hst := D.di.step HE.out
    have hye : Hid (q = dist N f e → Go.Proofs.Ytobekkgaildbgaa.wr N (f + q) = e) := by
      unfold Hid; rintro h; rw [h, wr_dist hfl HE.out.el]
    have hun := D.di.un
    generalize delIt N f (T.set f (0, 0)) (q - 1) = U at *
    generalize hy : Go.Proofs.Ytobekkgaildbgaa.wr N (f + q) = y at *
    have hy' : (y : Int) < N := by omega
    have hfr : Fr [] wr wr := Fr.refl _ _
    by_cases hke : q < dist N f e
    · obtain ⟨s1, s2, s3, s4, s5⟩ := hst hke
      have hU9 := hU'.out hke
      have wfy := D.di.wf y hyN
      obtain ⟨a1, a2⟩ := A5 y hyN s2
      have hfl2 := s4.lt
      have hh := hm_lt (gt U y).1 (by omega : 0 < N)
      have hwd := wr_dist hh hfl2
      have hdl := dist_lt hh hfl2
      have hks : K' y + 1 = (gt U y).1 := by omega
      have hpair : (K' y + 1, V' y) = gt U y := by rw [hks, a2]
      have AD := Lib.hid ((A5.del hlU hyN).set (by simp [hlU]) hfl2 (K' y) (V' y))
      have HLay := Lib.hid (fun w' (h : RIx w' r bi bk bn N (U.set y (0, 0)) K' V') => rx_lay (w := w') (K' y) (V' y) (dist N (hm N (gt U y).1) (findL N (U.set y (0, 0)) (gt U y).1)) hdl hN (by omega) (by omega) (by simp [hlU]) (by rw [hks, hwd, s5]; exact Int.le_refl _) (fun i hi => by
        rw [hks]
        have h1 := (s4.no i hi).1
        have hz : Go.Proofs.Ytobekkgaildbgaa.wr N (hm N (gt U y).1 + i) < N := wr_lt (by omega) (by omega)
        rw [gt_set2 hlU hyN] at h1 ⊢
        by_cases e1 : Go.Proofs.Ytobekkgaildbgaa.wr N (hm N (gt U y).1 + i) = y
        · rw [if_pos e1] at h1; exact absurd rfl h1
        · rw [if_neg e1] at h1 ⊢
          have w := D.di.wf _ hz
          rcases Int.lt_or_eq_of_le w.1 with q | q
          · exact q
          · exact absurd (w.2.2 q.symm) h1) h)
      rw [hks, hwd] at HLay
      have hpair2 : ((gt U y).1, V' y) = gt U y := by rw [a2]
      rw [hpair] at AD
      rw [hpair2] at HLay
      have hdst : Hid (delStep N U y = (U.set y (0, 0)).set (findL N (U.set y (0, 0)) (gt U y).1) (gt U y)) := rfl
      generalize (U.set y (0, 0)).set (findL N (U.set y (0, 0)) (gt U y).1) (gt U y) = U2 at *
      generalize findL N (U.set y (0, 0)) (gt U y).1 = f2 at *
      have hq0 : decide (0 < (gt U y).1) = true := by simpa using s2
      rw [hq0] at d0
      have HU9 : Hid (delIt N f (T.set f (0, 0)) (q + 1 - 1) = U2) := by unfold Hid; rw [hU9, hdst.out]
      have HlU := Lib.hid hlU
      clear hq0 hst hun hye hUe hU' hU9 s1 s2 s3 s4 s5 D wfy a1 a2 hks hpair hpair2 hwd hdl hh hfl2 hdst hlU hy
      go_wp2_with fail
      refine wp_region_seqV_lit (fun _ _ w' => Fr [] wr w') fol (by kernel_rfl) (Fr.refl _ _).drew ?_
      (repeat (first | (apply SeqV.cons; (focus (intro Vv bv wv hbv hdv hsh hSv; (have hx := hSv.heap HX5 (by simp)); apply blk_use hx; intro hg21 hc21 hz21 _ _ _ _ _; (have g0 := (hSv.cell (off := y) lt5.2.1).trans d0); go_wp2_with (fail); exact StepPost.mk rfl (Fr.trans (S := []) hSv (by repeat' (first | (with_reducible exact Fr.refl _ _) | (with_reducible assumption) | (with_reducible refine Fr.drew ?_) | (with_reducible refine Fr.drewN ?_ _) | (with_reducible refine Fr.alloc ?_ _) | ((with_reducible refine Fr.setNew ?_ _ ?_ _); rotate_left; (focus (first | (with_reducible assumption) | exact Nat.le_of_lt (by with_reducible assumption) | (focus (simp +arith; done)) | exact Nat.le_trans (by with_reducible assumption) (by simp +arith; done) | (simp; done)))) | ((with_reducible refine Fr.setOld ?_ _ ?_ _); rotate_left; (focus (simp; done)))))))); (try simp only [Act.put, List.setIfInBounds_toArray, List.set_cons_zero, List.set_cons_succ, Nat.reduceAdd, Nat.zero_add])) | (apply SeqV.cons (v := undef); (focus (intro Vv bv wv hbv hdv hsh hSv; (have hx := hSv.heap HX5 (by simp)); apply blk_use hx; intro hg21 hc21 hz21 _ _ _ _ _; (have g0 := (hSv.cell (off := y) lt5.2.1).trans d0); go_wp2_with (fail); exact StepPost.mk rfl (Fr.trans (S := []) hSv (by repeat' (first | (with_reducible exact Fr.refl _ _) | (with_reducible assumption) | (with_reducible refine Fr.drew ?_) | (with_reducible refine Fr.drewN ?_ _) | (with_reducible refine Fr.alloc ?_ _) | ((with_reducible refine Fr.setNew ?_ _ ?_ _); rotate_left; (focus (first | (with_reducible assumption) | exact Nat.le_of_lt (by with_reducible assumption) | (focus (simp +arith; done)) | exact Nat.le_trans (by with_reducible assumption) (by simp +arith; done) | (simp; done)))) | ((with_reducible refine Fr.setOld ?_ _ ?_ _); rotate_left; (focus (simp; done)))))))); (try simp only [Act.put, List.setIfInBounds_toArray, List.set_cons_zero, List.set_cons_succ, Nat.reduceAdd, Nat.zero_add]))))
      refine SeqV.nil ?_
      intro Vv bv w7 hb7 hSv
      have I7 := I5'.out.fr hSv (by simp) (by simp) (by simp) (by simp)
      have F7 := F5.trans (hSv.mono (by simp))
      have HX7 := I7.hr
      obtain ⟨y0, y1, y2⟩ := I7.cell hyN
      obtain ⟨x0, x1, x2⟩ := I7.frz y
      have I8 := I7.setIs HlU.out hyN (0, 0) (β := false) rfl
      clear hb7 hSv d0 d1 d2 zz0 zz1 zz2 hfr I5 A5
      apply blk_use HX7; intro hg7 hc7 hz7 _ _ _ _ _
      go_wp2_with fail
      have F8 : Fr [bi, bk, bn] w (w7.setCell ⟨bi, y, none⟩ (.bool false)) := (by repeat' (first | (with_reducible exact Fr.refl _ _) | (with_reducible assumption) | (with_reducible refine Fr.drew ?_) | (with_reducible refine Fr.drewN ?_ _) | (with_reducible refine Fr.alloc ?_ _) | ((with_reducible refine Fr.setNew ?_ _ ?_ _); rotate_left; (focus (first | (with_reducible assumption) | exact Nat.le_of_lt (by with_reducible assumption) | (focus (simp +arith; done)) | exact Nat.le_trans (by with_reducible assumption) (by simp +arith; done) | (simp; done)))) | ((with_reducible refine Fr.setOld ?_ _ ?_ _); rotate_left; (focus (simp; done)))))
      have lt7 := I8.lt
      obtain ⟨w8, hw8⟩ : ∃ w8, w8 = w7.setCell ⟨bi, y, none⟩ (.bool false) := ⟨_, rfl⟩
      rw [← hw8] at I8 F8 lt7 ⊢
      have HI8 := Lib.hid I8
      have HX8 := I8.hr
      obtain ⟨_, v1, v2⟩ := I8.cell hyN
      clear hw8 hg7 hc7 hz7 y0 y1 y2 x0 x1 x2 I7 HX7 I8
      rw [hw2]
      refine wp_region_seqV_lit (FinS 15 (Fr [] w8) (fun w' => Fr [bi, bk, bn] w8 w' ∧ RIx w' r bi bk bn N U2 (upf K' f2 (K' y)) (upf V' f2 (V' y)))) fol (by kernel_rfl) (FinS.start (Fr.refl _ _).drew) ?_
      (repeat (apply SeqV.cons; (focus (intro Vv bv wv hbv hdv hsh hSv; have bst := shut_no hsh hbv 15 (by kernel_rfl); have s0 := FinS.pre hSv bst; clear hsh hdv; (have hx := s0.heap HX8 (by simp)); apply blk_use hx; intro hg21 hc21 hz21 _ _ _ _ _; (have g1 := (s0.cell (off := y) lt7.2.2.1).trans v1); (have g2 := (s0.cell (off := y) lt7.2.2.2).trans v2); go_wp2_with fail; exact StepPost.mk rfl (FinS.plain (by decide) bst (Fr.trans s0 (by repeat' (first | (with_reducible exact Fr.refl _ _) | (with_reducible assumption) | (with_reducible refine Fr.drew ?_) | (with_reducible refine Fr.drewN ?_ _) | (with_reducible refine Fr.alloc ?_ _) | ((with_reducible refine Fr.setNew ?_ _ ?_ _); rotate_left; (focus (first | (with_reducible assumption) | exact Nat.le_of_lt (by with_reducible assumption) | (focus (simp +arith; done)) | exact Nat.le_trans (by with_reducible assumption) (by simp +arith; done) | (simp; done)))) | ((with_reducible refine Fr.setOld ?_ _ ?_ _); rotate_left; (focus (simp; done))))))))); (try simp only [Act.put, List.setIfInBounds_toArray, List.set_cons_zero, List.set_cons_succ, Nat.reduceAdd, Nat.zero_add])))
      apply SeqV.cons (v := .tuple #[]); (focus (intro Vv bv wv hbv hdv hsh hSv; have s0 := FinS.pre hSv hbv; clear hsh hdv; go_wp2_with fail; with_reducible refine (HLay.out _ (HI8.out.fr s0 (by simp) (by simp) (by simp) (by simp))).mono ?_; rintro e ww ⟨rfl, J8, f8⟩; go_wp2_with fail; exact StepPost.mk rfl (FinS.fin ⟨(s0.mono (by simp)).trans f8, J8⟩))); (try simp only [Act.put, List.setIfInBounds_toArray, List.set_cons_zero, List.set_cons_succ, Nat.reduceAdd, Nat.zero_add])
      refine SeqV.nil ?_
      intro Vv bv w9 hb9 hSv
      obtain ⟨f9, J9⟩ := FinS.end_ hSv (hb9 15 (by decide))
      have F9 := F8.trans f9
      clear hSv hb9 f9
      go_wp2_with fail
      go_roundw
      case rel => exact ⟨q + 1, _, _, by go_num, by omega, by omega, by rw [HU9.out]; exact J9, by rw [HU9.out]; exact AD.out, F9⟩
      case measure => simp [intOf]; omega
    · have hqe : q = dist N f e := by omega
      have hye' := hye.out hqe
      have hue : gt U y = (0, 0) := by rw [hye', hun e HE.out.el (by omega), HE.out.em]
      rw [hue] at d0
      have hq0 : decide (0 < ((0 : Int), (0 : Int)).1) = false := by decide
      rw [hq0] at d0
      have HUU := Lib.hid (hUe.out hqe)
      clear hq0 hst hun hye hUe hU' D hy hqe hye' hue hke
      go_wp2_with fail
      refine wp_region_seqV_lit (fun _ _ w' => Fr [] wr w') fol (by kernel_rfl) (Fr.refl _ _).drew ?_
      (repeat (first | (apply SeqV.cons; (focus (intro Vv bv wv hbv hdv hsh hSv; (have hx := hSv.heap HX5 (by simp)); apply blk_use hx; intro hg21 hc21 hz21 _ _ _ _ _; (have g0 := (hSv.cell (off := y) lt5.2.1).trans d0); go_wp2_with (fail); exact StepPost.mk rfl (Fr.trans (S := []) hSv (by repeat' (first | (with_reducible exact Fr.refl _ _) | (with_reducible assumption) | (with_reducible refine Fr.drew ?_) | (with_reducible refine Fr.drewN ?_ _) | (with_reducible refine Fr.alloc ?_ _) | ((with_reducible refine Fr.setNew ?_ _ ?_ _); rotate_left; (focus (first | (with_reducible assumption) | exact Nat.le_of_lt (by with_reducible assumption) | (focus (simp +arith; done)) | exact Nat.le_trans (by with_reducible assumption) (by simp +arith; done) | (simp; done)))) | ((with_reducible refine Fr.setOld ?_ _ ?_ _); rotate_left; (focus (simp; done)))))))); (try simp only [Act.put, List.setIfInBounds_toArray, List.set_cons_zero, List.set_cons_succ, Nat.reduceAdd, Nat.zero_add])) | (apply SeqV.cons (v := undef); (focus (intro Vv bv wv hbv hdv hsh hSv; (have hx := hSv.heap HX5 (by simp)); apply blk_use hx; intro hg21 hc21 hz21 _ _ _ _ _; (have g0 := (hSv.cell (off := y) lt5.2.1).trans d0); go_wp2_with (fail); exact StepPost.mk rfl (Fr.trans (S := []) hSv (by repeat' (first | (with_reducible exact Fr.refl _ _) | (with_reducible assumption) | (with_reducible refine Fr.drew ?_) | (with_reducible refine Fr.drewN ?_ _) | (with_reducible refine Fr.alloc ?_ _) | ((with_reducible refine Fr.setNew ?_ _ ?_ _); rotate_left; (focus (first | (with_reducible assumption) | exact Nat.le_of_lt (by with_reducible assumption) | (focus (simp +arith; done)) | exact Nat.le_trans (by with_reducible assumption) (by simp +arith; done) | (simp; done)))) | ((with_reducible refine Fr.setOld ?_ _ ?_ _); rotate_left; (focus (simp; done)))))))); (try simp only [Act.put, List.setIfInBounds_toArray, List.set_cons_zero, List.set_cons_succ, Nat.reduceAdd, Nat.zero_add]))))
      refine SeqV.nil ?_
      intro Vv bv w7 hb7 hSv
      have I7 := I5'.out.fr hSv (by simp) (by simp) (by simp) (by simp)
      have F7 := F5.trans (hSv.mono (by simp))
      clear hb7 hSv
      go_wp2_with fail
      go_ret
      exact ⟨⟨_, _, rfl, by rw [HUU.out]; exact I7, by rw [HUU.out]; exact A5'.out⟩, F7⟩
end
end Go.Proofs.Ytobekkgaildbgaa
