/- StreamRefuses answers true at every shape, script and step, and changes nothing that was there. -/
import Derived.Test.YtoapobhdpgcmbaaStrSame
namespace Go.Proofs.Ytoapobhdpgcmbaa
open Go.RowKit Go.Lib

theorem acc_bad {P : Prm} {f c : Int} (s : TS) (h : badA P f c) : accR P f c s = ⟨0, 0, 0, 1, s⟩ := by unfold accR; rw [if_pos h]
set_option maxRecDepth 100000 in
set_option maxHeartbeats 8000000 in
theorem srefuses_walk (h0 h1 h2 : Int) (A : Option Addr) (len cap : Nat) (k a b : Int) (wf0 : (Lit.int .u8 h0).wf = true) (wf1 : (Lit.int .u8 h1).wf = true) (wf2 : (Lit.int .u8 h2).wf = true) (hn : len ≤ maxLen) (w : World) (hA : IntsAt w [.i64, .i64, .i64] A len)
    (wk : (Lit.int .i64 k).wf = true) (wa : (Lit.int .i64 a).wf = true) (wb : (Lit.int .i64 b).wf = true) :
    Calls Try.prog 7 #[.agg #[.int .u8 h0, .int .u8 h1, .int .u8 h2], .slice A len cap, .agg #[.int .i64 k, .int .i64 a, .int .i64 b]] w fun e w' => e = .returned (.bool true) ∧ Fr [] w w' := by
  obtain ⟨u0, u1⟩ := u8_bounds wf0
  obtain ⟨u2, u3⟩ := u8_bounds wf1
  obtain ⟨u4, u5⟩ := u8_bounds wf2
  obtain ⟨a1, a2⟩ := i64_bounds wa
  obtain ⟨b1, b2⟩ := i64_bounds wb
  obtain ⟨b0, off, F, hb, hF⟩ := hA
  have HB := Lib.hid hb
  have HF := Lib.hid hF
  have hn' : len ≤ 9223372036854775807 := by simpa [maxLen] using hn
  have fol : Try.prog.follows .mixedOrders = true := by kernel_rfl
  obtain ⟨m, hm⟩ : ∃ d : Int, d = 1 + h0 % 16 := ⟨_, rfl⟩
  obtain ⟨d, hd⟩ : ∃ d : Int, d = 1 + h1 % 16 := ⟨_, rfl⟩
  obtain ⟨n, hn2⟩ : ∃ d : Int, d = 1 + h2 := ⟨_, rfl⟩
  have HM := Lib.hid hm
  have HD := Lib.hid hd
  have HNB := Lib.hid hn2
  have hP : (⟨m, 8, 20, d, n⟩ : Prm).Ok := ⟨by simp only; omega, by simp only; omega, by simp only; omega, by simp only; omega, by simp only; omega⟩
  have HN := Lib.hid (fun w => snewM hP w)
  have HP := Lib.hid hP
  have n1 : 1 ≤ n := by omega
  have n2 : n ≤ 256 := by omega
  have heq := eq_fnd
  clear hb hF hn wf0 wf1 wf2 hm hd hn2 hP wk wa wb
  go_enter Try.func7, Try.ntmps7
  go_wp2_with fail
  with_reducible refine (sawake _).mono ?_
  rintro e w1 ⟨rfl, f1⟩
  apply f1.use (k := w.heap.size); (focus (repeat (first | (with_reducible assumption) | ((with_reducible refine heap_alloc_at ?_ _); first | (with_reducible rfl) | (focus (simp; done))) | (with_reducible apply heap_alloc_old) | ((with_reducible apply heap_set_other); (case hne => (first | (with_reducible assumption) | exact Nat.ne_of_lt (by with_reducible assumption) | exact Nat.ne_of_gt (by with_reducible assumption) | (focus (simp +arith; done)) | (simp; done)))) | (with_reducible apply heap_set_eq) | (with_reducible apply heap_drew_of) | (with_reducible apply heap_drewN_of)))); (focus (first | (simp; done) | (simp; assumption))); intro hg1 hc1 hz1 _ _ _ _ _; (try simp only [List.setIfInBounds_toArray, List.set_cons_zero, List.set_cons_succ] at hg1 hc1)
  apply f1.use (k := w.heap.size + 1); (focus (repeat (first | (with_reducible assumption) | ((with_reducible refine heap_alloc_at ?_ _); first | (with_reducible rfl) | (focus (simp; done))) | (with_reducible apply heap_alloc_old) | ((with_reducible apply heap_set_other); (case hne => (first | (with_reducible assumption) | exact Nat.ne_of_lt (by with_reducible assumption) | exact Nat.ne_of_gt (by with_reducible assumption) | (focus (simp +arith; done)) | (simp; done)))) | (with_reducible apply heap_set_eq) | (with_reducible apply heap_drew_of) | (with_reducible apply heap_drewN_of)))); (focus (first | (simp; done) | (simp; assumption))); intro hg2 hc2 hz2 _ _ _ _ _; (try simp only [List.setIfInBounds_toArray, List.set_cons_zero, List.set_cons_succ] at hg2 hc2)
  have F1 : Fr [] w w1 := Fr.trans (by repeat' (first | (with_reducible exact Fr.refl _ _) | (with_reducible assumption) | (with_reducible refine Fr.drew ?_) | (with_reducible refine Fr.drewN ?_ _) | (with_reducible refine Fr.alloc ?_ _) | ((with_reducible refine Fr.setNew ?_ _ ?_ _); rotate_left; (focus (first | (with_reducible assumption) | exact Nat.le_of_lt (by with_reducible assumption) | (focus (simp +arith; done)) | exact Nat.le_trans (by with_reducible assumption) (by simp +arith; done) | (simp; done)))) | ((with_reducible refine Fr.setOld ?_ _ ?_ _); rotate_left; (focus (simp; done))))) f1
  have W1 : w1.heap[w.heap.size + 1]? = some (.cells #[.int .i64 k, .int .i64 a, .int .i64 b] 34) := by (apply heap_eq_of; (focus (repeat (first | (with_reducible assumption) | ((with_reducible refine heap_alloc_at ?_ _); first | (with_reducible rfl) | (focus (simp; done))) | (with_reducible apply heap_alloc_old) | ((with_reducible apply heap_set_other); (case hne => (first | (with_reducible assumption) | exact Nat.ne_of_lt (by with_reducible assumption) | exact Nat.ne_of_gt (by with_reducible assumption) | (focus (simp +arith; done)) | (simp; done)))) | (with_reducible apply heap_set_eq) | (with_reducible apply heap_drew_of) | (with_reducible apply heap_drewN_of)))); (focus (first | (simp; done) | rfl)))
  clear f1
  go_wp2_with fail
  rw [← HM.out, ← HD.out, ← HNB.out]
  with_reducible refine (HN.out _).mono ?_
  rintro e w2 ⟨⟨t, rfl, T2⟩, f2⟩
  have F2 := F1.trans f2
  have z1 := F1.size
  have z2 : w1.heap.size ≤ w2.heap.size := f2.size
  have W2 := f2.heap W1 (by simp)
  have hbx : w.heap.size + 1 < w1.heap.size := lt_of_heap W1
  have HZ := Lib.hid (And.intro z1 hbx)
  have T2 := Lib.hid T2
  clear W1 F1 f2 hg1 hc1 hz1 hg2 hc2 hz2 z1 hbx
  generalize w1.heap.size = B at *
  generalize hbxe : w.heap.size + 1 = bx at *
  clear hbxe
  go_wp2_with fail
  go_loopw [10] (fun v wr => ∃ (i : Nat) (s : TS), v = .int .i64 i ∧ i ≤ len ∧ i ≤ 150 ∧ s.us ≤ i ∧ TrkM wr B [] t ⟨m, 8, 20, d, n⟩ s ∧ Fr [] w wr ∧ B ≤ wr.heap.size ∧ wr.heap[bx]? = some (.cells #[.int .i64 k, .int .i64 a, .int .i64 b] 34)) (fun v _ => 151 - (intOf v).toNat)
  case atStart => exact ⟨0, _, rfl, by omega, by omega, by simp, T2.out, F2, z2, W2⟩
  case round =>
    clear T2 F2 z2 W2
    obtain ⟨i, s, rfl, i1, i2, hus, hT, hFr, hz, hX⟩ := hrel
    have HT := Lib.hid hT
    clear hT
    by_cases hi : i < len ∧ i < 150
    · obtain ⟨hi1, hi2⟩ := hi
      obtain ⟨rfl, hb⟩ := HB.out (by omega)
      obtain ⟨m0, m0w⟩ := HF.out i hi1 0 _ rfl
      obtain ⟨m1, m1w⟩ := HF.out i hi1 1 _ rfl
      obtain ⟨m2, m2w⟩ := HF.out i hi1 2 _ rfl
      simp only [List.length_cons, List.length_nil, Nat.reduceAdd, Nat.add_zero] at m0 m1 m2
      generalize F i 0 = ck at *
      generalize F i 1 = ca at *
      generalize F i 2 = cb at *
      have c0 := (hFr.cell (off := off + i * 3) hb).trans m0
      have c1 := (hFr.cell (off := off + i * 3 + 1) hb).trans m1
      have c2 := (hFr.cell (off := off + i * 3 + 2) hb).trans m2
      have hbr := Nat.lt_of_lt_of_le hb hFr.size
      clear m0 m1 m2 m0w m1w m2w
      by_cases hk0 : ck = 0
      · subst hk0
        have HC := Lib.hid (fun w' (h : TrkM w' B [] t ⟨m, 8, 20, d, n⟩ s) hB => saccessM HP.out ca cb (by omega) hB h)
        have hu2 := acc_us ⟨m, 8, 20, d, n⟩ ca cb s
        generalize accR ⟨m, 8, 20, d, n⟩ ca cb s = r at *
        obtain ⟨ri, rf, rn, rc, s2⟩ := r
        simp only at HC hu2
        go_wp2_with fail
        refine wp_region_seqV_lit (FinS 11 (Fr [] wr) (Since fun w' => TrkM w' B [] t ⟨m, 8, 20, d, n⟩ s2 ∧ KeepM B [] wr w')) fol (by kernel_rfl) (FinS.start (Fr.refl _ _).drew) ?_
        (iterate 11 (apply SeqV.cons; (focus (intro Vv bv wv hbv hdv hsh hSv; have bst := shut_no hsh hbv 11 (by kernel_rfl); have s0 := FinS.pre hSv bst; clear hsh hdv; (have q0 := (s0.cell (off := off + i * 3 + 1) hbr).trans c1); (have q1 := (s0.cell (off := off + i * 3 + 2) hbr).trans c2); go_wp2_with fail; exact StepPost.mk rfl (FinS.plain (by decide) bst (Fr.trans s0 (by repeat' (first | (with_reducible exact Fr.refl _ _) | (with_reducible assumption) | (with_reducible refine Fr.drew ?_) | (with_reducible refine Fr.drewN ?_ _) | (with_reducible refine Fr.alloc ?_ _) | ((with_reducible refine Fr.setNew ?_ _ ?_ _); rotate_left; (focus (first | (with_reducible assumption) | exact Nat.le_of_lt (by with_reducible assumption) | (focus (simp +arith; done)) | exact Nat.le_trans (by with_reducible assumption) (by simp +arith; done) | (simp; done)))) | ((with_reducible refine Fr.setOld ?_ _ ?_ _); rotate_left; (focus (simp; done))))))))); (try simp only [Act.put, List.setIfInBounds_toArray, List.set_cons_zero, List.set_cons_succ, Nat.reduceAdd, Nat.zero_add])))
        apply SeqV.cons (v := .tuple #[.agg #[.int .i64 ri, .int .i64 rf, .int .i64 rn], .int .i64 rc]); (focus (intro Vv bv wv hbv hdv hsh hSv; have s0 := FinS.pre hSv hbv; clear hsh hdv; go_wp2_with fail; with_reducible refine (HC.out _ (HT.out.fr0 s0) (Nat.le_trans hz s0.size)).mono ?_; rintro e w6 ⟨rfl, T6, K6⟩; go_wp2_with fail; exact StepPost.mk rfl (FinS.fin (Since.mk ⟨T6, K6.after s0⟩)))); (try simp only [Act.put, List.setIfInBounds_toArray, List.set_cons_zero, List.set_cons_succ, Nat.reduceAdd, Nat.zero_add])
        refine SeqV.nil ?_
        intro Vv bv w7 hb7 hSv
        obtain ⟨w6, ⟨T6, K6⟩, g6⟩ := FinS.end_ hSv (hb7 11 (by decide))
        have K7 := K6.then g6
        have T7 := T6.fr0 g6
        have X7 := K7.low hX (by have := lt_of_heap hX; have := HZ.out.2; omega)
        have F7 := K7.fr hFr HZ.out.1
        have z7 := Nat.le_trans hz K7.size
        clear hSv hb7 K6 T6 g6 K7
        go_wp2_with fail
        go_roundw
        case rel => exact ⟨i + 1, s2, by go_num, by omega, by omega, by omega, T7, F7, z7, X7⟩
        case measure => simp [intOf]; omega
      · have HC := Lib.hid (slateM HP.out ca HT.out)
        generalize decide (0 ≤ idxS ca s.xs) = β at *
        go_wp2_with fail
        with_reducible refine HC.out.mono ?_
        rintro e w6 ⟨rfl, T6, K6⟩
        have X7 := K6.low hX (by have := lt_of_heap hX; have := HZ.out.2; omega)
        have F7 := K6.fr hFr HZ.out.1
        have z7 := Nat.le_trans hz K6.size
        clear K6
        go_wp2_with fail
        go_roundw
        case rel => exact ⟨i + 1, _, by go_num, by omega, by omega, by simp only [tuneS]; omega, T6, F7, z7, X7⟩
        case measure => simp [intOf]; omega
    · have hus2 : s.us ≤ 150 := by omega
      have hse : s.E.length ≤ 100000 := by have := HT.out.ok.tap.len; simp at this; omega
      have hsx : s.xs.length ≤ 16 := by have h8 := HT.out.ok.len; have h9 := HP.out.mo; simp only at h8 h9; omega
      have hbd : Hid (badA ⟨m, 8, 20, d, n⟩ a b ↔ (a < 0 ∨ n ≤ a ∨ b < 1 ∨ 8 < b ∨ n < a + b)) := by unfold Hid badA; simp only; omega
      have HSX := Lib.hid hsx
      have HSE := Lib.hid hse
      have hq12 : (i < len ∧ ¬ i < 150) ∨ ¬ i < len := by omega
      clear hi hse hsx
      rcases hq12 with ⟨q1, q2⟩ | q1
      all_goals
        go_wp2_with fail
        with_reducible refine (sstreamsM HP.out HT.out).mono ?_
        rintro e w3 ⟨⟨A1, c1, rfl, O1⟩, f3⟩
        have T3 := Lib.hid (HT.out.turn (M' := (Value.slice A1 s.xs.length c1).ownBlock.toList) f3 (by simp) (fun x hx => Or.inr ⟨O1.ge x hx, O1.lt x hx⟩))
        have S3 := O1.sl (M := []) (by simp)
        have X3 := f3.heap hX (by simp)
        have F3 := hFr.trans f3
        have z3 := Nat.le_trans hz f3.size
        clear f3 hX hFr hz HT
        go_wp2_with fail
        with_reducible refine (sexpectedM HP.out (by omega) T3.out).mono ?_
        rintro e w4 ⟨⟨A2, c2, rfl, O2⟩, f4⟩
        obtain ⟨M4, hM4⟩ : ∃ M4, M4 = (Value.slice A1 s.xs.length c1).ownBlock.toList ++ (Value.slice A2 s.E.length c2).ownBlock.toList := ⟨_, rfl⟩
        have T4 := Lib.hid (T3.out.turn (M' := M4) f4 (by simp) (fun x hx => by
          rw [hM4] at hx
          rcases List.mem_append.1 hx with q | q
          · exact Or.inl q
          · exact Or.inr ⟨O2.ge x q, O2.lt x q⟩))
        have S4 := Lib.hid (S3.fr f4 (by simp))
        have E4 := Lib.hid (O2.sl (M := []) (by simp))
        have M41 : Hid (∀ x ∈ (Value.slice A1 s.xs.length c1).ownBlock.toList, x ∈ M4) := fun x hx => by rw [hM4]; exact List.mem_append.2 (Or.inl hx)
        have M42 : Hid (∀ x ∈ (Value.slice A2 s.E.length c2).ownBlock.toList, x ∈ M4) := fun x hx => by rw [hM4]; exact List.mem_append.2 (Or.inr hx)
        have X4 := f4.heap X3 (by simp)
        have F4 := F3.trans f4
        have z4 := Nat.le_trans z3 f4.size
        clear O1 O2 T3 S3 X3 F3 z3 f4 hM4
        apply blk_use X4; intro hg4 hc4 hz4 _ _ _ _ _
        obtain ⟨β, hβ⟩ : ∃ β, β = decide (badA ⟨m, 8, 20, d, n⟩ a b) := ⟨_, rfl⟩
        have HBE := Lib.hid hβ
        clear hβ
        go_upto_region 15 with fail
        go_cut [13] (fun v13 wc => v13 = .bool β ∧ wc = w4)
        case first =>
          go_wp2
          all_goals
            go_meet
            refine ⟨?_, rfl⟩
            congr 1
            rw [HBE.out]
            have hb9 := hbd.out
            first
              | (rw [decide_eq_true (hb9.2 (by omega))]; done)
              | (symm; exact decide_eq_true (hb9.2 (by omega)))
              | (symm; apply decide_eq_false; rw [hb9]; omega)
              | (rw [Bool.eq_iff_iff]; simp only [decide_eq_true_eq, hb9, Bool.or_eq_true]; omega)
        case rest =>
          obtain ⟨rfl, rfl⟩ := hcut
          clear hg4 hc4 hz4
          go_upto_if 109 with fail
          have f5 : Fr [] wc (wc.alloc (.cells #[.int .i64 0, .int .i64 0, .int .i64 0] 38)) := (by repeat' (first | (with_reducible exact Fr.refl _ _) | (with_reducible assumption) | (with_reducible refine Fr.drew ?_) | (with_reducible refine Fr.drewN ?_ _) | (with_reducible refine Fr.alloc ?_ _) | ((with_reducible refine Fr.setNew ?_ _ ?_ _); rotate_left; (focus (first | (with_reducible assumption) | exact Nat.le_of_lt (by with_reducible assumption) | (focus (simp +arith; done)) | exact Nat.le_trans (by with_reducible assumption) (by simp +arith; done) | (simp; done)))) | ((with_reducible refine Fr.setOld ?_ _ ?_ _); rotate_left; (focus (simp; done)))))
          have Q5 : (wc.alloc (.cells #[.int .i64 0, .int .i64 0, .int .i64 0] 38)).heap[wc.heap.size]? = some (.cells #[.int .i64 0, .int .i64 0, .int .i64 0] 38) := by (apply heap_eq_of; (focus (repeat (first | (with_reducible assumption) | ((with_reducible refine heap_alloc_at ?_ _); first | (with_reducible rfl) | (focus (simp; done))) | (with_reducible apply heap_alloc_old) | ((with_reducible apply heap_set_other); (case hne => (first | (with_reducible assumption) | exact Nat.ne_of_lt (by with_reducible assumption) | exact Nat.ne_of_gt (by with_reducible assumption) | (focus (simp +arith; done)) | (simp; done)))) | (with_reducible apply heap_set_eq) | (with_reducible apply heap_drew_of) | (with_reducible apply heap_drewN_of)))); (focus (first | (simp; done) | rfl)))
          have z9 : (wc.alloc (.cells #[.int .i64 0, .int .i64 0, .int .i64 0] 38)).heap.size = wc.heap.size + 1 := by simp
          have T5 := Lib.hid (T4.out.turn (M' := wc.heap.size :: M4) f5 (by simp) (fun x hx => by
            rcases List.mem_cons.1 hx with rfl | hx
            · exact Or.inr ⟨Nat.le_refl _, by omega⟩
            · exact Or.inl hx))
          have S5 := Lib.hid (Sl_turn (M' := [wc.heap.size]) S4.out f5 (by simp) (by simp))
          have E5 := Lib.hid (Sl_turn (M' := [wc.heap.size]) E4.out f5 (by simp) (by simp))
          have X5 := f5.heap X4 (by simp)
          have F5 := F4.trans f5
          have z5 := Nat.le_trans z4 f5.size
          have hbq : bx ≠ wc.heap.size := by have := lt_of_heap X4; omega
          have HQB : Hid (B ≤ wc.heap.size) := z4
          clear T4 S4 E4 X4 F4 z4 z9 f5
          generalize (wc.alloc (.cells #[.int .i64 0, .int .i64 0, .int .i64 0] 38)) = w5 at *
          generalize wc.heap.size = q at *
          go_cut [15] (fun v15 wd => v15 = .int .i64 1 ∧ TrkM wd B (q :: M4) t ⟨m, 8, 20, d, n⟩ s ∧ eS.Sl [q] wd (.slice A1 s.xs.length c1) s.xs ∧ eX.Sl [q] wd (.slice A2 s.E.length c2) (s.E.map (ag s.L)) ∧ wd.heap[q]? = some (.cells #[.int .i64 0, .int .i64 0, .int .i64 0] 38) ∧ wd.heap[bx]? = some (.cells #[.int .i64 k, .int .i64 a, .int .i64 b] 34) ∧ Fr [] w wd ∧ B ≤ wd.heap.size)
          case first =>
            cases β
            rotate_left
            · have hbad : badA ⟨m, 8, 20, d, n⟩ a b := of_decide_eq_true HBE.out.symm
              have HC := saccessM HP.out a b (by omega) z5 T5.out
              rw [acc_bad s hbad] at HC
              have HC := Lib.hid HC
              clear hbad
              apply blk_use X5; intro hg5 hc5 hz5 _ _ _ _ _
              go_wp2_with fail
              with_reducible refine HC.out.mono ?_
              rintro e w6 ⟨rfl, T6, K6⟩
              have Q6 := K6.heap Q5 (by simp)
              have X6 := K6.low X5 (by have := HZ.out.2; omega)
              have S6 := Lib.hid (K6.sl S5.out (fun x hx => List.mem_cons_of_mem _ (M41.out x hx)))
              have E6 := Lib.hid (K6.sl E5.out (fun x hx => List.mem_cons_of_mem _ (M42.out x hx)))
              have F6 := K6.fr F5 HZ.out.1
              have z6 := Nat.le_trans z5 K6.size
              have HT6 := Lib.hid T6
              clear T6 K6 T5 Q5 X5 S5 E5 F5 z5 hg5 hc5 hz5
              apply blk_use Q6; intro hg6 hc6 hz6 _ _ _ _ _
              go_wp2_with fail
              go_meet
              have f7 : Fr [q] w6 (((w6.setCell ⟨q, 0, none⟩ (.int .i64 0)).setCell ⟨q, 1, none⟩ (.int .i64 0)).setCell ⟨q, 2, none⟩ (.int .i64 0)) := (by repeat' (first | (with_reducible exact Fr.refl _ _) | (with_reducible assumption) | (with_reducible refine Fr.drew ?_) | (with_reducible refine Fr.drewN ?_ _) | (with_reducible refine Fr.alloc ?_ _) | ((with_reducible refine Fr.setNew ?_ _ ?_ _); rotate_left; (focus (first | (with_reducible assumption) | exact Nat.le_of_lt (by with_reducible assumption) | (focus (simp +arith; done)) | exact Nat.le_trans (by with_reducible assumption) (by simp +arith; done) | (simp; done)))) | ((with_reducible refine Fr.setOld ?_ _ ?_ _); rotate_left; (focus (simp; done)))))
              exact ⟨rfl, HT6.out.turn (M' := q :: M4) f7 (by simp) (fun x hx => Or.inl hx), S6.out.fr f7 (by simp), E6.out.fr f7 (by simp), by (apply heap_eq_of; (focus (repeat (first | (with_reducible assumption) | ((with_reducible refine heap_alloc_at ?_ _); first | (with_reducible rfl) | (focus (simp; done))) | (with_reducible apply heap_alloc_old) | ((with_reducible apply heap_set_other); (case hne => (first | (with_reducible assumption) | exact Nat.ne_of_lt (by with_reducible assumption) | exact Nat.ne_of_gt (by with_reducible assumption) | (focus (simp +arith; done)) | (simp; done)))) | (with_reducible apply heap_set_eq) | (with_reducible apply heap_drew_of) | (with_reducible apply heap_drewN_of)))); (focus (first | (simp; done) | rfl))), f7.heap X6 (by simpa using hbq), F6.trans' f7 (by intro x hx; simp at hx; subst hx; exact Or.inr (by have := HZ.out.1; have := HQB.out; omega)), Nat.le_trans z6 f7.size⟩
            · go_wp2_with fail
              go_meet
              exact ⟨rfl, T5.out, S5.out, E5.out, Q5, X5, F5, z5⟩
          case rest =>
            clear T5 S5 E5 Q5 X5 F5 z5
            obtain ⟨rfl, T5, S5, E5, Q5, X5, F5, z5⟩ := hcut
            have T5 := Lib.hid T5
            have S5 := Lib.hid S5
            have E5 := Lib.hid E5
            apply blk_use X5; intro hg5 hc5 hz5 _ _ _ _ _
            go_wp2_with fail
            go_loopw [16, 17] (fun u v wr => ∃ (i : Nat) (β : Bool), v = .int .i64 i ∧ u = .bool β ∧ i ≤ s.xs.length ∧ (β = true ↔ ∃ (j : Nat) (y : Str), j < i ∧ s.xs[j]? = some y ∧ y.id = a) ∧ Fr [] wc wr) (fun _ v _ => s.xs.length - (intOf v).toNat)
            case atStart => exact ⟨0, false, rfl, rfl, by omega, by simp, Fr.refl _ _⟩
            case round =>
              obtain ⟨i, β, rfl, rfl, i1, hβ, G⟩ := hrel
              have HBT := Lib.hid hβ
              have HG := Lib.hid G
              clear hβ hg5 hc5 hz5
              have X6 := G.heap X5 (by simp)
              by_cases hlt : i < s.xs.length
              · obtain ⟨_, _, he, _, hcell⟩ := S5.out
                injection he with he1 _ he3
                subst he1 he3
                rcases hcell with hz | ⟨b9, o9, rfl, hb9, hM9, hcl⟩
                · rw [hz] at hlt; simp at hlt
                have hx : s.xs[i]? = some s.xs[i] := List.getElem?_eq_getElem hlt
                have x0 := (esat hcl hx).1
                have d0 := (G.cell (off := o9 + i * 6) hb9).trans x0
                have hbr := Nat.lt_of_lt_of_le hb9 G.size
                generalize s.xs[i] = X at *
                have HXX := Lib.hid hx
                have hsx2 : (s.xs.length : Int) ≤ 16 := by have := HSX.out; omega
                clear hcl x0 hx hM9 G
                have hstep : ∀ γ : Bool, (γ = (β || decide (X.id = a))) → (γ = true ↔ ∃ (j : Nat) (y : Str), j < i + 1 ∧ s.xs[j]? = some y ∧ y.id = a) := by
                  intro γ hγ
                  rw [hγ, Bool.or_eq_true, decide_eq_true_eq, HBT.out]
                  constructor
                  · rintro (⟨j, y, j1, j2, j3⟩ | e)
                    · exact ⟨j, y, by omega, j2, j3⟩
                    · exact ⟨i, X, by omega, HXX.out, e⟩
                  · rintro ⟨j, y, j1, j2, j3⟩
                    rcases Nat.lt_succ_iff_lt_or_eq.1 j1 with q | rfl
                    · exact Or.inl ⟨j, y, q, j2, j3⟩
                    · have e := HXX.out.symm.trans j2
                      injection e with e
                      subst e; exact Or.inr j3
                have HST := Lib.hid hstep
                clear hstep
                cases β
                all_goals
                  go_wp2_with fail
                  refine wp_region_seqV_lit (fun _ _ w' => Fr [] wr w') fol (by kernel_rfl) (Fr.refl _ _).drew ?_
                  (repeat (first | (apply SeqV.cons; (focus (intro Vv bv wv hbv hdv hsh hSv; (have x6 := hSv.heap X6 (by simp)); apply blk_use x6; intro hg21 hc21 hz21 _ _ _ _ _; (have y0 := (hSv.cell (off := o9 + i * 6) hbr).trans d0); go_wp2_with (fail); exact StepPost.mk rfl (Fr.trans (S := []) hSv (by repeat' (first | (with_reducible exact Fr.refl _ _) | (with_reducible assumption) | (with_reducible refine Fr.drew ?_) | (with_reducible refine Fr.drewN ?_ _) | (with_reducible refine Fr.alloc ?_ _) | ((with_reducible refine Fr.setNew ?_ _ ?_ _); rotate_left; (focus (first | (with_reducible assumption) | exact Nat.le_of_lt (by with_reducible assumption) | (focus (simp +arith; done)) | exact Nat.le_trans (by with_reducible assumption) (by simp +arith; done) | (simp; done)))) | ((with_reducible refine Fr.setOld ?_ _ ?_ _); rotate_left; (focus (simp; done)))))))); (try simp only [Act.put, List.setIfInBounds_toArray, List.set_cons_zero, List.set_cons_succ, Nat.reduceAdd, Nat.zero_add])) | (apply SeqV.cons (v := undef); (focus (intro Vv bv wv hbv hdv hsh hSv; (have x6 := hSv.heap X6 (by simp)); apply blk_use x6; intro hg21 hc21 hz21 _ _ _ _ _; (have y0 := (hSv.cell (off := o9 + i * 6) hbr).trans d0); go_wp2_with (fail); exact StepPost.mk rfl (Fr.trans (S := []) hSv (by repeat' (first | (with_reducible exact Fr.refl _ _) | (with_reducible assumption) | (with_reducible refine Fr.drew ?_) | (with_reducible refine Fr.drewN ?_ _) | (with_reducible refine Fr.alloc ?_ _) | ((with_reducible refine Fr.setNew ?_ _ ?_ _); rotate_left; (focus (first | (with_reducible assumption) | exact Nat.le_of_lt (by with_reducible assumption) | (focus (simp +arith; done)) | exact Nat.le_trans (by with_reducible assumption) (by simp +arith; done) | (simp; done)))) | ((with_reducible refine Fr.setOld ?_ _ ?_ _); rotate_left; (focus (simp; done)))))))); (try simp only [Act.put, List.setIfInBounds_toArray, List.set_cons_zero, List.set_cons_succ, Nat.reduceAdd, Nat.zero_add]))))
                  refine SeqV.nil ?_
                  intro Vv bv w6 hb6 hSv
                  have G6 := HG.out.trans hSv
                  clear hb6 hSv
                  go_wp2_with fail
                  go_roundw
                  case rel => exact ⟨i + 1, _, by go_num, rfl, by omega, HST.out _ (by first | rfl | simp | (by_cases e : X.id = a <;> simp [e])), G6⟩
                  case measure => simp [intOf]; omega
              · obtain rfl : i = s.xs.length := by omega
                have T6 := Lib.hid (T5.out.fr0 G)
                have S6 := Lib.hid (S5.out.fr G (by simp))
                have E6 := Lib.hid (E5.out.fr G (by simp))
                have Q6 := G.heap Q5 (by simp)
                have F6 := F5.trans G
                clear T5 S5 E5 Q5 X5 F5 G HG i1
                apply blk_use X6; intro hg6 hc6 hz6 _ _ _ _ _
                go_upto_region 25 with fail
                go_cut [149] (fun v149 wc => v149 = .bool false ∧ TrkM wc B (q :: M4) t ⟨m, 8, 20, d, n⟩ s ∧ eS.Sl [q] wc (.slice A1 s.xs.length c1) s.xs ∧ eX.Sl [q] wc (.slice A2 s.E.length c2) (s.E.map (ag s.L)) ∧ wc.heap[q]? = some (.cells #[.int .i64 0, .int .i64 0, .int .i64 0] 38) ∧ Fr [] w wc)
                case first =>
                  cases β
                  · have hno : idxS a s.xs = -1 := idxS_no (fun j y hy e => by have := HBT.out.2 ⟨j, y, (List.getElem?_eq_some_iff.1 hy).1, hy, e⟩; cases this)
                    have HCL := Lib.hid (fun w' (h : TrkM w' B (q :: M4) t ⟨m, 8, 20, d, n⟩ s) => slateM HP.out a h)
                    have HCW := Lib.hid (fun w' (h : TrkM w' B (q :: M4) t ⟨m, 8, 20, d, n⟩ s) => swasteM HP.out a h)
                    have hd : decide ((0 : Int) ≤ idxS a s.xs) = false := by rw [hno]; decide
                    rw [hd, tuneS_no hno] at HCL HCW
                    clear hd hno
                    go_wp2_with fail
                    with_reducible refine (HCL.out _ T6.out).mono ?_
                    rintro e w7 ⟨rfl, T7, K7⟩
                    have T7 := Lib.hid T7
                    have Q7 := K7.heap Q6 (by simp)
                    have X7 := K7.low X6 (by have := HZ.out.2; have := lt_of_heap X6; omega)
                    have S7 := Lib.hid (K7.sl S6.out (fun x hx => List.mem_cons_of_mem _ (M41.out x hx)))
                    have E7 := Lib.hid (K7.sl E6.out (fun x hx => List.mem_cons_of_mem _ (M42.out x hx)))
                    have F7 := K7.fr F6 HZ.out.1
                    clear T6 Q6 X6 S6 E6 F6 K7 hg6 hc6 hz6
                    apply blk_use X7; intro hg7 hc7 hz7 _ _ _ _ _
                    go_wp2_with fail
                    with_reducible refine (HCW.out _ T7.out).mono ?_
                    rintro e w8 ⟨rfl, T8, K8⟩
                    have Q8 := K8.heap Q7 (by simp)
                    have S8 := Lib.hid (K8.sl S7.out (fun x hx => List.mem_cons_of_mem _ (M41.out x hx)))
                    have E8 := Lib.hid (K8.sl E7.out (fun x hx => List.mem_cons_of_mem _ (M42.out x hx)))
                    have F8 := K8.fr F7 HZ.out.1
                    clear K8 hg7 hc7 hz7
                    go_wp2_with fail
                    go_meet
                    exact ⟨rfl, T8, S8.out, E8.out, Q8, F8⟩
                  · go_wp2_with fail
                    go_meet
                    exact ⟨rfl, T6.out, S6.out, E6.out, Q6, F6⟩
                case rest =>
                  clear T6 S6 E6 Q6 F6 X6 hg6 hc6 hz6
                  obtain ⟨rfl, T7, S7, E7, Q7, F7⟩ := hcut
                  have T7 := Lib.hid T7
                  have S7 := Lib.hid S7
                  have E7 := Lib.hid E7
                  apply blk_use Q7; intro hg7 hc7 hz7 _ _ _ _ _
                  go_wp2_with fail
                  with_reducible refine (sstreamsM HP.out T7.out).mono ?_
                  rintro e w8 ⟨⟨A8, c8, rfl, O8⟩, f8⟩
                  have T8 := Lib.hid (T7.out.fr0 f8)
                  have O8 := Lib.hid (O8.sl (M := []) (by simp))
                  have S8 := Lib.hid (S7.out.fr f8 (by simp))
                  have E8 := Lib.hid (E7.out.fr f8 (by simp))
                  have F8 := F7.trans f8
                  clear f8 T7 S7 E7 Q7 F7 hg7 hc7 hz7
                  go_wp2_with fail
                  with_reducible refine (rs_sameR _ _ s.xs (by have := HSX.out; omega) _ _ _ O8.out S8.out).mono ?_
                  rintro e w9 ⟨rfl, f9⟩
                  have T9 := Lib.hid (T8.out.fr0 f9)
                  have E9 := Lib.hid (E8.out.fr f9 (by simp))
                  have F9 := F8.trans f9
                  clear f9 T8 E8 F8 O8 S8
                  go_wp2_with fail
                  with_reducible refine (sexpectedM HP.out (by omega) T9.out).mono ?_
                  rintro e y1 ⟨⟨A9, c9, rfl, O9⟩, f9⟩
                  have hlm : (s.E.map (ag s.L)).length = s.E.length := List.length_map ..
                  have O9 := Lib.hid (O9.sl (M := []) (by simp))
                  have E10 := Lib.hid (E9.out.fr f9 (by simp))
                  have F10 := F9.trans f9
                  clear f9 T9 E9 F9
                  go_wp2_with fail
                  with_reducible refine (rt_same _ _ (s.E.map (ag s.L)) (by rw [hlm]; exact HSE.out) _ _ _ O9.out E10.out).mono ?_
                  rintro e y2 ⟨rfl, f9⟩
                  go_wp2_with fail
                  go_ret
                  exact ⟨rfl, F10.trans f9⟩
end Go.Proofs.Ytoapobhdpgcmbaa
