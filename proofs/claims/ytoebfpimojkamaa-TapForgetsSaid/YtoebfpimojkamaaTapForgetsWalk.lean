/- TapForgets answers true at every shape and scripts, and changes nothing that was there. -/
import Derived.Test.YtoebfpimojkamaaTapUse
namespace Go.Proofs.Ytoebfpimojkamaa
open Go.RowKit Go.Sort Go.Lib

set_option maxRecDepth 100000 in
set_option maxHeartbeats 8000000 in
theorem tforgets_walk (a0 a1 : Int) (A : Option Addr) (len cap : Nat) (A2 : Option Addr) (len2 cap2 : Nat) (wf0 : (Lit.int .u8 a0).wf = true) (wf1 : (Lit.int .u8 a1).wf = true) (hn : len ≤ maxLen) (w : World) (hA : IntsAt w [.i64, .i64] A len) (hn2 : len2 ≤ maxLen) (hA2 : IntsAt w [.i64, .i64] A2 len2) :
    Calls Try.prog 5 #[.agg #[.int .u8 a0, .int .u8 a1], .slice A len cap, .slice A2 len2 cap2] w fun e w' => e = .returned (.bool true) ∧ Fr [] w w' := by
  obtain ⟨u0, u1⟩ := u8_bounds wf0
  obtain ⟨u2, u3⟩ := u8_bounds wf1
  obtain ⟨b0, off, F, hb, hF⟩ := hA
  obtain ⟨b1, off1, F1, hb1, hF1⟩ := hA2
  have HB := Lib.hid hb
  have HF := Lib.hid hF
  have HB1 := Lib.hid hb1
  have HF1 := Lib.hid hF1
  have hn' : len ≤ 9223372036854775807 := by simpa [maxLen] using hn
  have hn2' : len2 ≤ 9223372036854775807 := by simpa [maxLen] using hn2
  have fol : Try.prog.follows .mixedOrders = true := by kernel_rfl
  obtain ⟨size, hs⟩ : ∃ s : Int, s = 1 + a0 % 32 := ⟨_, rfl⟩
  obtain ⟨life, hl⟩ : ∃ s : Int, s = 1 + a1 % 64 := ⟨_, rfl⟩
  have s1 : 1 ≤ size := by omega
  have s2 : size ≤ 32 := by omega
  have l1 : 1 ≤ life := by omega
  have l2 : life ≤ 64 := by omega
  have HS := Lib.hid hs
  have HL := Lib.hid hl
  clear hb hF hn hb1 hF1 hn2 wf0 wf1 hs hl
  go_enter Try.func5, Try.ntmps5
  go_wp2_with fail
  refine (tawake _).mono ?_
  rintro e w1 ⟨rfl, f1⟩
  apply f1.use (k := w.heap.size); (focus (repeat (first | (with_reducible assumption) | ((with_reducible refine heap_alloc_at ?_ _); first | (with_reducible rfl) | (focus (simp; done))) | (with_reducible apply heap_alloc_old) | ((with_reducible apply heap_set_other); (case hne => (first | (with_reducible assumption) | exact Nat.ne_of_lt (by with_reducible assumption) | exact Nat.ne_of_gt (by with_reducible assumption) | (focus (simp +arith; done)) | (simp; done)))) | (with_reducible apply heap_set_eq) | (with_reducible apply heap_drew_of) | (with_reducible apply heap_drewN_of)))); (focus (first | (simp; done) | (simp; assumption))); intro hg1 hc1 hz1 _ _ _ _ _; (try simp only [List.setIfInBounds_toArray, List.set_cons_zero, List.set_cons_succ] at hg1 hc1)
  have F1' : Fr [] w w1 := Fr.trans (by repeat' (first | (with_reducible exact Fr.refl _ _) | (with_reducible assumption) | (with_reducible refine Fr.drew ?_) | (with_reducible refine Fr.drewN ?_ _) | (with_reducible refine Fr.alloc ?_ _) | ((with_reducible refine Fr.setNew ?_ _ ?_ _); rotate_left; (focus (first | (with_reducible assumption) | exact Nat.le_of_lt (by with_reducible assumption) | (focus (simp +arith; done)) | exact Nat.le_trans (by with_reducible assumption) (by simp +arith; done) | (simp; done)))) | ((with_reducible refine Fr.setOld ?_ _ ?_ _); rotate_left; (focus (simp; done))))) f1
  clear f1
  go_wp2_with fail
  rw [← HS.out, ← HL.out]
  refine (tnew_ok size life s1 s2 l1 l2 _).mono ?_
  rintro e w2 ⟨t, b, rfl, T2, ht, hbb, f2⟩
  have F2 := F1'.trans f2
  have f1s := F1'.size
  go_wp2_with fail
  refine (tnew_ok size life s1 s2 l1 l2 _).mono ?_
  rintro e w3 ⟨u, b2, rfl, U3, hu, hbu, f3⟩
  have T3 := T2.fr f3 (by simp) (by simp)
  have F3 := F2.trans f3
  have hlt := T2.lt
  have hd : Hid (w.heap.size ≤ t ∧ w.heap.size ≤ b ∧ w.heap.size ≤ u ∧ w.heap.size ≤ b2 ∧ t ≠ u ∧ t ≠ b2 ∧ b ≠ u ∧ b ≠ b2) := ⟨by omega, by omega, by omega, by omega, by omega, by omega, by omega, by omega⟩
  clear T2 F1' F2 f2 f3 ht hbb hu hbu hlt f1s hg1 hc1 hz1
  go_wp2_with fail
  go_loopw [13] (fun v wr => ∃ (i : Nat) (s : Int × List (Int × Int)), v = .int .i64 i ∧ i ≤ len ∧ i ≤ 150 ∧ s.1 ≤ i ∧ TapOk size s ∧ TapAt wr t b size life s.1 s.2 ∧ TapAt wr u b2 size life 0 [] ∧ Fr [] w wr) (fun v _ => 151 - (intOf v).toNat)
  case atStart => exact ⟨0, (0, []), rfl, by omega, by omega, by simp, TapOk.new size (by omega), T3, U3, F3⟩
  case round =>
    clear T3 U3 F3
    obtain ⟨i, ⟨L, E⟩, rfl, i1, i2, i3, hk, hT, hU, hFr⟩ := hrel
    by_cases hi : i < len ∧ i < 150
    · obtain ⟨hi1, hi2⟩ := hi
      obtain ⟨rfl, hb⟩ := HB.out (by omega)
      obtain ⟨m0, m0w⟩ := HF.out i hi1 0 _ rfl
      obtain ⟨m1, m1w⟩ := HF.out i hi1 1 _ rfl
      simp only [List.length_cons, List.length_nil, Nat.reduceAdd, Nat.add_zero] at m0 m1
      generalize F i 0 = f at *
      generalize F i 1 = c at *
      have c0 := (hFr.cell (off := off + i * 2) hb).trans m0
      have c1 := (hFr.cell (off := off + i * 2 + 1) hb).trans m1
      have hbr := Nat.lt_of_lt_of_le hb hFr.size
      simp only at i3 hT
      have K2 := hk.look (life := life) (f := f) (c := c) s1
      have q3 := lookE_le size life f c L E
      have HC := fun w' (h : TapAt w' t b size life L E) => tlook (w := w') f c (by omega) s1 s2 l1 l2 hk h
      generalize lookE size life f c (L, E) = s2' at *
      generalize lookB life f c (L, E) = β at *
      generalize lookC f c = κ at *
      have H1 := Lib.hid HC
      have HT := Lib.hid hT
      have HU := Lib.hid hU
      have HK2 := Lib.hid K2
      clear m0 m1 m0w m1w HC hT K2 hk hU
      go_wp2_with fail
      refine wp_region_seqV_lit (FinS 11 (Fr [] wr) (Since fun w' => Fr [t, b] wr w' ∧ TapAt w' t b size life s2'.1 s2'.2)) fol (by kernel_rfl) (FinS.start (Fr.refl _ _).drew) ?_; (repeat (apply SeqV.cons; (focus (intro Vv bv wv hbv hdv hsh hSv; have bst := shut_no hsh hbv 11 (by kernel_rfl); have s0 := FinS.pre hSv bst; clear hsh hdv; (have q0 := (s0.cell (off := off + i * 2) hbr).trans c0); (have q1 := (s0.cell (off := off + i * 2 + 1) hbr).trans c1); go_wp2_with fail; exact StepPost.mk rfl (FinS.plain (by decide) bst (Fr.trans s0 (by repeat' (first | (with_reducible exact Fr.refl _ _) | (with_reducible assumption) | (with_reducible refine Fr.drew ?_) | (with_reducible refine Fr.drewN ?_ _) | (with_reducible refine Fr.alloc ?_ _) | ((with_reducible refine Fr.setNew ?_ _ ?_ _); rotate_left; (focus (first | (with_reducible assumption) | exact Nat.le_of_lt (by with_reducible assumption) | (focus (simp +arith; done)) | exact Nat.le_trans (by with_reducible assumption) (by simp +arith; done) | (simp; done)))) | ((with_reducible refine Fr.setOld ?_ _ ?_ _); rotate_left; (focus (simp; done))))))))); (try simp only [Act.put, List.setIfInBounds_toArray, List.set_cons_zero, List.set_cons_succ, Nat.reduceAdd, Nat.zero_add]))); apply SeqV.cons (v := .tuple #[.bool β, .int .i64 κ]); (focus (intro Vv bv wv hbv hdv hsh hSv; have s0 := FinS.pre hSv hbv; clear hsh hdv; go_wp2_with fail; with_reducible refine (H1.out _ (HT.out.fr s0 (by simp) (by simp))).mono ?_; rintro e w6 ⟨rfl, T6, f6⟩; go_wp2_with fail; exact StepPost.mk rfl (FinS.fin (Since.mk ⟨(s0.mono (by simp)).trans f6, T6⟩)))); (try simp only [Act.put, List.setIfInBounds_toArray, List.set_cons_zero, List.set_cons_succ, Nat.reduceAdd, Nat.zero_add]); (repeat (apply SeqV.cons; (focus (intro Vv bv wv hbv hdv hsh hSv; have bst := deps_done hsh hdv 11 (by kernel_rfl); have s0 := FinS.end_ hSv bst; clear hsh hdv; go_wp2_with fail; exact StepPost.mk rfl (FinS.plain2 (by decide) bst (Since.fr s0 (by repeat' (first | (with_reducible exact Fr.refl _ _) | (with_reducible assumption) | (with_reducible refine Fr.drew ?_) | (with_reducible refine Fr.drewN ?_ _) | (with_reducible refine Fr.alloc ?_ _) | ((with_reducible refine Fr.setNew ?_ _ ?_ _); rotate_left; (focus (first | (with_reducible assumption) | exact Nat.le_of_lt (by with_reducible assumption) | (focus (simp +arith; done)) | exact Nat.le_trans (by with_reducible assumption) (by simp +arith; done) | (simp; done)))) | ((with_reducible refine Fr.setOld ?_ _ ?_ _); rotate_left; (focus (simp; done))))))))); (try simp only [Act.put, List.setIfInBounds_toArray, List.set_cons_zero, List.set_cons_succ, Nat.reduceAdd, Nat.zero_add]))); refine SeqV.nil ?_
      intro Vv bv w7 hb7 hSv
      obtain ⟨w6, ⟨f6, T6⟩, g6⟩ := FinS.end_ hSv (hb7 11 (by decide))
      have f7 := f6.trans (g6.mono (by simp))
      have T7 := T6.fr g6 (by simp) (by simp)
      have F7 : Fr [] w w7 := hFr.trans' f7 (by have := hd.out; simp; omega)
      have U7 := HU.out.fr f7 (by have := hd.out; simp; omega) (by have := hd.out; simp; omega)
      clear hSv hb7 f6 T6 g6 f7 c0 c1 hbr HT HU hFr H1
      go_wp2_with fail
      go_roundw
      case rel => exact ⟨i + 1, s2', by go_num, by omega, by omega, by simp; omega, HK2.out, T7, U7, F7⟩
      case measure => simp [intOf]; omega
    · have HT := Lib.hid hT
      have HU := Lib.hid hU
      have HK := Lib.hid hk
      have hL9 : L ≤ 150 := by simp at i3; omega
      have hqq : ¬ i < len ∨ (i < len ∧ ¬ i < 150) := by omega
      rcases hqq with q1 | ⟨q1, q2⟩
      all_goals
        clear hi hT hU hk
        go_wp2_with fail
        refine (tforget t b size life L E _ HT.out).mono ?_
        rintro e w5 ⟨rfl, T5, f5⟩
        have F5 : Fr [] w w5 := hFr.trans' f5 (by have := hd.out; simp; omega)
        have U5 := HU.out.fr f5 (by have := hd.out; simp; omega) (by have := hd.out; simp; omega)
        have K5 := HK.out.nil
        clear HT HU f5 hFr HK HB HF i3 i1 i2
        go_wp2_with fail
        go_loopw [14] (fun v wr => ∃ (i : Nat) (s s' : Int × List (Int × Int)), v = .int .i64 i ∧ i ≤ len2 ∧ i ≤ 150 ∧ (s.1 ≤ 150 + i ∧ s'.1 ≤ i) ∧ TapOk size s ∧ TapOk size s' ∧ s.2.map (ag s.1) = s'.2.map (ag s'.1) ∧ TapAt wr t b size life s.1 s.2 ∧ TapAt wr u b2 size life s'.1 s'.2 ∧ Fr [] w wr) (fun v _ => 151 - (intOf v).toNat)
        case atStart => exact ⟨0, (L, []), (0, []), rfl, by omega, by omega, ⟨by simp; omega, by simp⟩, K5, TapOk.new size (by omega), rfl, T5, U5, F5⟩
        case round =>
          clear T5 U5 F5 K5
          obtain ⟨i, ⟨L, E⟩, ⟨L', E'⟩, rfl, i1, i2, ⟨i3, i4⟩, hk, hk', hee, hT, hU, hFr⟩ := hrel
          by_cases hi : i < len2 ∧ i < 150
          · obtain ⟨hi1, hi2⟩ := hi
            obtain ⟨rfl, hb⟩ := HB1.out (by omega)
            obtain ⟨m0, m0w⟩ := HF1.out i hi1 0 _ rfl
            obtain ⟨m1, m1w⟩ := HF1.out i hi1 1 _ rfl
            simp only [List.length_cons, List.length_nil, Nat.reduceAdd, Nat.add_zero] at m0 m1
            generalize F1 i 0 = f at *
            generalize F1 i 1 = c at *
            generalize off1 = off at *
            have c0 := (hFr.cell (off := off + i * 2) hb).trans m0
            have c1 := (hFr.cell (off := off + i * 2 + 1) hb).trans m1
            have hbr := Nat.lt_of_lt_of_le hb hFr.size
            simp only at i3 i4 hT hU hee
            have K2 := hk.look (life := life) (f := f) (c := c) s1
            have K2' := hk'.look (life := life) (f := f) (c := c) s1
            have q3 := lookE_le size life f c L E
            have q3' := lookE_le size life f c L' E'
            obtain ⟨ee, eb⟩ := look_same (size := size) (life := life) (f := f) (c := c) hk.len hk'.len hee
            have ebc := lookBC life f c (L, E)
            have HC := fun w' (h : TapAt w' t b size life L E) => tlook (w := w') f c (by omega) s1 s2 l1 l2 hk h
            have HC' := fun w' (h : TapAt w' u b2 size life L' E') => tlook (w := w') f c (by omega) s1 s2 l1 l2 hk' h
            rw [eb] at HC'
            generalize lookE size life f c (L, E) = s2' at *
            generalize lookE size life f c (L', E') = s3' at *
            generalize lookB life f c (L, E) = β at *
            generalize lookC f c = κ at *
            have H1 := Lib.hid HC
            have H2 := Lib.hid HC'
            have HT := Lib.hid hT
            have HU := Lib.hid hU
            have HK2 := Lib.hid K2
            have HK3 := Lib.hid K2'
            have HE := Lib.hid ee
            have HBC := Lib.hid ebc
            clear m0 m1 m0w m1w HC HC' hT K2 K2' hk hk' hU hee ee eb ebc
            go_wp2_with fail
            refine wp_region_seqV_lit (FinS 11 (Fr [] wr) (Since fun w' => Fr [t, b] wr w' ∧ TapAt w' t b size life s2'.1 s2'.2)) fol (by kernel_rfl) (FinS.start (Fr.refl _ _).drew) ?_; (repeat (apply SeqV.cons; (focus (intro Vv bv wv hbv hdv hsh hSv; have bst := shut_no hsh hbv 11 (by kernel_rfl); have s0 := FinS.pre hSv bst; clear hsh hdv; (have q0 := (s0.cell (off := off + i * 2) hbr).trans c0); (have q1 := (s0.cell (off := off + i * 2 + 1) hbr).trans c1); go_wp2_with fail; exact StepPost.mk rfl (FinS.plain (by decide) bst (Fr.trans s0 (by repeat' (first | (with_reducible exact Fr.refl _ _) | (with_reducible assumption) | (with_reducible refine Fr.drew ?_) | (with_reducible refine Fr.drewN ?_ _) | (with_reducible refine Fr.alloc ?_ _) | ((with_reducible refine Fr.setNew ?_ _ ?_ _); rotate_left; (focus (first | (with_reducible assumption) | exact Nat.le_of_lt (by with_reducible assumption) | (focus (simp +arith; done)) | exact Nat.le_trans (by with_reducible assumption) (by simp +arith; done) | (simp; done)))) | ((with_reducible refine Fr.setOld ?_ _ ?_ _); rotate_left; (focus (simp; done))))))))); (try simp only [Act.put, List.setIfInBounds_toArray, List.set_cons_zero, List.set_cons_succ, Nat.reduceAdd, Nat.zero_add]))); apply SeqV.cons (v := .tuple #[.bool β, .int .i64 κ]); (focus (intro Vv bv wv hbv hdv hsh hSv; have s0 := FinS.pre hSv hbv; clear hsh hdv; go_wp2_with fail; with_reducible refine (H1.out _ (HT.out.fr s0 (by simp) (by simp))).mono ?_; rintro e w6 ⟨rfl, T6, f6⟩; go_wp2_with fail; exact StepPost.mk rfl (FinS.fin (Since.mk ⟨(s0.mono (by simp)).trans f6, T6⟩)))); (try simp only [Act.put, List.setIfInBounds_toArray, List.set_cons_zero, List.set_cons_succ, Nat.reduceAdd, Nat.zero_add]); (repeat (apply SeqV.cons; (focus (intro Vv bv wv hbv hdv hsh hSv; have bst := deps_done hsh hdv 11 (by kernel_rfl); have s0 := FinS.end_ hSv bst; clear hsh hdv; go_wp2_with fail; exact StepPost.mk rfl (FinS.plain2 (by decide) bst (Since.fr s0 (by repeat' (first | (with_reducible exact Fr.refl _ _) | (with_reducible assumption) | (with_reducible refine Fr.drew ?_) | (with_reducible refine Fr.drewN ?_ _) | (with_reducible refine Fr.alloc ?_ _) | ((with_reducible refine Fr.setNew ?_ _ ?_ _); rotate_left; (focus (first | (with_reducible assumption) | exact Nat.le_of_lt (by with_reducible assumption) | (focus (simp +arith; done)) | exact Nat.le_trans (by with_reducible assumption) (by simp +arith; done) | (simp; done)))) | ((with_reducible refine Fr.setOld ?_ _ ?_ _); rotate_left; (focus (simp; done))))))))); (try simp only [Act.put, List.setIfInBounds_toArray, List.set_cons_zero, List.set_cons_succ, Nat.reduceAdd, Nat.zero_add]))); refine SeqV.nil ?_
            intro Vv bv w7 hb7 hSv
            obtain ⟨w6, ⟨f6, T6⟩, g6⟩ := FinS.end_ hSv (hb7 11 (by decide))
            have f7 := f6.trans (g6.mono (by simp))
            have T7 := Lib.hid (T6.fr g6 (by simp) (by simp))
            have F7 : Fr [] w w7 := hFr.trans' f7 (by have := hd.out; simp; omega)
            have U7 := Lib.hid (HU.out.fr f7 (by have := hd.out; simp; omega) (by have := hd.out; simp; omega))
            have c0 := (F7.cell (off := off + i * 2) hb).trans ((hFr.cell (off := off + i * 2) hb).symm.trans c0)
            have c1 := (F7.cell (off := off + i * 2 + 1) hb).trans ((hFr.cell (off := off + i * 2 + 1) hb).symm.trans c1)
            have hbr := Nat.lt_of_lt_of_le hb F7.size
            clear hSv hb7 f6 T6 g6 f7 HT HU hFr H1
            go_wp2_with fail
            refine wp_region_seqV_lit (FinS 11 (Fr [] w7) (Since fun w' => Fr [u, b2] w7 w' ∧ TapAt w' u b2 size life s3'.1 s3'.2)) fol (by kernel_rfl) (FinS.start (Fr.refl _ _).drew) ?_; (repeat (apply SeqV.cons; (focus (intro Vv bv wv hbv hdv hsh hSv; have bst := shut_no hsh hbv 11 (by kernel_rfl); have s0 := FinS.pre hSv bst; clear hsh hdv; (have q0 := (s0.cell (off := off + i * 2) hbr).trans c0); (have q1 := (s0.cell (off := off + i * 2 + 1) hbr).trans c1); go_wp2_with fail; exact StepPost.mk rfl (FinS.plain (by decide) bst (Fr.trans s0 (by repeat' (first | (with_reducible exact Fr.refl _ _) | (with_reducible assumption) | (with_reducible refine Fr.drew ?_) | (with_reducible refine Fr.drewN ?_ _) | (with_reducible refine Fr.alloc ?_ _) | ((with_reducible refine Fr.setNew ?_ _ ?_ _); rotate_left; (focus (first | (with_reducible assumption) | exact Nat.le_of_lt (by with_reducible assumption) | (focus (simp +arith; done)) | exact Nat.le_trans (by with_reducible assumption) (by simp +arith; done) | (simp; done)))) | ((with_reducible refine Fr.setOld ?_ _ ?_ _); rotate_left; (focus (simp; done))))))))); (try simp only [Act.put, List.setIfInBounds_toArray, List.set_cons_zero, List.set_cons_succ, Nat.reduceAdd, Nat.zero_add]))); apply SeqV.cons (v := .tuple #[.bool β, .int .i64 κ]); (focus (intro Vv bv wv hbv hdv hsh hSv; have s0 := FinS.pre hSv hbv; clear hsh hdv; go_wp2_with fail; with_reducible refine (H2.out _ (U7.out.fr s0 (by simp) (by simp))).mono ?_; rintro e w6 ⟨rfl, T6, f6⟩; go_wp2_with fail; exact StepPost.mk rfl (FinS.fin (Since.mk ⟨(s0.mono (by simp)).trans f6, T6⟩)))); (try simp only [Act.put, List.setIfInBounds_toArray, List.set_cons_zero, List.set_cons_succ, Nat.reduceAdd, Nat.zero_add]); (repeat (apply SeqV.cons; (focus (intro Vv bv wv hbv hdv hsh hSv; have bst := deps_done hsh hdv 11 (by kernel_rfl); have s0 := FinS.end_ hSv bst; clear hsh hdv; go_wp2_with fail; exact StepPost.mk rfl (FinS.plain2 (by decide) bst (Since.fr s0 (by repeat' (first | (with_reducible exact Fr.refl _ _) | (with_reducible assumption) | (with_reducible refine Fr.drew ?_) | (with_reducible refine Fr.drewN ?_ _) | (with_reducible refine Fr.alloc ?_ _) | ((with_reducible refine Fr.setNew ?_ _ ?_ _); rotate_left; (focus (first | (with_reducible assumption) | exact Nat.le_of_lt (by with_reducible assumption) | (focus (simp +arith; done)) | exact Nat.le_trans (by with_reducible assumption) (by simp +arith; done) | (simp; done)))) | ((with_reducible refine Fr.setOld ?_ _ ?_ _); rotate_left; (focus (simp; done))))))))); (try simp only [Act.put, List.setIfInBounds_toArray, List.set_cons_zero, List.set_cons_succ, Nat.reduceAdd, Nat.zero_add]))); refine SeqV.nil ?_
            intro Vv bv w9 hb9 hSv
            obtain ⟨w8, ⟨f8, U8⟩, g8⟩ := FinS.end_ hSv (hb9 11 (by decide))
            have f9 := f8.trans (g8.mono (by simp))
            have U9 := Lib.hid (U8.fr g8 (by simp) (by simp))
            have F9 : Fr [] w w9 := F7.trans' f9 (by have := hd.out; simp; omega)
            have T9 := Lib.hid (T7.out.fr f9 (by have := hd.out; simp; omega) (by have := hd.out; simp; omega))
            clear hSv hb9 f8 U8 g8 f9 T7 U7 F7 H2 c0 c1 hbr
            rcases HBC.out with rfl | ⟨rfl, rfl⟩
            all_goals
              clear HBC
              go_wp2_with fail
              with_reducible refine (tlistk (L := s2'.1) (E := s2'.2) (by omega) s2 HK2.out T9.out).mono ?_
              rintro e w10 ⟨⟨A10, c10, rfl, O10⟩, f10⟩
              have S10 := Lib.hid (O10.sl (M := []) (by simp))
              clear O10
              go_wp2_with fail
              with_reducible refine (tlistk (L := s3'.1) (E := s3'.2) (by omega) s2 HK3.out (U9.out.fr f10 (by simp) (by simp))).mono ?_
              rintro e w11 ⟨⟨A11, c11, rfl, O11⟩, f11⟩
              have S11 := O11.sl (M := []) (by simp)
              rw [← HE.out] at S11
              have S11 := Lib.hid S11
              clear O11
              go_wp2_with fail
              with_reducible refine (rt_same _ _ (s2'.2.map (ag s2'.1)) (by have := HK2.out.len; simp; omega) _ _ _ (S10.out.fr f11 (by simp)) S11.out).mono ?_
              rintro e w12 ⟨rfl, f12⟩
              have g12 : Fr [] w9 w12 := (f10.trans f11).trans f12
              go_wp2_with fail
              go_roundw
              case rel => exact ⟨i + 1, s2', s3', by go_num, by omega, by omega, ⟨by simp; omega, by simp; omega⟩, HK2.out, HK3.out, HE.out, T9.out.fr g12 (by simp) (by simp), U9.out.fr g12 (by simp) (by simp), F9.trans g12⟩
              case measure => simp [intOf]; omega
          · have HT := Lib.hid hT
            have HU := Lib.hid hU
            have HK2 := Lib.hid hk
            have HK3 := Lib.hid hk'
            have HE := Lib.hid hee
            simp only at i3 i4
            have hqq : ¬ i < len2 ∨ (i < len2 ∧ ¬ i < 150) := by omega
            rcases hqq with q1 | ⟨q1, q2⟩
            all_goals
              clear hi hT hU hk hk' hee
              go_wp2_with fail
              with_reducible refine (tlistk (L := L) (E := E) (by omega) s2 HK2.out HT.out).mono ?_
              rintro e w10 ⟨⟨A10, c10, rfl, O10⟩, f10⟩
              have S10 := Lib.hid (O10.sl (M := []) (by simp))
              clear O10
              go_wp2_with fail
              with_reducible refine (tlistk (L := L') (E := E') (by omega) s2 HK3.out (HU.out.fr f10 (by simp) (by simp))).mono ?_
              rintro e w11 ⟨⟨A11, c11, rfl, O11⟩, f11⟩
              have S11 := O11.sl (M := []) (by simp)
              have he := HE.out
              rw [← he] at S11
              have S11 := Lib.hid S11
              clear O11 he
              go_wp2_with fail
              with_reducible refine (rt_same _ _ (E.map (ag L)) (by have := HK2.out.len; simp at this ⊢; omega) _ _ _ (S10.out.fr f11 (by simp)) S11.out).mono ?_
              rintro e w12 ⟨rfl, f12⟩
              go_wp2_with fail
              go_ret
              exact ⟨rfl, ((hFr.trans f10).trans f11).trans f12⟩
end Go.Proofs.Ytoebfpimojkamaa
