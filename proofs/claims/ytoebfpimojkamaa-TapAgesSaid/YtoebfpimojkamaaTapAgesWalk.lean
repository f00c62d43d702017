/- TapAges answers true at every shape and script, and changes nothing that was there. -/
import Derived.Test.YtoebfpimojkamaaTapUse
namespace Go.Proofs.Ytoebfpimojkamaa
open Go.RowKit Go.Sort Go.Lib

set_option maxRecDepth 100000 in
set_option maxHeartbeats 8000000 in
theorem tages_walk (a0 a1 : Int) (A : Option Addr) (len cap : Nat) (wf0 : (Lit.int .u8 a0).wf = true) (wf1 : (Lit.int .u8 a1).wf = true) (hn : len ≤ maxLen) (w : World) (hA : IntsAt w [.i64, .i64] A len) :
    Calls Try.prog 3 #[.agg #[.int .u8 a0, .int .u8 a1], .slice A len cap] w fun e w' => e = .returned (.bool true) ∧ Fr [] w w' := by
  obtain ⟨u0, u1⟩ := u8_bounds wf0
  obtain ⟨u2, u3⟩ := u8_bounds wf1
  obtain ⟨b0, off, F, hb, hF⟩ := hA
  have HB := Lib.hid hb
  have HF := Lib.hid hF
  have hn' : len ≤ 9223372036854775807 := by simpa [maxLen] using hn
  have fol : Try.prog.follows .mixedOrders = true := by kernel_rfl
  obtain ⟨size, hs⟩ : ∃ s : Int, s = 1 + a0 % 32 := ⟨_, rfl⟩
  obtain ⟨life, hl⟩ : ∃ s : Int, s = 1 + a1 % 64 := ⟨_, rfl⟩
  have s1 : 1 ≤ size := by omega
  have s2 : size ≤ 32 := by omega
  have l1 : 1 ≤ life := by omega
  have l2 : life ≤ 64 := by omega
  have HS := Lib.hid hs
  have HL := Lib.hid hl
  clear hb hF hn wf0 wf1 hs hl
  go_enter Try.func3, Try.ntmps3
  go_wp2_with fail
  refine (tawake _).mono ?_
  rintro e w1 ⟨rfl, f1⟩
  apply f1.use (k := w.heap.size); (focus (repeat (first | (with_reducible assumption) | ((with_reducible refine heap_alloc_at ?_ _); first | (with_reducible rfl) | (focus (simp; done))) | (with_reducible apply heap_alloc_old) | ((with_reducible apply heap_set_other); (case hne => (first | (with_reducible assumption) | exact Nat.ne_of_lt (by with_reducible assumption) | exact Nat.ne_of_gt (by with_reducible assumption) | (focus (simp +arith; done)) | (simp; done)))) | (with_reducible apply heap_set_eq) | (with_reducible apply heap_drew_of) | (with_reducible apply heap_drewN_of)))); (focus (first | (simp; done) | (simp; assumption))); intro hg1 hc1 hz1 _ _ _ _ _; (try simp only [List.setIfInBounds_toArray, List.set_cons_zero, List.set_cons_succ] at hg1 hc1)
  have F1' : Fr [] w w1 := Fr.trans (by repeat' (first | (with_reducible exact Fr.refl _ _) | (with_reducible assumption) | (with_reducible refine Fr.drew ?_) | (with_reducible refine Fr.drewN ?_ _) | (with_reducible refine Fr.alloc ?_ _) | ((with_reducible refine Fr.setNew ?_ _ ?_ _); rotate_left; (focus (first | (with_reducible assumption) | exact Nat.le_of_lt (by with_reducible assumption) | (focus (simp +arith; done)) | exact Nat.le_trans (by with_reducible assumption) (by simp +arith; done) | (simp; done)))) | ((with_reducible refine Fr.setOld ?_ _ ?_ _); rotate_left; (focus (simp; done))))) f1
  clear f1
  go_wp2_with fail
  rw [← HS.out, ← HL.out]
  refine (tnew_ok size life s1 s2 l1 l2 _).mono ?_
  rintro e w2 ⟨t, b, rfl, T2, ht, hbb, f2⟩
  have F2 := F1'.trans f2
  have f1s := F1'.size
  have hd : Hid (w.heap.size ≤ t ∧ w.heap.size ≤ b) := ⟨by omega, by omega⟩
  clear F1' f2 ht hbb f1s hg1 hc1 hz1
  go_wp2_with fail
  go_loopw [9] (fun v wr => ∃ (i : Nat) (s : Int × List (Int × Int)), v = .int .i64 i ∧ i ≤ len ∧ i ≤ 150 ∧ s.1 ≤ i ∧ TapOk size s ∧ (∀ p ∈ s.2, s.1 - p.2 ≤ life) ∧ TapAt wr t b size life s.1 s.2 ∧ Fr [] w wr) (fun v _ => 151 - (intOf v).toNat)
  case atStart => exact ⟨0, (0, []), rfl, by omega, by omega, by simp, TapOk.new size (by omega), by simp, T2, F2⟩
  case round =>
    clear T2 F2
    obtain ⟨i, ⟨L, E⟩, rfl, i1, i2, i3, hk, hy, hT, hFr⟩ := hrel
    by_cases hi : i < len ∧ i < 150
    · obtain ⟨hi1, hi2⟩ := hi
      obtain ⟨rfl, hb⟩ := HB.out (by omega)
      obtain ⟨m0, m0w⟩ := HF.out i hi1 0 _ rfl
      obtain ⟨m1, m1w⟩ := HF.out i hi1 1 _ rfl
      simp only [List.length_cons, List.length_nil, Nat.reduceAdd, Nat.add_zero] at m0 m1
      generalize F i 0 = f at *
      generalize F i 1 = c at *
      have c0 := (hFr.cell (off := off + i * 2) hb).trans m0
      have c1 := (hFr.cell (off := off + i * 2 + 1) hb).trans m1
      have hbr := Nat.lt_of_lt_of_le hb hFr.size
      simp only at i3 hT
      have K2 := hk.look (life := life) (f := f) (c := c) s1
      have q3 := lookE_le size life f c L E
      have y2 := lookE_young (size := size) (f := f) (c := c) (by omega) hy
      have HC := fun w' (h : TapAt w' t b size life L E) => tlook (w := w') f c (by omega) s1 s2 l1 l2 hk h
      generalize lookE size life f c (L, E) = s2' at *
      generalize lookB life f c (L, E) = β at *
      generalize lookC f c = κ at *
      have H1 := Lib.hid HC
      have HT := Lib.hid hT
      have HK2 := Lib.hid K2
      have HY2 := Lib.hid y2
      clear m0 m1 m0w m1w HC hT y2 K2 hk hy
      go_wp2_with fail
      refine wp_region_seqV_lit (FinS 11 (Fr [] wr) (Since fun w' => Fr [t, b] wr w' ∧ TapAt w' t b size life s2'.1 s2'.2)) fol (by kernel_rfl) (FinS.start (Fr.refl _ _).drew) ?_; (repeat (apply SeqV.cons; (focus (intro Vv bv wv hbv hdv hsh hSv; have bst := shut_no hsh hbv 11 (by kernel_rfl); have s0 := FinS.pre hSv bst; clear hsh hdv; (have q0 := (s0.cell (off := off + i * 2) hbr).trans c0); (have q1 := (s0.cell (off := off + i * 2 + 1) hbr).trans c1); go_wp2_with fail; exact StepPost.mk rfl (FinS.plain (by decide) bst (Fr.trans s0 (by repeat' (first | (with_reducible exact Fr.refl _ _) | (with_reducible assumption) | (with_reducible refine Fr.drew ?_) | (with_reducible refine Fr.drewN ?_ _) | (with_reducible refine Fr.alloc ?_ _) | ((with_reducible refine Fr.setNew ?_ _ ?_ _); rotate_left; (focus (first | (with_reducible assumption) | exact Nat.le_of_lt (by with_reducible assumption) | (focus (simp +arith; done)) | exact Nat.le_trans (by with_reducible assumption) (by simp +arith; done) | (simp; done)))) | ((with_reducible refine Fr.setOld ?_ _ ?_ _); rotate_left; (focus (simp; done))))))))); (try simp only [Act.put, List.setIfInBounds_toArray, List.set_cons_zero, List.set_cons_succ, Nat.reduceAdd, Nat.zero_add]))); apply SeqV.cons (v := .tuple #[.bool β, .int .i64 κ]); (focus (intro Vv bv wv hbv hdv hsh hSv; have s0 := FinS.pre hSv hbv; clear hsh hdv; go_wp2_with fail; with_reducible refine (H1.out _ (HT.out.fr s0 (by simp) (by simp))).mono ?_; rintro e w6 ⟨rfl, T6, f6⟩; go_wp2_with fail; exact StepPost.mk rfl (FinS.fin (Since.mk ⟨(s0.mono (by simp)).trans f6, T6⟩)))); (try simp only [Act.put, List.setIfInBounds_toArray, List.set_cons_zero, List.set_cons_succ, Nat.reduceAdd, Nat.zero_add]); (repeat (apply SeqV.cons; (focus (intro Vv bv wv hbv hdv hsh hSv; have bst := deps_done hsh hdv 11 (by kernel_rfl); have s0 := FinS.end_ hSv bst; clear hsh hdv; go_wp2_with fail; exact StepPost.mk rfl (FinS.plain2 (by decide) bst (Since.fr s0 (by repeat' (first | (with_reducible exact Fr.refl _ _) | (with_reducible assumption) | (with_reducible refine Fr.drew ?_) | (with_reducible refine Fr.drewN ?_ _) | (with_reducible refine Fr.alloc ?_ _) | ((with_reducible refine Fr.setNew ?_ _ ?_ _); rotate_left; (focus (first | (with_reducible assumption) | exact Nat.le_of_lt (by with_reducible assumption) | (focus (simp +arith; done)) | exact Nat.le_trans (by with_reducible assumption) (by simp +arith; done) | (simp; done)))) | ((with_reducible refine Fr.setOld ?_ _ ?_ _); rotate_left; (focus (simp; done))))))))); (try simp only [Act.put, List.setIfInBounds_toArray, List.set_cons_zero, List.set_cons_succ, Nat.reduceAdd, Nat.zero_add]))); refine SeqV.nil ?_
      intro Vv bv w7 hb7 hSv
      obtain ⟨w6, ⟨f6, T6⟩, g6⟩ := FinS.end_ hSv (hb7 11 (by decide))
      have f7 := f6.trans (g6.mono (by simp))
      have T7 := T6.fr g6 (by simp) (by simp)
      have F7 : Fr [] w w7 := hFr.trans' f7 (by have := hd.out; simp; omega)
      clear hSv hb7 f6 T6 g6 f7 c0 c1 hbr HT hFr H1
      go_wp2_with fail
      have HT7 := Lib.hid T7
      clear T7
      with_reducible refine (tlistk (L := s2'.1) (E := s2'.2) (by omega) s2 HK2.out HT7.out).mono ?_
      rintro e w8 ⟨⟨A8, c8, rfl, O8⟩, f8⟩
      have F8 := F7.trans f8
      have T8 := Lib.hid (HT7.out.fr f8 (by simp) (by simp))
      obtain ⟨A9, c9, he, _, h9⟩ := O8.sl (M := []) (by simp)
      injection he with e1 e2 e3
      clear e2
      subst e1 e3
      have H9 := Lib.hid h9
      have n1 : (s2'.2.length : Int) ≤ size := HK2.out.len
      clear O8 f8 F7 HT7 h9
      go_wp2_with fail
      go_loopw [11] (fun v wr => ∃ k : Nat, v = .int .i64 k ∧ k ≤ s2'.2.length ∧ Fr [] w8 wr) (fun v _ => s2'.2.length - (intOf v).toNat)
      case atStart => exact ⟨0, rfl, by omega, Fr.refl _ _⟩
      case round =>
        obtain ⟨k, rfl, k1, G⟩ := hrel
        by_cases hlt : k < s2'.2.length
        · rcases H9.out with hz | ⟨b9, o9, rfl, hb9, _, hcl⟩
          · have := congrArg List.length hz; simp at this; rw [this] at hlt; simp at hlt
          have hl9 : ∀ j : Nat, j < s2'.2.length → ∃ p, p ∈ s2'.2 ∧ s2'.2[j]? = some p ∧ w8.cell? ⟨b9, o9 + j * 2, none⟩ = some (.int .i64 p.1) ∧ w8.cell? ⟨b9, o9 + j * 2 + 1, none⟩ = some (.int .i64 (s2'.1 - p.2)) := by
            intro j hj
            have := exat (i := j) (x := ag s2'.1 s2'.2[j]) hcl (by simp [hj])
            exact ⟨s2'.2[j], List.getElem_mem _, by simp [hj], this.1, this.2⟩
          have HL9 := Lib.hid hl9
          obtain ⟨p, p1, p2, p3, p4⟩ := hl9 k hlt
          have g3 := (G.cell (off := o9 + k * 2) hb9).trans p3
          have g4 := (G.cell (off := o9 + k * 2 + 1) hb9).trans p4
          have a1 := HY2.out p p1
          have a2 := HK2.out.ages p p1
          have P2 := Lib.hid p2
          have P3 := Lib.hid p3
          clear hcl hl9 p3 p4 p2
          have hl' : (s2'.2.length : Int) ≤ 32 := by omega
          generalize hag : s2'.1 - p.2 = a at *
          have ha0 : 0 ≤ a := by omega
          have ha1 : ¬ a < 0 := by omega
          have ha2 : ¬ life < a := by omega
          have HAG := Lib.hid hag
          clear hag
          rcases k with _ | m
          · go_wp2_with fail
            refine wp_region_seqV_lit (fun _ _ w' => Fr [] wr w') fol (by kernel_rfl) (Fr.refl _ _).drew ?_
            (repeat (first | (apply SeqV.cons; (focus (intro Vv bv wv hbv hdv hsh hSv; (have z3 := (hSv.cell (off := o9 + 0 * 2) (Nat.lt_of_lt_of_le hb9 G.size)).trans g3); (have z4 := (hSv.cell (off := o9 + 0 * 2 + 1) (Nat.lt_of_lt_of_le hb9 G.size)).trans g4); (try simp only [Nat.zero_mul, Nat.add_zero] at z3 z4); go_wp2_with (fail); exact StepPost.mk rfl (Fr.trans (S := []) hSv (by repeat' (first | (with_reducible exact Fr.refl _ _) | (with_reducible assumption) | (with_reducible refine Fr.drew ?_) | (with_reducible refine Fr.drewN ?_ _) | (with_reducible refine Fr.alloc ?_ _) | ((with_reducible refine Fr.setNew ?_ _ ?_ _); rotate_left; (focus (first | (with_reducible assumption) | exact Nat.le_of_lt (by with_reducible assumption) | (focus (simp +arith; done)) | exact Nat.le_trans (by with_reducible assumption) (by simp +arith; done) | (simp; done)))) | ((with_reducible refine Fr.setOld ?_ _ ?_ _); rotate_left; (focus (simp; done)))))))); (try simp only [Act.put, List.setIfInBounds_toArray, List.set_cons_zero, List.set_cons_succ, Nat.reduceAdd, Nat.zero_add])) | (apply SeqV.cons (v := undef); (focus (intro Vv bv wv hbv hdv hsh hSv; (have z3 := (hSv.cell (off := o9 + 0 * 2) (Nat.lt_of_lt_of_le hb9 G.size)).trans g3); (have z4 := (hSv.cell (off := o9 + 0 * 2 + 1) (Nat.lt_of_lt_of_le hb9 G.size)).trans g4); (try simp only [Nat.zero_mul, Nat.add_zero] at z3 z4); go_wp2_with (fail); exact StepPost.mk rfl (Fr.trans (S := []) hSv (by repeat' (first | (with_reducible exact Fr.refl _ _) | (with_reducible assumption) | (with_reducible refine Fr.drew ?_) | (with_reducible refine Fr.drewN ?_ _) | (with_reducible refine Fr.alloc ?_ _) | ((with_reducible refine Fr.setNew ?_ _ ?_ _); rotate_left; (focus (first | (with_reducible assumption) | exact Nat.le_of_lt (by with_reducible assumption) | (focus (simp +arith; done)) | exact Nat.le_trans (by with_reducible assumption) (by simp +arith; done) | (simp; done)))) | ((with_reducible refine Fr.setOld ?_ _ ?_ _); rotate_left; (focus (simp; done)))))))); (try simp only [Act.put, List.setIfInBounds_toArray, List.set_cons_zero, List.set_cons_succ, Nat.reduceAdd, Nat.zero_add]))))
            refine SeqV.nil ?_
            intro Vv bv w9 hb9' G9
            have G' := G.trans G9
            clear hb9' G G9 g3 g4
            go_wp2_with fail
            go_loopw [12] (fun v wr => v = .int .i64 0 ∧ Fr [] w8 wr) (fun v _ => 0)
            case atStart => exact ⟨rfl, G'⟩
            case round =>
              clear G'
              obtain ⟨rfl, G⟩ := hrel
              go_wp2_with fail
              go_roundw
              case rel => exact ⟨1, by go_num, by omega, G⟩
              case measure => simp [intOf]; omega
          · obtain ⟨q, q1, q2, q3, q4⟩ := HL9.out m (by omega)
            have hord : ¬ a ≤ s2'.1 - q.2 := by
              have od := HK2.out.ord
              rw [List.pairwise_iff_getElem] at od
              have h1 := (List.getElem?_eq_some_iff.1 q2).2
              have h2 := (List.getElem?_eq_some_iff.1 P2.out).2
              have := od m (m + 1) (by omega) hlt (by omega)
              rw [h1, h2] at this
              have := HAG.out
              omega
            have y4 := (G.cell (off := o9 + m * 2 + 1) hb9).trans q4
            generalize s2'.1 - q.2 = a' at *
            clear q3 q2 q4
            go_wp2_with fail
            refine wp_region_seqV_lit (fun _ _ w' => Fr [] wr w') fol (by kernel_rfl) (Fr.refl _ _).drew ?_
            (repeat (first | (apply SeqV.cons; (focus (intro Vv bv wv hbv hdv hsh hSv; (have z4 := (hSv.cell (off := o9 + (m + 1) * 2 + 1) (Nat.lt_of_lt_of_le hb9 G.size)).trans g4); (have z5 := (hSv.cell (off := o9 + m * 2 + 1) (Nat.lt_of_lt_of_le hb9 G.size)).trans y4); go_wp2_with (fail); exact StepPost.mk rfl (Fr.trans (S := []) hSv (by repeat' (first | (with_reducible exact Fr.refl _ _) | (with_reducible assumption) | (with_reducible refine Fr.drew ?_) | (with_reducible refine Fr.drewN ?_ _) | (with_reducible refine Fr.alloc ?_ _) | ((with_reducible refine Fr.setNew ?_ _ ?_ _); rotate_left; (focus (first | (with_reducible assumption) | exact Nat.le_of_lt (by with_reducible assumption) | (focus (simp +arith; done)) | exact Nat.le_trans (by with_reducible assumption) (by simp +arith; done) | (simp; done)))) | ((with_reducible refine Fr.setOld ?_ _ ?_ _); rotate_left; (focus (simp; done)))))))); (try simp only [Act.put, List.setIfInBounds_toArray, List.set_cons_zero, List.set_cons_succ, Nat.reduceAdd, Nat.zero_add])) | (apply SeqV.cons (v := undef); (focus (intro Vv bv wv hbv hdv hsh hSv; (have z4 := (hSv.cell (off := o9 + (m + 1) * 2 + 1) (Nat.lt_of_lt_of_le hb9 G.size)).trans g4); (have z5 := (hSv.cell (off := o9 + m * 2 + 1) (Nat.lt_of_lt_of_le hb9 G.size)).trans y4); go_wp2_with (fail); exact StepPost.mk rfl (Fr.trans (S := []) hSv (by repeat' (first | (with_reducible exact Fr.refl _ _) | (with_reducible assumption) | (with_reducible refine Fr.drew ?_) | (with_reducible refine Fr.drewN ?_ _) | (with_reducible refine Fr.alloc ?_ _) | ((with_reducible refine Fr.setNew ?_ _ ?_ _); rotate_left; (focus (first | (with_reducible assumption) | exact Nat.le_of_lt (by with_reducible assumption) | (focus (simp +arith; done)) | exact Nat.le_trans (by with_reducible assumption) (by simp +arith; done) | (simp; done)))) | ((with_reducible refine Fr.setOld ?_ _ ?_ _); rotate_left; (focus (simp; done)))))))); (try simp only [Act.put, List.setIfInBounds_toArray, List.set_cons_zero, List.set_cons_succ, Nat.reduceAdd, Nat.zero_add]))))
            clear y4
            refine SeqV.nil ?_
            intro Vv bv w9 hb9' G9
            have G' := G.trans G9
            clear hb9' G G9 g3 g4
            go_wp2_with fail
            go_loopw [12] (fun v wr => ∃ j : Nat, v = .int .i64 j ∧ j ≤ (m + 1) ∧ Fr [] w8 wr) (fun v _ => (m + 1) - (intOf v).toNat)
            case atStart => exact ⟨0, rfl, by omega, G'⟩
            case round =>
              clear G'
              obtain ⟨j, rfl, j1, G⟩ := hrel
              by_cases hj : j < (m + 1)
              · obtain ⟨q, q1, q2, q3, q4⟩ := HL9.out j (by omega)
                have hne : ¬ q.1 = p.1 := by
                  have nd := HK2.out.nd
                  rw [List.pairwise_iff_getElem] at nd
                  have h1 := (List.getElem?_eq_some_iff.1 q2).2
                  have h2 := (List.getElem?_eq_some_iff.1 P2.out).2
                  have := nd j (m + 1) (by omega) hlt hj
                  rw [h1, h2] at this
                  exact this
                have z1 := (G.cell (off := o9 + j * 2) hb9).trans q3
                have z2 := (G.cell (off := o9 + (m + 1) * 2) hb9).trans P3.out
                (try simp only [Nat.zero_mul, Nat.add_zero] at z2)
                clear q3 q4 q2
                go_wp2_with fail
                go_region
                go_wp2_with fail
                go_roundw
                case rel => exact ⟨j + 1, by go_num, by omega, (by repeat' (first | (with_reducible exact Fr.refl _ _) | (with_reducible assumption) | (with_reducible refine Fr.drew ?_) | (with_reducible refine Fr.drewN ?_ _) | (with_reducible refine Fr.alloc ?_ _) | ((with_reducible refine Fr.setNew ?_ _ ?_ _); rotate_left; (focus (first | (with_reducible assumption) | exact Nat.le_of_lt (by with_reducible assumption) | (focus (simp +arith; done)) | exact Nat.le_trans (by with_reducible assumption) (by simp +arith; done) | (simp; done)))) | ((with_reducible refine Fr.setOld ?_ _ ?_ _); rotate_left; (focus (simp; done)))))⟩
                case measure => simp [intOf]; omega
              · obtain rfl : j = m + 1 := by omega
                go_wp2_with fail
                go_roundw
                case rel => exact ⟨m + 1 + 1, by go_num, by omega, G⟩
                case measure => simp [intOf]; omega
        · obtain rfl : k = s2'.2.length := by omega
          go_wp2_with fail
          go_roundw
          case rel => exact ⟨i + 1, s2', by go_num, by omega, by omega, by simp; omega, HK2.out, HY2.out, T8.out.fr G (by simp) (by simp), F8.trans G⟩
          case measure => simp [intOf]; omega
    · have hqq : ¬ i < len ∨ (i < len ∧ ¬ i < 150) := by omega
      rcases hqq with q1 | ⟨q1, q2⟩
      all_goals
        clear hi hT hk hy
        go_wp2_with fail
        go_ret
        exact ⟨rfl, hFr⟩
end Go.Proofs.Ytoebfpimojkamaa
