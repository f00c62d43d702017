/- TapPlays answers true at every size, life and script, and changes nothing that was there. -/
import Derived.Test.YtoebfpimojkamaaTapUse
namespace Go.Proofs.Ytoebfpimojkamaa
open Go.RowKit Go.Sort Go.Lib

set_option maxRecDepth 100000 in
set_option maxHeartbeats 4000000 in
theorem tplays_bad (size life : Int) (A : Option Addr) (len cap : Nat) (h : ¬ (1 ≤ size ∧ size ≤ 32 ∧ 1 ≤ life ∧ life ≤ 64)) (w : World) :
    Calls Try.prog 4 #[.int .i64 size, .int .i64 life, .slice A len cap] w fun e w' => e = .returned (.bool true) ∧ Fr [] w w' := by
  have HN := Lib.hid h
  have hD : decide (1 ≤ size ∧ size ≤ 32 ∧ 1 ≤ life ∧ life ≤ 64) = false := decide_eq_false h
  have HM := Lib.hid (rt_may size life)
  rw [hD] at HM
  clear h hD
  go_enter Try.func4, Try.ntmps4
  go_wp2_with fail
  refine (tawake _).mono ?_
  rintro e w1 ⟨rfl, f1⟩
  go_wp2_with fail
  refine (tnew_no size life HN.out _).mono ?_
  rintro e w2 ⟨rfl, rfl⟩
  go_wp2_with fail
  refine (HM.out _).mono ?_
  rintro e w2 ⟨rfl, rfl⟩
  go_wp2_with fail
  go_ret
  exact ⟨rfl, f1⟩

set_option maxRecDepth 100000 in
set_option maxHeartbeats 8000000 in
theorem tplays_ok (size life : Int) (A : Option Addr) (len cap : Nat) (h : 1 ≤ size ∧ size ≤ 32 ∧ 1 ≤ life ∧ life ≤ 64) (hn : len ≤ maxLen) (w : World) (hA : IntsAt w [.i64, .i64] A len) :
    Calls Try.prog 4 #[.int .i64 size, .int .i64 life, .slice A len cap] w fun e w' => e = .returned (.bool true) ∧ Fr [] w w' := by
  have hD : decide (1 ≤ size ∧ size ≤ 32 ∧ 1 ≤ life ∧ life ≤ 64) = true := decide_eq_true h
  have HM := Lib.hid (rt_may size life)
  rw [hD] at HM
  obtain ⟨s1, s2, l1, l2⟩ := h
  obtain ⟨b0, off, F, hb, hF⟩ := hA
  have HB := Lib.hid hb
  have HF := Lib.hid hF
  have hn' : len ≤ 9223372036854775807 := by simpa [maxLen] using hn
  have fol : Try.prog.follows .mixedOrders = true := by kernel_rfl
  clear hb hF hn hD
  go_enter Try.func4, Try.ntmps4
  go_wp2_with fail
  refine (tawake _).mono ?_
  rintro e w1 ⟨rfl, f1⟩
  go_wp2_with fail
  refine (tnew_ok size life s1 s2 l1 l2 _).mono ?_
  rintro e w2 ⟨t, b, rfl, T2, ht, hbb, f2⟩
  go_wp2_with fail
  refine (HM.out _).mono ?_
  rintro e w3 ⟨rfl, rfl⟩
  go_wp2_with fail
  refine (rt_new size life _ [t, b] (by have := T2.lt; simp; omega)).mono ?_
  rintro e w3 ⟨rfl, R3, f3, _⟩
  have T3 := T2.fr f3 (by simp) (by simp)
  have F3 := (f1.trans f2).trans f3
  have hlt := T2.lt
  have h1 := f1.size
  have h2 := f2.size
  generalize hr : w2.heap.size = r at *
  have hd : Hid (w.heap.size ≤ t ∧ w.heap.size ≤ b ∧ w.heap.size ≤ r ∧ t ≠ r ∧ b ≠ r) := ⟨by omega, by omega, by omega, by omega, by omega⟩
  clear T2 f1 f2 f3 ht hbb hr hlt h1 h2
  go_wp2_with fail
  go_loopw [10] (fun v wr => ∃ (i : Nat) (s : Int × List (Int × Int)), v = .int .i64 i ∧ i ≤ len ∧ i ≤ 150 ∧ s.1 ≤ i ∧ TapOk size s ∧ TapAt wr t b size life s.1 s.2 ∧ RTap [r, t, b] wr r size life (s.2.map (ag s.1)) ∧ Fr [] w wr) (fun v _ => 151 - (intOf v).toNat)
  case atStart => exact ⟨0, (0, []), rfl, by omega, by omega, by simp, TapOk.new size (by omega), T3, R3, F3⟩
  case round =>
    clear T3 R3 F3
    obtain ⟨i, ⟨L, E⟩, rfl, i1, i2, i3, hk, hT, hR, hFr⟩ := hrel
    by_cases hi : i < len ∧ i < 150
    · obtain ⟨hi1, hi2⟩ := hi
      obtain ⟨rfl, hb⟩ := HB.out (by omega)
      obtain ⟨m0, m0w⟩ := HF.out i hi1 0 _ rfl
      obtain ⟨m1, m1w⟩ := HF.out i hi1 1 _ rfl
      simp only [List.length_cons, List.length_nil, Nat.reduceAdd, Nat.add_zero] at m0 m1
      generalize F i 0 = f at *
      generalize F i 1 = c at *
      have c0 := (hFr.cell (off := off + i * 2) hb).trans m0
      have c1 := (hFr.cell (off := off + i * 2 + 1) hb).trans m1
      have hbr := Nat.lt_of_lt_of_le hb hFr.size
      simp only at i3 hT hR
      have K2 := hk.look (life := life) (f := f) (c := c) s1
      have q3 := lookE_le size life f c L E
      have HC := fun w' (h : TapAt w' t b size life L E) => tlook (w := w') f c (by omega) s1 s2 l1 l2 hk h
      have HC2 := fun w' (h : RTap [r, t, b] w' r size life (E.map (ag L))) => rt_lookc (w := w') f c (by omega) s1 s2 hk h
      generalize lookE size life f c (L, E) = s2' at *
      generalize lookB life f c (L, E) = β at *
      generalize lookC f c = κ at *
      have H1 := Lib.hid HC
      have H2 := Lib.hid HC2
      have HT := Lib.hid hT
      have HR := Lib.hid hR
      have HK2 := Lib.hid K2
      clear m0 m1 m0w m1w HC HC2 hT hR K2 hk
      go_wp2_with fail
      refine wp_region_seqV_lit (FinS 11 (Fr [] wr) (Since fun w' => Fr [t, b] wr w' ∧ TapAt w' t b size life s2'.1 s2'.2)) fol (by kernel_rfl) (FinS.start (Fr.refl _ _).drew) ?_
      (repeat (apply SeqV.cons; (focus (intro Vv bv wv hbv hdv hsh hSv; have bst := shut_no hsh hbv 11 (by kernel_rfl); have s0 := FinS.pre hSv bst; clear hsh hdv; (have q0 := (s0.cell (off := off + i * 2) hbr).trans c0); (have q1 := (s0.cell (off := off + i * 2 + 1) hbr).trans c1); go_wp2_with fail; exact StepPost.mk rfl (FinS.plain (by decide) bst (Fr.trans s0 (by repeat' (first | (with_reducible exact Fr.refl _ _) | (with_reducible assumption) | (with_reducible refine Fr.drew ?_) | (with_reducible refine Fr.drewN ?_ _) | (with_reducible refine Fr.alloc ?_ _) | ((with_reducible refine Fr.setNew ?_ _ ?_ _); rotate_left; (focus (first | (with_reducible assumption) | exact Nat.le_of_lt (by with_reducible assumption) | (focus (simp +arith; done)) | exact Nat.le_trans (by with_reducible assumption) (by simp +arith; done) | (simp; done)))) | ((with_reducible refine Fr.setOld ?_ _ ?_ _); rotate_left; (focus (simp; done))))))))); (try simp only [Act.put, List.setIfInBounds_toArray, List.set_cons_zero, List.set_cons_succ, Nat.reduceAdd, Nat.zero_add])))
      apply SeqV.cons (v := .tuple #[.bool β, .int .i64 κ]); (focus (intro Vv bv wv hbv hdv hsh hSv; have s0 := FinS.pre hSv hbv; clear hsh hdv; go_wp2_with fail; refine (H1.out _ (HT.out.fr s0 (by simp) (by simp))).mono ?_; rintro e w6 ⟨rfl, T6, f6⟩; go_wp2_with fail; exact StepPost.mk rfl (FinS.fin (Since.mk ⟨(s0.mono (by simp)).trans f6, T6⟩)))); (try simp only [Act.put, List.setIfInBounds_toArray, List.set_cons_zero, List.set_cons_succ, Nat.reduceAdd, Nat.zero_add])
      (repeat (apply SeqV.cons; (focus (intro Vv bv wv hbv hdv hsh hSv; have bst := deps_done hsh hdv 11 (by kernel_rfl); have s0 := FinS.end_ hSv bst; clear hsh hdv; go_wp2_with fail; exact StepPost.mk rfl (FinS.plain2 (by decide) bst (Since.fr s0 (by repeat' (first | (with_reducible exact Fr.refl _ _) | (with_reducible assumption) | (with_reducible refine Fr.drew ?_) | (with_reducible refine Fr.drewN ?_ _) | (with_reducible refine Fr.alloc ?_ _) | ((with_reducible refine Fr.setNew ?_ _ ?_ _); rotate_left; (focus (first | (with_reducible assumption) | exact Nat.le_of_lt (by with_reducible assumption) | (focus (simp +arith; done)) | exact Nat.le_trans (by with_reducible assumption) (by simp +arith; done) | (simp; done)))) | ((with_reducible refine Fr.setOld ?_ _ ?_ _); rotate_left; (focus (simp; done))))))))); (try simp only [Act.put, List.setIfInBounds_toArray, List.set_cons_zero, List.set_cons_succ, Nat.reduceAdd, Nat.zero_add])))
      refine SeqV.nil ?_
      intro Vv bv w7 hb7 hSv
      obtain ⟨w6, ⟨f6, T6⟩, g6⟩ := FinS.end_ hSv (hb7 11 (by decide))
      have f7 := f6.trans (g6.mono (by simp))
      have T7 := T6.fr g6 (by simp) (by simp)
      have F7 : Fr [] w w7 := hFr.trans' f7 (by have := hd.out; simp; omega)
      have R7 := HR.out.fr f7 (by have := hd.out; simp; omega)
      have d0 := (F7.cell (off := off + i * 2) hb).trans ((hFr.cell (off := off + i * 2) hb).symm.trans c0)
      have d1 := (F7.cell (off := off + i * 2 + 1) hb).trans ((hFr.cell (off := off + i * 2 + 1) hb).symm.trans c1)
      have hbr7 := Nat.lt_of_lt_of_le hb F7.size
      have HR7 := Lib.hid R7
      have HT7 := Lib.hid T7
      have HF7 := Lib.hid F7
      clear hSv hb7 f6 T6 g6 f7 T7 R7 F7 c0 c1 hbr HT HR hFr H1
      go_wp2_with fail
      refine wp_region_seqV_lit (FinS 11 (Fr [] w7) (Since fun w' => Fr [r] w7 w' ∧ RTap [r, t, b] w' r size life (s2'.2.map (ag s2'.1)))) fol (by kernel_rfl) (FinS.start (Fr.refl _ _).drew) ?_
      (repeat (apply SeqV.cons; (focus (intro Vv bv wv hbv hdv hsh hSv; have bst := shut_no hsh hbv 11 (by kernel_rfl); have s0 := FinS.pre hSv bst; clear hsh hdv; (have q0 := (s0.cell (off := off + i * 2) hbr7).trans d0); (have q1 := (s0.cell (off := off + i * 2 + 1) hbr7).trans d1); go_wp2_with fail; exact StepPost.mk rfl (FinS.plain (by decide) bst (Fr.trans s0 (by repeat' (first | (with_reducible exact Fr.refl _ _) | (with_reducible assumption) | (with_reducible refine Fr.drew ?_) | (with_reducible refine Fr.drewN ?_ _) | (with_reducible refine Fr.alloc ?_ _) | ((with_reducible refine Fr.setNew ?_ _ ?_ _); rotate_left; (focus (first | (with_reducible assumption) | exact Nat.le_of_lt (by with_reducible assumption) | (focus (simp +arith; done)) | exact Nat.le_trans (by with_reducible assumption) (by simp +arith; done) | (simp; done)))) | ((with_reducible refine Fr.setOld ?_ _ ?_ _); rotate_left; (focus (simp; done))))))))); (try simp only [Act.put, List.setIfInBounds_toArray, List.set_cons_zero, List.set_cons_succ, Nat.reduceAdd, Nat.zero_add])))
      apply SeqV.cons (v := .tuple #[.bool β, .int .i64 κ]); (focus (intro Vv bv wv hbv hdv hsh hSv; have s0 := FinS.pre hSv hbv; clear hsh hdv; go_wp2_with fail; refine (H2.out _ (HR7.out.fr s0 (by simp))).mono ?_; rintro e w6 ⟨rfl, R6, f6⟩; go_wp2_with fail; exact StepPost.mk rfl (FinS.fin (Since.mk ⟨(s0.mono (by simp)).trans f6, R6⟩)))); (try simp only [Act.put, List.setIfInBounds_toArray, List.set_cons_zero, List.set_cons_succ, Nat.reduceAdd, Nat.zero_add])
      (repeat (apply SeqV.cons; (focus (intro Vv bv wv hbv hdv hsh hSv; have bst := deps_done hsh hdv 11 (by kernel_rfl); have s0 := FinS.end_ hSv bst; clear hsh hdv; go_wp2_with fail; exact StepPost.mk rfl (FinS.plain2 (by decide) bst (Since.fr s0 (by repeat' (first | (with_reducible exact Fr.refl _ _) | (with_reducible assumption) | (with_reducible refine Fr.drew ?_) | (with_reducible refine Fr.drewN ?_ _) | (with_reducible refine Fr.alloc ?_ _) | ((with_reducible refine Fr.setNew ?_ _ ?_ _); rotate_left; (focus (first | (with_reducible assumption) | exact Nat.le_of_lt (by with_reducible assumption) | (focus (simp +arith; done)) | exact Nat.le_trans (by with_reducible assumption) (by simp +arith; done) | (simp; done)))) | ((with_reducible refine Fr.setOld ?_ _ ?_ _); rotate_left; (focus (simp; done))))))))); (try simp only [Act.put, List.setIfInBounds_toArray, List.set_cons_zero, List.set_cons_succ, Nat.reduceAdd, Nat.zero_add])))
      refine SeqV.nil ?_
      intro Vv bv w9 hb9 hSv
      obtain ⟨w8, ⟨f8, R8⟩, g8⟩ := FinS.end_ hSv (hb9 11 (by decide))
      have f9 := f8.trans (g8.mono (by simp))
      have R9 := R8.fr g8 (by simp)
      have F9 : Fr [] w w9 := HF7.out.trans' f9 (by have := hd.out; simp; omega)
      have T9 := HT7.out.fr f9 (by have := hd.out; simp; omega) (by have := hd.out; simp; omega)
      clear hSv hb9 f8 R8 g8 f9 d0 d1 hbr7 HT7 HR7 HF7 H2
      obtain ⟨_, _, v9, h9, S9⟩ := id R9
      obtain ⟨A9, c9, rfl, q9⟩ := id S9
      simp only [List.length_map] at h9 S9
      have HS9 := Lib.hid S9
      have HR9 := Lib.hid R9
      have HT9 := Lib.hid T9
      clear S9 q9 R9 T9
      go_wp2_with fail
      refine wp_region_seqV_lit (ValS 10 (fun v w' => eX.Sl [] w' v (s2'.2.map (ag s2'.1))) w9) fol (by kernel_rfl) ValS.start ?_
      (repeat (first | (apply SeqV.cons; (focus (intro Vv bv wv hbv hdv hsh hSv; apply hSv.fr.use (k := r); (focus (repeat (first | (with_reducible assumption) | ((with_reducible refine heap_alloc_at ?_ _); first | (with_reducible rfl) | (focus (simp; done))) | (with_reducible apply heap_alloc_old) | ((with_reducible apply heap_set_other); (case hne => (first | (with_reducible assumption) | exact Nat.ne_of_lt (by with_reducible assumption) | exact Nat.ne_of_gt (by with_reducible assumption) | (focus (simp +arith; done)) | (simp; done)))) | (with_reducible apply heap_set_eq) | (with_reducible apply heap_drew_of) | (with_reducible apply heap_drewN_of)))); (focus (first | (simp; done) | (simp; assumption))); intro hg21 hc21 hz21 _ _ _ _ _; (try simp only [List.setIfInBounds_toArray, List.set_cons_zero, List.set_cons_succ] at hg21 hc21); clear hsh hdv; go_wp2_with fail; exact StepPost.mk rfl (ValS.plain hSv (by decide) (by repeat' (first | (with_reducible exact Fr.refl _ _) | (with_reducible assumption) | (with_reducible refine Fr.drew ?_) | (with_reducible refine Fr.drewN ?_ _) | (with_reducible refine Fr.alloc ?_ _) | ((with_reducible refine Fr.setNew ?_ _ ?_ _); rotate_left; (focus (first | (with_reducible assumption) | exact Nat.le_of_lt (by with_reducible assumption) | (focus (simp +arith; done)) | exact Nat.le_trans (by with_reducible assumption) (by simp +arith; done) | (simp; done)))) | ((with_reducible refine Fr.setOld ?_ _ ?_ _); rotate_left; (focus (simp; done)))))))); (try simp only [Act.put, List.setIfInBounds_toArray, List.set_cons_zero, List.set_cons_succ, Nat.reduceAdd, Nat.zero_add])) | (apply SeqV.cons (v := undef); (focus (intro Vv bv wv hbv hdv hsh hSv; apply hSv.fr.use (k := r); (focus (repeat (first | (with_reducible assumption) | ((with_reducible refine heap_alloc_at ?_ _); first | (with_reducible rfl) | (focus (simp; done))) | (with_reducible apply heap_alloc_old) | ((with_reducible apply heap_set_other); (case hne => (first | (with_reducible assumption) | exact Nat.ne_of_lt (by with_reducible assumption) | exact Nat.ne_of_gt (by with_reducible assumption) | (focus (simp +arith; done)) | (simp; done)))) | (with_reducible apply heap_set_eq) | (with_reducible apply heap_drew_of) | (with_reducible apply heap_drewN_of)))); (focus (first | (simp; done) | (simp; assumption))); intro hg21 hc21 hz21 _ _ _ _ _; (try simp only [List.setIfInBounds_toArray, List.set_cons_zero, List.set_cons_succ] at hg21 hc21); clear hsh hdv; go_wp2_with fail; exact StepPost.mk rfl (ValS.plain hSv (by decide) (by repeat' (first | (with_reducible exact Fr.refl _ _) | (with_reducible assumption) | (with_reducible refine Fr.drew ?_) | (with_reducible refine Fr.drewN ?_ _) | (with_reducible refine Fr.alloc ?_ _) | ((with_reducible refine Fr.setNew ?_ _ ?_ _); rotate_left; (focus (first | (with_reducible assumption) | exact Nat.le_of_lt (by with_reducible assumption) | (focus (simp +arith; done)) | exact Nat.le_trans (by with_reducible assumption) (by simp +arith; done) | (simp; done)))) | ((with_reducible refine Fr.setOld ?_ _ ?_ _); rotate_left; (focus (simp; done)))))))); (try simp only [Act.put, List.setIfInBounds_toArray, List.set_cons_zero, List.set_cons_succ, Nat.reduceAdd, Nat.zero_add]))))
      apply SeqV.var; (focus (intro Vv bv wv hbv hdv hsh hSv; go_wp2_with fail; refine (tlistk (L := s2'.1) (E := s2'.2) (by omega) s2 HK2.out (HT9.out.fr hSv.fr (by simp) (by simp))).mono ?_; rintro e w10 ⟨⟨A10, c10, rfl, O10⟩, f10⟩; go_wp2_with fail; exact StepV.mk _ rfl (ValS.put hSv f10 (O10.sl (by simp))))); (try simp only [Act.put, List.setIfInBounds_toArray, List.set_cons_zero, List.set_cons_succ, Nat.reduceAdd, Nat.zero_add])
      (repeat (first | (apply SeqV.cons; (focus (intro Vv bv wv hbv hdv hsh hSv; apply hSv.fr.use (k := r); (focus (repeat (first | (with_reducible assumption) | ((with_reducible refine heap_alloc_at ?_ _); first | (with_reducible rfl) | (focus (simp; done))) | (with_reducible apply heap_alloc_old) | ((with_reducible apply heap_set_other); (case hne => (first | (with_reducible assumption) | exact Nat.ne_of_lt (by with_reducible assumption) | exact Nat.ne_of_gt (by with_reducible assumption) | (focus (simp +arith; done)) | (simp; done)))) | (with_reducible apply heap_set_eq) | (with_reducible apply heap_drew_of) | (with_reducible apply heap_drewN_of)))); (focus (first | (simp; done) | (simp; assumption))); intro hg21 hc21 hz21 _ _ _ _ _; (try simp only [List.setIfInBounds_toArray, List.set_cons_zero, List.set_cons_succ] at hg21 hc21); clear hsh hdv; go_wp2_with fail; exact StepPost.mk rfl (ValS.plain hSv (by decide) (by repeat' (first | (with_reducible exact Fr.refl _ _) | (with_reducible assumption) | (with_reducible refine Fr.drew ?_) | (with_reducible refine Fr.drewN ?_ _) | (with_reducible refine Fr.alloc ?_ _) | ((with_reducible refine Fr.setNew ?_ _ ?_ _); rotate_left; (focus (first | (with_reducible assumption) | exact Nat.le_of_lt (by with_reducible assumption) | (focus (simp +arith; done)) | exact Nat.le_trans (by with_reducible assumption) (by simp +arith; done) | (simp; done)))) | ((with_reducible refine Fr.setOld ?_ _ ?_ _); rotate_left; (focus (simp; done)))))))); (try simp only [Act.put, List.setIfInBounds_toArray, List.set_cons_zero, List.set_cons_succ, Nat.reduceAdd, Nat.zero_add])) | (apply SeqV.cons (v := undef); (focus (intro Vv bv wv hbv hdv hsh hSv; apply hSv.fr.use (k := r); (focus (repeat (first | (with_reducible assumption) | ((with_reducible refine heap_alloc_at ?_ _); first | (with_reducible rfl) | (focus (simp; done))) | (with_reducible apply heap_alloc_old) | ((with_reducible apply heap_set_other); (case hne => (first | (with_reducible assumption) | exact Nat.ne_of_lt (by with_reducible assumption) | exact Nat.ne_of_gt (by with_reducible assumption) | (focus (simp +arith; done)) | (simp; done)))) | (with_reducible apply heap_set_eq) | (with_reducible apply heap_drew_of) | (with_reducible apply heap_drewN_of)))); (focus (first | (simp; done) | (simp; assumption))); intro hg21 hc21 hz21 _ _ _ _ _; (try simp only [List.setIfInBounds_toArray, List.set_cons_zero, List.set_cons_succ] at hg21 hc21); clear hsh hdv; go_wp2_with fail; exact StepPost.mk rfl (ValS.plain hSv (by decide) (by repeat' (first | (with_reducible exact Fr.refl _ _) | (with_reducible assumption) | (with_reducible refine Fr.drew ?_) | (with_reducible refine Fr.drewN ?_ _) | (with_reducible refine Fr.alloc ?_ _) | ((with_reducible refine Fr.setNew ?_ _ ?_ _); rotate_left; (focus (first | (with_reducible assumption) | exact Nat.le_of_lt (by with_reducible assumption) | (focus (simp +arith; done)) | exact Nat.le_trans (by with_reducible assumption) (by simp +arith; done) | (simp; done)))) | ((with_reducible refine Fr.setOld ?_ _ ?_ _); rotate_left; (focus (simp; done)))))))); (try simp only [Act.put, List.setIfInBounds_toArray, List.set_cons_zero, List.set_cons_succ, Nat.reduceAdd, Nat.zero_add]))))
      apply SeqV.cons (v := .bool true); (focus (intro Vv bv wv hbv hdv hsh hSv; obtain ⟨w11, q11, g11⟩ := hSv.val (hdv { on := 10, ground := .data } (by simp) rfl); go_wp2_with fail; with_reducible refine (rt_same _ _ (s2'.2.map (ag s2'.1)) (by have := HK2.out.len; simp; omega) _ _ _ (q11.fr g11 (by simp)) (HS9.out.fr hSv.fr (by simp))).mono ?_; rintro e w12 ⟨rfl, f12⟩; go_wp2_with fail; exact StepPost.mk rfl (ValS.plain hSv (by decide) f12))); (try simp only [Act.put, List.setIfInBounds_toArray, List.set_cons_zero, List.set_cons_succ, Nat.reduceAdd, Nat.zero_add])
      (repeat (first | (apply SeqV.cons; (focus (intro Vv bv wv hbv hdv hsh hSv; skip; clear hsh hdv; go_wp2_with fail; exact StepPost.mk rfl (ValS.plain hSv (by decide) (by repeat' (first | (with_reducible exact Fr.refl _ _) | (with_reducible assumption) | (with_reducible refine Fr.drew ?_) | (with_reducible refine Fr.drewN ?_ _) | (with_reducible refine Fr.alloc ?_ _) | ((with_reducible refine Fr.setNew ?_ _ ?_ _); rotate_left; (focus (first | (with_reducible assumption) | exact Nat.le_of_lt (by with_reducible assumption) | (focus (simp +arith; done)) | exact Nat.le_trans (by with_reducible assumption) (by simp +arith; done) | (simp; done)))) | ((with_reducible refine Fr.setOld ?_ _ ?_ _); rotate_left; (focus (simp; done)))))))); (try simp only [Act.put, List.setIfInBounds_toArray, List.set_cons_zero, List.set_cons_succ, Nat.reduceAdd, Nat.zero_add])) | (apply SeqV.cons (v := undef); (focus (intro Vv bv wv hbv hdv hsh hSv; skip; clear hsh hdv; go_wp2_with fail; exact StepPost.mk rfl (ValS.plain hSv (by decide) (by repeat' (first | (with_reducible exact Fr.refl _ _) | (with_reducible assumption) | (with_reducible refine Fr.drew ?_) | (with_reducible refine Fr.drewN ?_ _) | (with_reducible refine Fr.alloc ?_ _) | ((with_reducible refine Fr.setNew ?_ _ ?_ _); rotate_left; (focus (first | (with_reducible assumption) | exact Nat.le_of_lt (by with_reducible assumption) | (focus (simp +arith; done)) | exact Nat.le_trans (by with_reducible assumption) (by simp +arith; done) | (simp; done)))) | ((with_reducible refine Fr.setOld ?_ _ ?_ _); rotate_left; (focus (simp; done)))))))); (try simp only [Act.put, List.setIfInBounds_toArray, List.set_cons_zero, List.set_cons_succ, Nat.reduceAdd, Nat.zero_add]))))
      refine SeqV.nil ?_
      intro Vv bv w13 hb13 hSv
      have f13 := hSv.fr
      clear hSv hb13
      go_wp2_with fail
      go_roundw
      case rel => exact ⟨i + 1, s2', by go_num, by omega, by omega, by simp; omega, HK2.out, HT9.out.fr f13 (by simp) (by simp), HR9.out.fr f13 (by simp), F9.trans f13⟩
      case measure => simp [intOf]; omega
    · have HT := Lib.hid hT
      have HK := Lib.hid hk
      clear hR
      by_cases q1 : i < len <;> by_cases q2 : i < 150
      · exact absurd ⟨q1, q2⟩ hi
      all_goals
        clear hi
        go_wp2_with fail
        refine (tforget t b size life L E _ HT.out).mono ?_
        rintro e w5 ⟨rfl, T5, f5⟩
        go_wp2_with fail
        refine (tlistk (L := L) (E := []) (by omega) s2 (HK.out.nil) T5).mono ?_
        rintro e w6 ⟨⟨A6, c6, rfl, _⟩, f6⟩
        go_wp2_with fail
        go_ret
        exact ⟨rfl, (hFr.trans' f5 (by have := hd.out; simp; omega)).trans f6⟩

theorem tplays_walk (size life : Int) (A : Option Addr) (len cap : Nat) (_ : (Lit.int .i64 size).wf = true) (_ : (Lit.int .i64 life).wf = true) (hn : len ≤ maxLen) (w : World) (hA : IntsAt w [.i64, .i64] A len) :
    Calls Try.prog 4 #[.int .i64 size, .int .i64 life, .slice A len cap] w fun e w' => e = .returned (.bool true) ∧ Fr [] w w' := by
  by_cases h : 1 ≤ size ∧ size ≤ 32 ∧ 1 ≤ life ∧ life ≤ 64
  · exact tplays_ok size life A len cap h hn w hA
  · exact tplays_bad size life A len cap h w
end Go.Proofs.Ytoebfpimojkamaa
