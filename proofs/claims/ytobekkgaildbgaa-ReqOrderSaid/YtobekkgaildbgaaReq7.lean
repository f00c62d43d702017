/- Package req: Touched; the reference's Answer, Answers. -/
import Derived.Test.YtobekkgaildbgaaReq6
namespace Go.Proofs.Ytobekkgaildbgaa
open Go.RowKit Go.Lib Go.Maps

set_option maxHeartbeats 2000000 in
theorem eq_arr8 (p0 p1 p2 p3 p4 p5 p6 p7 q0 q1 q2 q3 q4 q5 q6 q7 : Int) (w : World) : (Op.equalIn 10000 93 (.agg #[.int .i64 p0, .int .i64 p1, .int .i64 p2, .int .i64 p3, .int .i64 p4, .int .i64 p5, .int .i64 p6, .int .i64 p7]) (.agg #[.int .i64 q0, .int .i64 q1, .int .i64 q2, .int .i64 q3, .int .i64 q4, .int .i64 q5, .int .i64 q6, .int .i64 q7])).run Try.prog w = .ok (decide ([p0, p1, p2, p3, p4, p5, p6, p7] = [q0, q1, q2, q3, q4, q5, q6, q7])) w := by
  have hu := Try.underlying93
  have k3 := Try.isAgg3
  have u3 := Try.underlying3
  rw [show (10000 : Nat) = 9999 + 1 from rfl, Op.equalIn]
  simp [run_underlying hu, go_sem, List.range', k3]
  by_cases h0 : p0 = q0
  rotate_left
  · simp [h0, go_sem]
  by_cases h1 : p1 = q1
  rotate_left
  · simp [h0, h1, go_sem]
  by_cases h2 : p2 = q2
  rotate_left
  · simp [h0, h1, h2, go_sem]
  by_cases h3 : p3 = q3
  rotate_left
  · simp [h0, h1, h2, h3, go_sem]
  by_cases h4 : p4 = q4
  rotate_left
  · simp [h0, h1, h2, h3, h4, go_sem]
  by_cases h5 : p5 = q5
  rotate_left
  · simp [h0, h1, h2, h3, h4, h5, go_sem]
  by_cases h6 : p6 = q6
  rotate_left
  · simp [h0, h1, h2, h3, h4, h5, h6, go_sem]
  by_cases h7 : p7 = q7
  · simp [h0, h1, h2, h3, h4, h5, h6, h7, go_sem]
  · simp [h0, h1, h2, h3, h4, h5, h6, h7, go_sem]
section
variable {w w' : World} {B t b base : Nat} {M M' N L : List Nat} {room : Int} {v : Value} {xs : List AV} {K : List Ans} {S : RS}
set_option maxRecDepth 100000 in
set_option maxHeartbeats 8000000 in
theorem qtouched_no (id : Int) (hg : getg id S.E = none) (H : ReqM w B M t room S) (wid : (Lit.int .i64 id).wf = true) :
    Calls Try.prog 37 #[.pointer (some ⟨t, 0, none⟩), .int .i64 id] w fun e w' => e = .returned (.bool false) ∧ Fr [] w w' := by
  have fol : Try.prog.follows .mixedOrders = true := by kernel_rfl
  obtain ⟨b, base, v, xs, H⟩ := H
  have h8 := get8 H.e8 id
  have HL := Lib.hid (fun Q ops rest o a (hg : Oper.guard o = none) (mo x : Operand) hop hmo hx hK => @wpList_lookg Int Rq _ mR w ops rest o a Q mRok hg mo x hop b S.E hmo H.mp id hx wid hK)
  have HT := H.ht
  have hev : mR.ev ((getg id S.E).getD mR.z) = .agg ((getg id S.E).getD mR.z).cs.toArray := rfl
  have hi : (getg id S.E).isSome = false := by rw [hg]; rfl
  rw [hev, hi] at HL
  have hst := rq_store h8
  have hsz : ((getg id S.E).getD mR.z).cs.length = 17 := rq_size h8
  generalize ((getg id S.E).getD mR.z).cs = cl at *
  clear H wid hev h8 hi hg
  apply blk_use HT; intro hg1 hc1 hz1 _ _ _ _ _
  go_enter Try.func37, Try.ntmps37
  go_wp2_with (at_lookup; refine HL.out _ _ _ _ _ rfl (.tmp 11) (.tmp 12) rfl rfl rfl ?_)
  have f1 : Fr [] w (w.alloc (.cells cl.toArray 95)) := (by repeat' (first | (with_reducible exact Fr.refl _ _) | (with_reducible assumption) | (with_reducible refine Fr.drew ?_) | (with_reducible refine Fr.drewN ?_ _) | (with_reducible refine Fr.alloc ?_ _) | ((with_reducible refine Fr.setNew ?_ _ ?_ _); rotate_left; (focus (first | (with_reducible assumption) | exact Nat.le_of_lt (by with_reducible assumption) | (focus (simp +arith; done)) | exact Nat.le_trans (by with_reducible assumption) (by simp +arith; done) | (simp; done)))) | ((with_reducible refine Fr.setOld ?_ _ ?_ _); rotate_left; (focus (simp; done)))))
  generalize (w.alloc (.cells cl.toArray 95)) = w1 at *
  refine wp_region_seqV_lit (fun _ _ w' => Fr [] w1 w') fol (by kernel_rfl) (Fr.refl _ _).drew ?_
  (iterate 10 (first | (apply SeqV.cons; (focus (intro Vv bv wv hbv hdv hsh hSv; skip; go_wp2_with (fail); exact StepPost.mk rfl (Fr.trans (S := []) hSv (by repeat' (first | (with_reducible exact Fr.refl _ _) | (with_reducible assumption) | (with_reducible refine Fr.drew ?_) | (with_reducible refine Fr.drewN ?_ _) | (with_reducible refine Fr.alloc ?_ _) | ((with_reducible refine Fr.setNew ?_ _ ?_ _); rotate_left; (focus (first | (with_reducible assumption) | exact Nat.le_of_lt (by with_reducible assumption) | (focus (simp +arith; done)) | exact Nat.le_trans (by with_reducible assumption) (by simp +arith; done) | (simp; done)))) | ((with_reducible refine Fr.setOld ?_ _ ?_ _); rotate_left; (focus (simp; done)))))))); (try simp only [Act.put, List.setIfInBounds_toArray, List.set_cons_zero, List.set_cons_succ, Nat.reduceAdd, Nat.zero_add])) | (apply SeqV.cons (v := undef); (focus (intro Vv bv wv hbv hdv hsh hSv; skip; go_wp2_with (fail); exact StepPost.mk rfl (Fr.trans (S := []) hSv (by repeat' (first | (with_reducible exact Fr.refl _ _) | (with_reducible assumption) | (with_reducible refine Fr.drew ?_) | (with_reducible refine Fr.drewN ?_ _) | (with_reducible refine Fr.alloc ?_ _) | ((with_reducible refine Fr.setNew ?_ _ ?_ _); rotate_left; (focus (first | (with_reducible assumption) | exact Nat.le_of_lt (by with_reducible assumption) | (focus (simp +arith; done)) | exact Nat.le_trans (by with_reducible assumption) (by simp +arith; done) | (simp; done)))) | ((with_reducible refine Fr.setOld ?_ _ ?_ _); rotate_left; (focus (simp; done)))))))); (try simp only [Act.put, List.setIfInBounds_toArray, List.set_cons_zero, List.set_cons_succ, Nat.reduceAdd, Nat.zero_add]))))
  refine SeqV.nil ?_
  intro Vv bv w2 hb2 hSv
  clear hb2
  go_wp2_with fail
  go_ret
  exact ⟨rfl, f1.trans hSv⟩
set_option maxRecDepth 100000 in
set_option maxHeartbeats 8000000 in
theorem qtouched_is (id : Int) (r : Rq) (hg : getg id S.E = some r) (H : ReqM w B M t room S) (wid : (Lit.int .i64 id).wf = true) :
    Calls Try.prog 37 #[.pointer (some ⟨t, 0, none⟩), .int .i64 id] w fun e w' => e = .returned (.bool (decide (r.ps ≠ freshP (sizeP r.ps)))) ∧ Fr [] w w' := by
  have fol : Try.prog.follows .mixedOrders = true := by kernel_rfl
  obtain ⟨b, base, v, xs, H⟩ := H
  have h8 := get8 H.e8 id
  have HL := Lib.hid (fun Q ops rest o a (hg : Oper.guard o = none) (mo x : Operand) hop hmo hx hK => @wpList_lookg Int Rq _ mR w ops rest o a Q mRok hg mo x hop b S.E hmo H.mp id hx wid hK)
  have HT := H.ht
  rw [hg] at h8
  unfold Hid at HL
  rw [hg] at HL
  have HL := Lib.hid HL
  simp only [Option.getD_some, Option.isSome_some] at HL h8
  clear H wid hg
  have hev : mR.ev r = .agg r.cs.toArray := rfl
  have HQ := Lib.hid (fun W => qsize r h8 W)
  have hn := sizeP_le h8.p
  have HF := Lib.hid (fun W => qfresh (sizeP r.ps) hn W)
  have hst := rq_store h8
  have hsz : r.cs.length = 17 := rq_size h8
  obtain ⟨a0, a1, a2, a3, a4, a5, a6, a7, hfr⟩ := eight (freshP (sizeP r.ps)) (freshP_len hn)
  obtain ⟨kd, p0, p1, p2, p3, p4, p5, p6, p7, v0, v1, v2, v3, v4, v5, v6, v7, hcs, hkd, hps⟩ := h8.cells
  have heq := fun w => eq_arr8 p0 p1 p2 p3 p4 p5 p6 p7 a0 a1 a2 a3 a4 a5 a6 a7 w
  rw [← hps, ← hfr] at heq
  unfold Hid at HF
  rw [hfr] at HF
  simp only [List.map] at HF
  have HF := Lib.hid HF
  rw [hev] at HL
  have HPT : Hid (decide (r.ps ≠ freshP (sizeP r.ps)) = !decide (r.ps = freshP (sizeP r.ps))) := by unfold Hid; simp
  rw [HPT.out]
  generalize decide (r.ps = freshP (sizeP r.ps)) = β at *
  generalize sizeP r.ps = n at *
  have hclr : r.cs = [.int .i64 kd, .int .i64 p0, .int .i64 p1, .int .i64 p2, .int .i64 p3, .int .i64 p4, .int .i64 p5, .int .i64 p6, .int .i64 p7, .int .u64 v0, .int .u64 v1, .int .u64 v2, .int .u64 v3, .int .u64 v4, .int .u64 v5, .int .u64 v6, .int .u64 v7] := by have := congrArg Array.toList hcs; simpa using this
  have HCL := Lib.hid hclr
  obtain ⟨cl, hcl⟩ : ∃ cl, cl = r.cs := ⟨_, rfl⟩
  rw [← hcl] at HL hst hsz
  have HCL2 : Hid (cl.toArray = #[.int .i64 kd, .int .i64 p0, .int .i64 p1, .int .i64 p2, .int .i64 p3, .int .i64 p4, .int .i64 p5, .int .i64 p6, .int .i64 p7, .int .u64 v0, .int .u64 v1, .int .u64 v2, .int .u64 v3, .int .u64 v4, .int .u64 v5, .int .u64 v6, .int .u64 v7]) := by unfold Hid; rw [hcl, HCL.out]
  unfold Hid at HQ
  rw [hcs] at HQ
  have HQ := Lib.hid HQ
  clear hev hcl hclr hfr hps hcs hkd h8 HPT
  have hn' : (n : Int) ≤ 8 := by omega
  apply blk_use HT; intro hg1 hc1 hz1 _ _ _ _ _
  go_enter Try.func37, Try.ntmps37
  go_wp2_with (at_lookup; refine HL.out _ _ _ _ _ rfl (.tmp 11) (.tmp 12) rfl rfl rfl ?_)
  have f1 : Fr [] w (w.alloc (.cells cl.toArray 95)) := (by repeat' (first | (with_reducible exact Fr.refl _ _) | (with_reducible assumption) | (with_reducible refine Fr.drew ?_) | (with_reducible refine Fr.drewN ?_ _) | (with_reducible refine Fr.alloc ?_ _) | ((with_reducible refine Fr.setNew ?_ _ ?_ _); rotate_left; (focus (first | (with_reducible assumption) | exact Nat.le_of_lt (by with_reducible assumption) | (focus (simp +arith; done)) | exact Nat.le_trans (by with_reducible assumption) (by simp +arith; done) | (simp; done)))) | ((with_reducible refine Fr.setOld ?_ _ ?_ _); rotate_left; (focus (simp; done)))))
  have Q1 : (w.alloc (.cells cl.toArray 95)).heap[w.heap.size]? = some (.cells #[.int .i64 kd, .int .i64 p0, .int .i64 p1, .int .i64 p2, .int .i64 p3, .int .i64 p4, .int .i64 p5, .int .i64 p6, .int .i64 p7, .int .u64 v0, .int .u64 v1, .int .u64 v2, .int .u64 v3, .int .u64 v4, .int .u64 v5, .int .u64 v6, .int .u64 v7] 95) := by rw [← HCL2.out]; (apply heap_eq_of; (focus (repeat (first | (with_reducible assumption) | ((with_reducible refine heap_alloc_at ?_ _); first | (with_reducible rfl) | (focus (simp; done))) | (with_reducible apply heap_alloc_old) | ((with_reducible apply heap_set_other); (case hne => (first | (with_reducible assumption) | exact Nat.ne_of_lt (by with_reducible assumption) | exact Nat.ne_of_gt (by with_reducible assumption) | (focus (simp +arith; done)) | (simp; done)))) | (with_reducible apply heap_set_eq) | (with_reducible apply heap_drew_of) | (with_reducible apply heap_drewN_of)))); (focus (first | (simp; done) | rfl)))
  clear hg1 hc1 hz1 hst hsz HL HT
  generalize (w.alloc (.cells cl.toArray 95)) = w1 at *
  generalize w.heap.size = q at *
  refine wp_region_seqV_lit (fun _ _ w' => Fr [] w1 w') fol (by kernel_rfl) (Fr.refl _ _).drew ?_
  (iterate 3 (first | (apply SeqV.cons; (focus (intro Vv bv wv hbv hdv hsh hSv; skip; go_wp2_with (fail); exact StepPost.mk rfl (Fr.trans (S := []) hSv (by repeat' (first | (with_reducible exact Fr.refl _ _) | (with_reducible assumption) | (with_reducible refine Fr.drew ?_) | (with_reducible refine Fr.drewN ?_ _) | (with_reducible refine Fr.alloc ?_ _) | ((with_reducible refine Fr.setNew ?_ _ ?_ _); rotate_left; (focus (first | (with_reducible assumption) | exact Nat.le_of_lt (by with_reducible assumption) | (focus (simp +arith; done)) | exact Nat.le_trans (by with_reducible assumption) (by simp +arith; done) | (simp; done)))) | ((with_reducible refine Fr.setOld ?_ _ ?_ _); rotate_left; (focus (simp; done)))))))); (try simp only [Act.put, List.setIfInBounds_toArray, List.set_cons_zero, List.set_cons_succ, Nat.reduceAdd, Nat.zero_add])) | (apply SeqV.cons (v := undef); (focus (intro Vv bv wv hbv hdv hsh hSv; skip; go_wp2_with (fail); exact StepPost.mk rfl (Fr.trans (S := []) hSv (by repeat' (first | (with_reducible exact Fr.refl _ _) | (with_reducible assumption) | (with_reducible refine Fr.drew ?_) | (with_reducible refine Fr.drewN ?_ _) | (with_reducible refine Fr.alloc ?_ _) | ((with_reducible refine Fr.setNew ?_ _ ?_ _); rotate_left; (focus (first | (with_reducible assumption) | exact Nat.le_of_lt (by with_reducible assumption) | (focus (simp +arith; done)) | exact Nat.le_trans (by with_reducible assumption) (by simp +arith; done) | (simp; done)))) | ((with_reducible refine Fr.setOld ?_ _ ?_ _); rotate_left; (focus (simp; done)))))))); (try simp only [Act.put, List.setIfInBounds_toArray, List.set_cons_zero, List.set_cons_succ, Nat.reduceAdd, Nat.zero_add]))))
  (iterate 2 (first | (apply SeqV.cons; (focus (intro Vv bv wv hbv hdv hsh hSv; (have t0 := hSv.heap Q1 (by simp)); apply blk_use t0; intro hg21 hc21 hz21 _ _ _ _ _; go_wp2_with (fail); exact StepPost.mk rfl (Fr.trans (S := []) hSv (by repeat' (first | (with_reducible exact Fr.refl _ _) | (with_reducible assumption) | (with_reducible refine Fr.drew ?_) | (with_reducible refine Fr.drewN ?_ _) | (with_reducible refine Fr.alloc ?_ _) | ((with_reducible refine Fr.setNew ?_ _ ?_ _); rotate_left; (focus (first | (with_reducible assumption) | exact Nat.le_of_lt (by with_reducible assumption) | (focus (simp +arith; done)) | exact Nat.le_trans (by with_reducible assumption) (by simp +arith; done) | (simp; done)))) | ((with_reducible refine Fr.setOld ?_ _ ?_ _); rotate_left; (focus (simp; done)))))))); (try simp only [Act.put, List.setIfInBounds_toArray, List.set_cons_zero, List.set_cons_succ, Nat.reduceAdd, Nat.zero_add])) | (apply SeqV.cons (v := undef); (focus (intro Vv bv wv hbv hdv hsh hSv; (have t0 := hSv.heap Q1 (by simp)); apply blk_use t0; intro hg21 hc21 hz21 _ _ _ _ _; go_wp2_with (fail); exact StepPost.mk rfl (Fr.trans (S := []) hSv (by repeat' (first | (with_reducible exact Fr.refl _ _) | (with_reducible assumption) | (with_reducible refine Fr.drew ?_) | (with_reducible refine Fr.drewN ?_ _) | (with_reducible refine Fr.alloc ?_ _) | ((with_reducible refine Fr.setNew ?_ _ ?_ _); rotate_left; (focus (first | (with_reducible assumption) | exact Nat.le_of_lt (by with_reducible assumption) | (focus (simp +arith; done)) | exact Nat.le_trans (by with_reducible assumption) (by simp +arith; done) | (simp; done)))) | ((with_reducible refine Fr.setOld ?_ _ ?_ _); rotate_left; (focus (simp; done)))))))); (try simp only [Act.put, List.setIfInBounds_toArray, List.set_cons_zero, List.set_cons_succ, Nat.reduceAdd, Nat.zero_add]))))
  (iterate 1 (first | (apply SeqV.cons; (focus (intro Vv bv wv hbv hdv hsh hSv; skip; go_wp2_with ((with_reducible refine (HQ.out _).mono ?_); rintro e ww ⟨rfl, ff⟩); exact StepPost.mk rfl (Fr.trans (S := []) hSv (by repeat' (first | (with_reducible exact Fr.refl _ _) | (with_reducible assumption) | (with_reducible refine Fr.drew ?_) | (with_reducible refine Fr.drewN ?_ _) | (with_reducible refine Fr.alloc ?_ _) | ((with_reducible refine Fr.setNew ?_ _ ?_ _); rotate_left; (focus (first | (with_reducible assumption) | exact Nat.le_of_lt (by with_reducible assumption) | (focus (simp +arith; done)) | exact Nat.le_trans (by with_reducible assumption) (by simp +arith; done) | (simp; done)))) | ((with_reducible refine Fr.setOld ?_ _ ?_ _); rotate_left; (focus (simp; done)))))))); (try simp only [Act.put, List.setIfInBounds_toArray, List.set_cons_zero, List.set_cons_succ, Nat.reduceAdd, Nat.zero_add])) | (apply SeqV.cons (v := undef); (focus (intro Vv bv wv hbv hdv hsh hSv; skip; go_wp2_with ((with_reducible refine (HQ.out _).mono ?_); rintro e ww ⟨rfl, ff⟩); exact StepPost.mk rfl (Fr.trans (S := []) hSv (by repeat' (first | (with_reducible exact Fr.refl _ _) | (with_reducible assumption) | (with_reducible refine Fr.drew ?_) | (with_reducible refine Fr.drewN ?_ _) | (with_reducible refine Fr.alloc ?_ _) | ((with_reducible refine Fr.setNew ?_ _ ?_ _); rotate_left; (focus (first | (with_reducible assumption) | exact Nat.le_of_lt (by with_reducible assumption) | (focus (simp +arith; done)) | exact Nat.le_trans (by with_reducible assumption) (by simp +arith; done) | (simp; done)))) | ((with_reducible refine Fr.setOld ?_ _ ?_ _); rotate_left; (focus (simp; done)))))))); (try simp only [Act.put, List.setIfInBounds_toArray, List.set_cons_zero, List.set_cons_succ, Nat.reduceAdd, Nat.zero_add]))))
  (iterate 1 (first | (apply SeqV.cons; (focus (intro Vv bv wv hbv hdv hsh hSv; skip; go_wp2_with ((with_reducible refine (HF.out _).mono ?_); rintro e ww ⟨rfl, ff⟩); exact StepPost.mk rfl (Fr.trans (S := []) hSv (by repeat' (first | (with_reducible exact Fr.refl _ _) | (with_reducible assumption) | (with_reducible refine Fr.drew ?_) | (with_reducible refine Fr.drewN ?_ _) | (with_reducible refine Fr.alloc ?_ _) | ((with_reducible refine Fr.setNew ?_ _ ?_ _); rotate_left; (focus (first | (with_reducible assumption) | exact Nat.le_of_lt (by with_reducible assumption) | (focus (simp +arith; done)) | exact Nat.le_trans (by with_reducible assumption) (by simp +arith; done) | (simp; done)))) | ((with_reducible refine Fr.setOld ?_ _ ?_ _); rotate_left; (focus (simp; done)))))))); (try simp only [Act.put, List.setIfInBounds_toArray, List.set_cons_zero, List.set_cons_succ, Nat.reduceAdd, Nat.zero_add])) | (apply SeqV.cons (v := undef); (focus (intro Vv bv wv hbv hdv hsh hSv; skip; go_wp2_with ((with_reducible refine (HF.out _).mono ?_); rintro e ww ⟨rfl, ff⟩); exact StepPost.mk rfl (Fr.trans (S := []) hSv (by repeat' (first | (with_reducible exact Fr.refl _ _) | (with_reducible assumption) | (with_reducible refine Fr.drew ?_) | (with_reducible refine Fr.drewN ?_ _) | (with_reducible refine Fr.alloc ?_ _) | ((with_reducible refine Fr.setNew ?_ _ ?_ _); rotate_left; (focus (first | (with_reducible assumption) | exact Nat.le_of_lt (by with_reducible assumption) | (focus (simp +arith; done)) | exact Nat.le_trans (by with_reducible assumption) (by simp +arith; done) | (simp; done)))) | ((with_reducible refine Fr.setOld ?_ _ ?_ _); rotate_left; (focus (simp; done)))))))); (try simp only [Act.put, List.setIfInBounds_toArray, List.set_cons_zero, List.set_cons_succ, Nat.reduceAdd, Nat.zero_add]))))
  (iterate 3 (first | (apply SeqV.cons; (focus (intro Vv bv wv hbv hdv hsh hSv; skip; go_wp2_with (fail); exact StepPost.mk rfl (Fr.trans (S := []) hSv (by repeat' (first | (with_reducible exact Fr.refl _ _) | (with_reducible assumption) | (with_reducible refine Fr.drew ?_) | (with_reducible refine Fr.drewN ?_ _) | (with_reducible refine Fr.alloc ?_ _) | ((with_reducible refine Fr.setNew ?_ _ ?_ _); rotate_left; (focus (first | (with_reducible assumption) | exact Nat.le_of_lt (by with_reducible assumption) | (focus (simp +arith; done)) | exact Nat.le_trans (by with_reducible assumption) (by simp +arith; done) | (simp; done)))) | ((with_reducible refine Fr.setOld ?_ _ ?_ _); rotate_left; (focus (simp; done)))))))); (try simp only [Act.put, List.setIfInBounds_toArray, List.set_cons_zero, List.set_cons_succ, Nat.reduceAdd, Nat.zero_add])) | (apply SeqV.cons (v := undef); (focus (intro Vv bv wv hbv hdv hsh hSv; skip; go_wp2_with (fail); exact StepPost.mk rfl (Fr.trans (S := []) hSv (by repeat' (first | (with_reducible exact Fr.refl _ _) | (with_reducible assumption) | (with_reducible refine Fr.drew ?_) | (with_reducible refine Fr.drewN ?_ _) | (with_reducible refine Fr.alloc ?_ _) | ((with_reducible refine Fr.setNew ?_ _ ?_ _); rotate_left; (focus (first | (with_reducible assumption) | exact Nat.le_of_lt (by with_reducible assumption) | (focus (simp +arith; done)) | exact Nat.le_trans (by with_reducible assumption) (by simp +arith; done) | (simp; done)))) | ((with_reducible refine Fr.setOld ?_ _ ?_ _); rotate_left; (focus (simp; done)))))))); (try simp only [Act.put, List.setIfInBounds_toArray, List.set_cons_zero, List.set_cons_succ, Nat.reduceAdd, Nat.zero_add]))))
  refine SeqV.nil ?_
  intro Vv bv w2 hb2 hSv
  clear hb2
  go_wp2_with fail
  go_ret
  exact ⟨rfl, f1.trans hSv⟩
theorem qtouched (id : Int) (H : ReqM w B M t room S) (wid : (Lit.int .i64 id).wf = true) :
    Calls Try.prog 37 #[.pointer (some ⟨t, 0, none⟩), .int .i64 id] w fun e w' => e = .returned (.bool (touchedR id S)) ∧ Fr [] w w' := by
  unfold touchedR
  cases hg : getg id S.E with
  | none => exact qtouched_no id hg H wid
  | some r => exact qtouched_is id r hg H wid
end
def SameA (a b : Ans) : Prop := a.id = b.id ∧ a.cd = b.cd ∧ a.vs = b.vs
set_option maxRecDepth 100000 in
set_option maxHeartbeats 8000000 in
/-- Two answers that are the same. -/
theorem ranswer (id cd : Int) (vs : List Int) (A : Option Addr) (n c : Nat) (A' : Option Addr) (n' c' : Nat) (hl : vs.length ≤ 100000) (M M' : List Nat) (w : World) (h : eU.Sl M w (.slice A n c) vs) (h' : eU.Sl M' w (.slice A' n' c') vs) :
    Calls Try.prog 64 #[.agg #[.int .i64 id, .int .i64 cd, .slice A n c], .agg #[.int .i64 id, .int .i64 cd, .slice A' n' c']] w fun e w' => e = .returned (.bool true) ∧ Fr [] w w' := by
  obtain ⟨_, _, he, _, hA⟩ := h
  injection he with e1 e2 e3
  subst e1 e2 e3
  obtain ⟨_, _, he, _, hB⟩ := h'
  injection he with e1 e2 e3
  subst e1 e2 e3
  have HA := Lib.hid hA
  have HB := Lib.hid hB
  have hl' : (vs.length : Int) ≤ 100000 := by omega
  clear hA hB
  go_enter Try.func64, Try.ntmps64
  go_wp2_with fail
  obtain ⟨w1, hw1⟩ : ∃ w1, w1 = (w.alloc (.cells #[.int .i64 id, .int .i64 cd, .slice A vs.length c] 65)).alloc (.cells #[.int .i64 id, .int .i64 cd, .slice A' vs.length c'] 65) := ⟨_, rfl⟩
  have f1 : Fr [] w w1 := by rw [hw1]; exact (by repeat' (first | (with_reducible exact Fr.refl _ _) | (with_reducible assumption) | (with_reducible refine Fr.drew ?_) | (with_reducible refine Fr.drewN ?_ _) | (with_reducible refine Fr.alloc ?_ _) | ((with_reducible refine Fr.setNew ?_ _ ?_ _); rotate_left; (focus (first | (with_reducible assumption) | exact Nat.le_of_lt (by with_reducible assumption) | (focus (simp +arith; done)) | exact Nat.le_trans (by with_reducible assumption) (by simp +arith; done) | (simp; done)))) | ((with_reducible refine Fr.setOld ?_ _ ?_ _); rotate_left; (focus (simp; done)))))
  have P1 : w1.heap[w.heap.size]? = some (.cells #[.int .i64 id, .int .i64 cd, .slice A vs.length c] 65) := by rw [hw1]; (apply heap_eq_of; (focus (repeat (first | (with_reducible assumption) | ((with_reducible refine heap_alloc_at ?_ _); first | (with_reducible rfl) | (focus (simp; done))) | (with_reducible apply heap_alloc_old) | ((with_reducible apply heap_set_other); (case hne => (first | (with_reducible assumption) | exact Nat.ne_of_lt (by with_reducible assumption) | exact Nat.ne_of_gt (by with_reducible assumption) | (focus (simp +arith; done)) | (simp; done)))) | (with_reducible apply heap_set_eq) | (with_reducible apply heap_drew_of) | (with_reducible apply heap_drewN_of)))); (focus (first | (simp; done) | rfl)))
  have Q1 : w1.heap[w.heap.size + 1]? = some (.cells #[.int .i64 id, .int .i64 cd, .slice A' vs.length c'] 65) := by rw [hw1]; (apply heap_eq_of; (focus (repeat (first | (with_reducible assumption) | ((with_reducible refine heap_alloc_at ?_ _); first | (with_reducible rfl) | (focus (simp; done))) | (with_reducible apply heap_alloc_old) | ((with_reducible apply heap_set_other); (case hne => (first | (with_reducible assumption) | exact Nat.ne_of_lt (by with_reducible assumption) | exact Nat.ne_of_gt (by with_reducible assumption) | (focus (simp +arith; done)) | (simp; done)))) | (with_reducible apply heap_set_eq) | (with_reducible apply heap_drew_of) | (with_reducible apply heap_drewN_of)))); (focus (first | (simp; done) | rfl)))
  rw [← hw1]
  clear hw1
  generalize hp : w.heap.size = p at *
  generalize hq : p + 1 = q at *
  have HPP := Lib.hid hp
  clear hp hq
  go_loopw [5] (fun v wr => ∃ i : Nat, v = .int .i64 i ∧ i ≤ vs.length ∧ Fr [] w1 wr) (fun v _ => vs.length - (intOf v).toNat)
  case atStart => exact ⟨0, rfl, by omega, Fr.refl _ _⟩
  case round =>
    obtain ⟨i, rfl, i1, F⟩ := hrel
    have P2 := F.heap P1 (by simp)
    have Q2 := F.heap Q1 (by simp)
    apply blk_use P2; intro hg1 hc1 hz1 _ _ _ _ _
    apply blk_use Q2; intro hg2 hc2 hz2 _ _ _ _ _
    by_cases hlt : i < vs.length
    · rcases HA.out with rfl | ⟨b, off, rfl, hb, _, hcl⟩
      · simp at hlt
      rcases HB.out with rfl | ⟨b2, off2, rfl, hb2, _, hcl2⟩
      · simp at hlt
      have hx : vs[i]? = some vs[i] := List.getElem?_eq_getElem hlt
      have FF := f1.trans F
      have hb : b < w.heap.size := by have := HPP.out; omega
      have hb2 : b2 < w.heap.size := by have := HPP.out; omega
      have a0 := (FF.cell (off := off + i) hb).trans (eU_at hcl hx)
      have d0 := (FF.cell (off := off2 + i) hb2).trans (eU_at hcl2 hx)
      have z1 := Nat.lt_of_lt_of_le hb FF.size
      have z2 := Nat.lt_of_lt_of_le hb2 FF.size
      have HFF := Lib.hid F
      generalize vs[i] = x at *
      clear hcl hcl2 hx FF F
      go_wp2_with fail
      refine wp_region_seqV_lit (fun _ _ w' => Fr [] wr w') (by kernel_rfl) (by kernel_rfl) (Fr.refl _ _).drew ?_
      (iterate 11 (first | (apply SeqV.cons; (focus (intro Vv bv wv hbv hdv hsh hSv; (have t0 := hSv.heap P2 (by simp)); apply blk_use t0; intro hg21 hc21 hz21 _ _ _ _ _; (have t1 := hSv.heap Q2 (by simp)); apply blk_use t1; intro hg22 hc22 hz22 _ _ _ _ _; (have y0 := (hSv.cell (off := off + i) z1).trans a0); (have y1 := (hSv.cell (off := off2 + i) z2).trans d0); go_wp2_with (fail); exact StepPost.mk rfl (Fr.trans (S := []) hSv (by repeat' (first | (with_reducible exact Fr.refl _ _) | (with_reducible assumption) | (with_reducible refine Fr.drew ?_) | (with_reducible refine Fr.drewN ?_ _) | (with_reducible refine Fr.alloc ?_ _) | ((with_reducible refine Fr.setNew ?_ _ ?_ _); rotate_left; (focus (first | (with_reducible assumption) | exact Nat.le_of_lt (by with_reducible assumption) | (focus (simp +arith; done)) | exact Nat.le_trans (by with_reducible assumption) (by simp +arith; done) | (simp; done)))) | ((with_reducible refine Fr.setOld ?_ _ ?_ _); rotate_left; (focus (simp; done)))))))); (try simp only [Act.put, List.setIfInBounds_toArray, List.set_cons_zero, List.set_cons_succ, Nat.reduceAdd, Nat.zero_add])) | (apply SeqV.cons (v := undef); (focus (intro Vv bv wv hbv hdv hsh hSv; (have t0 := hSv.heap P2 (by simp)); apply blk_use t0; intro hg21 hc21 hz21 _ _ _ _ _; (have t1 := hSv.heap Q2 (by simp)); apply blk_use t1; intro hg22 hc22 hz22 _ _ _ _ _; (have y0 := (hSv.cell (off := off + i) z1).trans a0); (have y1 := (hSv.cell (off := off2 + i) z2).trans d0); go_wp2_with (fail); exact StepPost.mk rfl (Fr.trans (S := []) hSv (by repeat' (first | (with_reducible exact Fr.refl _ _) | (with_reducible assumption) | (with_reducible refine Fr.drew ?_) | (with_reducible refine Fr.drewN ?_ _) | (with_reducible refine Fr.alloc ?_ _) | ((with_reducible refine Fr.setNew ?_ _ ?_ _); rotate_left; (focus (first | (with_reducible assumption) | exact Nat.le_of_lt (by with_reducible assumption) | (focus (simp +arith; done)) | exact Nat.le_trans (by with_reducible assumption) (by simp +arith; done) | (simp; done)))) | ((with_reducible refine Fr.setOld ?_ _ ?_ _); rotate_left; (focus (simp; done)))))))); (try simp only [Act.put, List.setIfInBounds_toArray, List.set_cons_zero, List.set_cons_succ, Nat.reduceAdd, Nat.zero_add]))))
      refine SeqV.nil ?_
      intro Vv bv w6 hb6 hSv
      have G6 := HFF.out.trans hSv
      clear hb6 hSv
      go_wp2_with fail
      go_roundw
      case rel => exact ⟨i + 1, by go_num, by omega, G6⟩
      case measure => simp [intOf]; omega
    · have : i = vs.length := by omega
      subst this
      go_wp2
      go_ret
      exact ⟨rfl, f1.trans F⟩
set_option maxRecDepth 100000 in
set_option maxHeartbeats 8000000 in
/-- Two lists of answers that are the same. -/
theorem ranswers (xs ys : List AV) (K : List Ans) (A A' : Option Addr) (c c' : Nat) (hl : K.length ≤ 10000) (hv : ∀ a ∈ K, a.vs.length ≤ 10000) (L1 L2 L3 L4 : List Nat) (w : World) (h1 : eA.Sl L1 w (.slice A xs.length c) xs) (h2 : AnsR w L2 xs K) (h3 : eA.Sl L3 w (.slice A' ys.length c') ys) (h4 : AnsR w L4 ys K) :
    Calls Try.prog 41 #[.slice A xs.length c, .slice A' ys.length c'] w fun e w' => e = .returned (.bool true) ∧ Fr [] w w' := by
  have e1 := h2.len
  have e2 := h4.len
  have HR := Lib.hid h2
  have HR' := Lib.hid h4
  obtain ⟨_, _, he, _, hA⟩ := h1
  injection he with q1 _ q3
  subst q1 q3
  obtain ⟨_, _, he, _, hB⟩ := h3
  injection he with q1 _ q3
  subst q1 q3
  have HA := Lib.hid hA
  have HB := Lib.hid hB
  have HE1 := Lib.hid e1
  have HE2 := Lib.hid e2
  have HV := Lib.hid hv
  rw [e1, e2]
  have hl' : (K.length : Int) ≤ 10000 := by omega
  clear hA hB h2 h4 e1 e2 hv
  go_enter Try.func41, Try.ntmps41
  go_wp2_with fail
  go_loopw [5] (fun v wr => ∃ i : Nat, v = .int .i64 i ∧ i ≤ K.length ∧ Fr [] w wr) (fun v _ => K.length - (intOf v).toNat)
  case atStart => exact ⟨0, rfl, by omega, Fr.refl _ _⟩
  case round =>
    obtain ⟨i, rfl, i1, F⟩ := hrel
    by_cases hlt : i < K.length
    · have hlx : i < xs.length := by have := HE1.out; omega
      have hly : i < ys.length := by have := HE2.out; omega
      rcases HA.out with hz | ⟨b, off, rfl, hb, _, hcl⟩
      · rw [hz] at hlx; simp at hlx
      rcases HB.out with hz | ⟨b2, off2, rfl, hb2, _, hcl2⟩
      · rw [hz] at hly; simp at hly
      have hx : xs[i]? = some xs[i] := List.getElem?_eq_getElem hlx
      have hy : ys[i]? = some ys[i] := List.getElem?_eq_getElem hly
      have ha : K[i]? = some K[i] := List.getElem?_eq_getElem hlt
      obtain ⟨x1, x2, x3⟩ := HR.out.get hx ha
      obtain ⟨y1, y2, y3⟩ := HR'.out.get hy ha
      have hvl := HV.out _ (List.mem_of_getElem? ha)
      obtain ⟨c0, c1, c2⟩ := eA_at hcl hx
      obtain ⟨g0, g1, g2⟩ := eA_at hcl2 hy
      rw [x1] at c0
      rw [x2] at c1
      rw [y1] at g0
      rw [y2] at g1
      generalize xs[i] = X at *
      generalize ys[i] = Y at *
      generalize K[i] = a at *
      obtain ⟨_, _, XA, Xn, Xc⟩ := X
      obtain ⟨_, _, YA, Yn, Yc⟩ := Y
      obtain ⟨aid, acd, avs⟩ := a
      simp only [AV.v] at x3 y3 c0 c1 c2 g0 g1 g2 hvl
      have d0 := (F.cell (off := off + i * 3) hb).trans c0
      have d1 := (F.cell (off := off + i * 3 + 1) hb).trans c1
      have d2 := (F.cell (off := off + i * 3 + 2) hb).trans c2
      have e0 := (F.cell (off := off2 + i * 3) hb2).trans g0
      have e1 := (F.cell (off := off2 + i * 3 + 1) hb2).trans g1
      have e2 := (F.cell (off := off2 + i * 3 + 2) hb2).trans g2
      have z1 := Nat.lt_of_lt_of_le hb F.size
      have z2 := Nat.lt_of_lt_of_le hb2 F.size
      have HC : Hid (∀ W, Fr [] wr W → Calls Try.prog 64 #[.agg #[.int .i64 aid, .int .i64 acd, .slice XA Xn Xc], .agg #[.int .i64 aid, .int .i64 acd, .slice YA Yn Yc]] W fun e w' => e = .returned (.bool true) ∧ Fr [] W w') :=
        fun W hW => ranswer aid acd avs XA Xn Xc YA Yn Yc (by omega) [] [] W ((x3.mono (M' := []) (by simp)).fr (F.trans hW) (by simp)) ((y3.mono (M' := []) (by simp)).fr (F.trans hW) (by simp))
      have HFF := Lib.hid F
      clear hcl hcl2 hx hy ha x1 x2 x3 y1 y2 y3 c0 c1 c2 g0 g1 g2 F hlx hly
      go_wp2_with fail
      refine wp_region_seqV_lit (fun _ _ w' => Fr [] wr w') (by kernel_rfl) (by kernel_rfl) (Fr.refl _ _).drew ?_
      (iterate 8 (first | (apply SeqV.cons; (focus (intro Vv bv wv hbv hdv hsh hSv; (have r0 := (hSv.cell (off := off + i * 3) z1).trans d0); (have r1 := (hSv.cell (off := off + i * 3 + 1) z1).trans d1); (have r2 := (hSv.cell (off := off + i * 3 + 2) z1).trans d2); (have t0 := (hSv.cell (off := off2 + i * 3) z2).trans e0); (have t1 := (hSv.cell (off := off2 + i * 3 + 1) z2).trans e1); (have t2 := (hSv.cell (off := off2 + i * 3 + 2) z2).trans e2); go_wp2_with (fail); exact StepPost.mk rfl (Fr.trans (S := []) hSv (by repeat' (first | (with_reducible exact Fr.refl _ _) | (with_reducible assumption) | (with_reducible refine Fr.drew ?_) | (with_reducible refine Fr.drewN ?_ _) | (with_reducible refine Fr.alloc ?_ _) | ((with_reducible refine Fr.setNew ?_ _ ?_ _); rotate_left; (focus (first | (with_reducible assumption) | exact Nat.le_of_lt (by with_reducible assumption) | (focus (simp +arith; done)) | exact Nat.le_trans (by with_reducible assumption) (by simp +arith; done) | (simp; done)))) | ((with_reducible refine Fr.setOld ?_ _ ?_ _); rotate_left; (focus (simp; done)))))))); (try simp only [Act.put, List.setIfInBounds_toArray, List.set_cons_zero, List.set_cons_succ, Nat.reduceAdd, Nat.zero_add])) | (apply SeqV.cons (v := undef); (focus (intro Vv bv wv hbv hdv hsh hSv; (have r0 := (hSv.cell (off := off + i * 3) z1).trans d0); (have r1 := (hSv.cell (off := off + i * 3 + 1) z1).trans d1); (have r2 := (hSv.cell (off := off + i * 3 + 2) z1).trans d2); (have t0 := (hSv.cell (off := off2 + i * 3) z2).trans e0); (have t1 := (hSv.cell (off := off2 + i * 3 + 1) z2).trans e1); (have t2 := (hSv.cell (off := off2 + i * 3 + 2) z2).trans e2); go_wp2_with (fail); exact StepPost.mk rfl (Fr.trans (S := []) hSv (by repeat' (first | (with_reducible exact Fr.refl _ _) | (with_reducible assumption) | (with_reducible refine Fr.drew ?_) | (with_reducible refine Fr.drewN ?_ _) | (with_reducible refine Fr.alloc ?_ _) | ((with_reducible refine Fr.setNew ?_ _ ?_ _); rotate_left; (focus (first | (with_reducible assumption) | exact Nat.le_of_lt (by with_reducible assumption) | (focus (simp +arith; done)) | exact Nat.le_trans (by with_reducible assumption) (by simp +arith; done) | (simp; done)))) | ((with_reducible refine Fr.setOld ?_ _ ?_ _); rotate_left; (focus (simp; done)))))))); (try simp only [Act.put, List.setIfInBounds_toArray, List.set_cons_zero, List.set_cons_succ, Nat.reduceAdd, Nat.zero_add]))))
      (iterate 1 (first | (apply SeqV.cons; (focus (intro Vv bv wv hbv hdv hsh hSv; skip; go_wp2_with ((with_reducible refine (HC.out _ hSv).mono ?_); rintro e ww ⟨rfl, ff⟩); exact StepPost.mk rfl (Fr.trans (S := []) hSv (by repeat' (first | (with_reducible exact Fr.refl _ _) | (with_reducible assumption) | (with_reducible refine Fr.drew ?_) | (with_reducible refine Fr.drewN ?_ _) | (with_reducible refine Fr.alloc ?_ _) | ((with_reducible refine Fr.setNew ?_ _ ?_ _); rotate_left; (focus (first | (with_reducible assumption) | exact Nat.le_of_lt (by with_reducible assumption) | (focus (simp +arith; done)) | exact Nat.le_trans (by with_reducible assumption) (by simp +arith; done) | (simp; done)))) | ((with_reducible refine Fr.setOld ?_ _ ?_ _); rotate_left; (focus (simp; done)))))))); (try simp only [Act.put, List.setIfInBounds_toArray, List.set_cons_zero, List.set_cons_succ, Nat.reduceAdd, Nat.zero_add])) | (apply SeqV.cons (v := undef); (focus (intro Vv bv wv hbv hdv hsh hSv; skip; go_wp2_with ((with_reducible refine (HC.out _ hSv).mono ?_); rintro e ww ⟨rfl, ff⟩); exact StepPost.mk rfl (Fr.trans (S := []) hSv (by repeat' (first | (with_reducible exact Fr.refl _ _) | (with_reducible assumption) | (with_reducible refine Fr.drew ?_) | (with_reducible refine Fr.drewN ?_ _) | (with_reducible refine Fr.alloc ?_ _) | ((with_reducible refine Fr.setNew ?_ _ ?_ _); rotate_left; (focus (first | (with_reducible assumption) | exact Nat.le_of_lt (by with_reducible assumption) | (focus (simp +arith; done)) | exact Nat.le_trans (by with_reducible assumption) (by simp +arith; done) | (simp; done)))) | ((with_reducible refine Fr.setOld ?_ _ ?_ _); rotate_left; (focus (simp; done)))))))); (try simp only [Act.put, List.setIfInBounds_toArray, List.set_cons_zero, List.set_cons_succ, Nat.reduceAdd, Nat.zero_add]))))
      (iterate 1 (first | (apply SeqV.cons; (focus (intro Vv bv wv hbv hdv hsh hSv; skip; go_wp2_with (fail); exact StepPost.mk rfl (Fr.trans (S := []) hSv (by repeat' (first | (with_reducible exact Fr.refl _ _) | (with_reducible assumption) | (with_reducible refine Fr.drew ?_) | (with_reducible refine Fr.drewN ?_ _) | (with_reducible refine Fr.alloc ?_ _) | ((with_reducible refine Fr.setNew ?_ _ ?_ _); rotate_left; (focus (first | (with_reducible assumption) | exact Nat.le_of_lt (by with_reducible assumption) | (focus (simp +arith; done)) | exact Nat.le_trans (by with_reducible assumption) (by simp +arith; done) | (simp; done)))) | ((with_reducible refine Fr.setOld ?_ _ ?_ _); rotate_left; (focus (simp; done)))))))); (try simp only [Act.put, List.setIfInBounds_toArray, List.set_cons_zero, List.set_cons_succ, Nat.reduceAdd, Nat.zero_add])) | (apply SeqV.cons (v := undef); (focus (intro Vv bv wv hbv hdv hsh hSv; skip; go_wp2_with (fail); exact StepPost.mk rfl (Fr.trans (S := []) hSv (by repeat' (first | (with_reducible exact Fr.refl _ _) | (with_reducible assumption) | (with_reducible refine Fr.drew ?_) | (with_reducible refine Fr.drewN ?_ _) | (with_reducible refine Fr.alloc ?_ _) | ((with_reducible refine Fr.setNew ?_ _ ?_ _); rotate_left; (focus (first | (with_reducible assumption) | exact Nat.le_of_lt (by with_reducible assumption) | (focus (simp +arith; done)) | exact Nat.le_trans (by with_reducible assumption) (by simp +arith; done) | (simp; done)))) | ((with_reducible refine Fr.setOld ?_ _ ?_ _); rotate_left; (focus (simp; done)))))))); (try simp only [Act.put, List.setIfInBounds_toArray, List.set_cons_zero, List.set_cons_succ, Nat.reduceAdd, Nat.zero_add]))))
      refine SeqV.nil ?_
      intro Vv bv w6 hb6 hSv
      have G6 := HFF.out.trans hSv
      clear hb6 hSv
      go_wp2_with fail
      go_roundw
      case rel => exact ⟨i + 1, by go_num, by omega, G6⟩
      case measure => simp [intOf]; omega
    · have : i = K.length := by omega
      subst this
      go_wp2
      go_ret
      exact ⟨rfl, F⟩
end Go.Proofs.Ytobekkgaildbgaa
