/- Package req: Open. -/
import Derived.Test.YtobekkgaildbgaaReq4
namespace Go.Proofs.Ytobekkgaildbgaa
open Go.RowKit Go.Lib Go.Maps

def openR (room id kind count : Int) (S : RS) : Int × RS := if id < 1 ∨ (kind ≠ 1 ∧ kind ≠ 2) ∨ count < 1 ∨ 8 < count then (1, S) else if (getg id S.E).isSome then (4, S) else if (S.E.length : Int) = room then (2, S) else (0, ⟨(id, ⟨kind, freshP count.toNat, List.replicate 8 0⟩) :: cutg id S.E, S.K⟩)
section
variable {w w' : World} {B t b base : Nat} {M M' N : List Nat} {room : Int} {v : Value} {xs : List AV} {S : RS}
set_option maxRecDepth 100000 in
set_option maxHeartbeats 8000000 in
theorem qopen_arg (id kind count : Int) (hbad : id < 1 ∨ (kind ≠ 1 ∧ kind ≠ 2) ∨ count < 1 ∨ 8 < count) (H : ReqM w B M t room S) (wid : (Lit.int .i64 id).wf = true) :
    Calls Try.prog 44 #[.pointer (some ⟨t, 0, none⟩), .int .i64 id, .int .i64 kind, .int .i64 count] w fun e w' => e = .returned (.int .i64 1) ∧ ReqM w' B M t room S ∧ KeepM B M w w' := by
  obtain ⟨b, base, v, xs, H⟩ := H
  have h8 := get8 H.e8 id
  have HL := Lib.hid (fun Q ops rest o a (hg : Oper.guard o = none) (mo x : Operand) hop hmo hx hK => @wpList_lookg Int Rq _ mR w ops rest o a Q mRok hg mo x hop b S.E hmo H.mp id hx wid hK)
  have HT := H.ht
  have HH := Lib.hid H
  have hev : mR.ev ((getg id S.E).getD mR.z) = .agg ((getg id S.E).getD mR.z).cs.toArray := rfl
  rw [hev] at HL
  have hld := rq_loadn h8
  have hst := rq_store h8
  have hsz : ((getg id S.E).getD mR.z).cs.length = 17 := rq_size h8
  generalize ((getg id S.E).getD mR.z).cs = cl at *
  generalize (getg id S.E).isSome = β at *
  clear H wid hev h8
  apply blk_use HT; intro hg1 hc1 hz1 _ _ _ _ _
  have hb : id < 1 ∨ (¬ id < 1 ∧ ((kind != 1) = true ∧ (kind != 2) = true)) ∨ (¬ id < 1 ∧ (kind = 1 ∨ kind = 2) ∧ count < 1) ∨ (¬ id < 1 ∧ (kind = 1 ∨ kind = 2) ∧ ¬ count < 1 ∧ 8 < count) := by
    simp only [bne_iff_ne]; omega
  clear hbad
  rcases hb with h1 | ⟨h1, h2, h3⟩ | ⟨h1, rfl | rfl, h2⟩ | ⟨h1, rfl | rfl, h2, h3⟩
  all_goals
    go_enter Try.func44, Try.ntmps44
    go_wp2_with (at_lookup; refine HL.out _ _ _ _ _ rfl (.tmp 15) (.tmp 16) rfl rfl rfl ?_)
    go_ret
    exact ⟨rfl, ⟨_, _, _, _, HH.out.fr0 (by repeat' (first | (with_reducible exact Fr.refl _ _) | (with_reducible assumption) | (with_reducible refine Fr.drew ?_) | (with_reducible refine Fr.drewN ?_ _) | (with_reducible refine Fr.alloc ?_ _) | ((with_reducible refine Fr.setNew ?_ _ ?_ _); rotate_left; (focus (first | (with_reducible assumption) | exact Nat.le_of_lt (by with_reducible assumption) | (focus (simp +arith; done)) | exact Nat.le_trans (by with_reducible assumption) (by simp +arith; done) | (simp; done)))) | ((with_reducible refine Fr.setOld ?_ _ ?_ _); rotate_left; (focus (simp; done)))))⟩, KeepM.fr0 (by repeat' (first | (with_reducible exact Fr.refl _ _) | (with_reducible assumption) | (with_reducible refine Fr.drew ?_) | (with_reducible refine Fr.drewN ?_ _) | (with_reducible refine Fr.alloc ?_ _) | ((with_reducible refine Fr.setNew ?_ _ ?_ _); rotate_left; (focus (first | (with_reducible assumption) | exact Nat.le_of_lt (by with_reducible assumption) | (focus (simp +arith; done)) | exact Nat.le_trans (by with_reducible assumption) (by simp +arith; done) | (simp; done)))) | ((with_reducible refine Fr.setOld ?_ _ ?_ _); rotate_left; (focus (simp; done)))))⟩
set_option maxRecDepth 100000 in
set_option maxHeartbeats 8000000 in
theorem qopen_is (id kind count : Int) (h1 : ¬ id < 1) (hkd : kind = 1 ∨ kind = 2) (h2 : ¬ count < 1) (h3 : ¬ 8 < count) (hi : (getg id S.E).isSome = true) (H : ReqM w B M t room S) (wid : (Lit.int .i64 id).wf = true) :
    Calls Try.prog 44 #[.pointer (some ⟨t, 0, none⟩), .int .i64 id, .int .i64 kind, .int .i64 count] w fun e w' => e = .returned (.int .i64 4) ∧ ReqM w' B M t room S ∧ KeepM B M w w' := by
  obtain ⟨b, base, v, xs, H⟩ := H
  have h8 := get8 H.e8 id
  have HL := Lib.hid (fun Q ops rest o a (hg : Oper.guard o = none) (mo x : Operand) hop hmo hx hK => @wpList_lookg Int Rq _ mR w ops rest o a Q mRok hg mo x hop b S.E hmo H.mp id hx wid hK)
  have HT := H.ht
  have HH := Lib.hid H
  have hev : mR.ev ((getg id S.E).getD mR.z) = .agg ((getg id S.E).getD mR.z).cs.toArray := rfl
  rw [hev, hi] at HL
  have hst := rq_store h8
  have hsz : ((getg id S.E).getD mR.z).cs.length = 17 := rq_size h8
  generalize ((getg id S.E).getD mR.z).cs = cl at *
  clear H wid hev h8 hi
  apply blk_use HT; intro hg1 hc1 hz1 _ _ _ _ _
  rcases hkd with rfl | rfl
  all_goals
    go_enter Try.func44, Try.ntmps44
    go_wp2_with (at_lookup; refine HL.out _ _ _ _ _ rfl (.tmp 15) (.tmp 16) rfl rfl rfl ?_)
    go_ret
    exact ⟨rfl, ⟨_, _, _, _, HH.out.fr0 (by repeat' (first | (with_reducible exact Fr.refl _ _) | (with_reducible assumption) | (with_reducible refine Fr.drew ?_) | (with_reducible refine Fr.drewN ?_ _) | (with_reducible refine Fr.alloc ?_ _) | ((with_reducible refine Fr.setNew ?_ _ ?_ _); rotate_left; (focus (first | (with_reducible assumption) | exact Nat.le_of_lt (by with_reducible assumption) | (focus (simp +arith; done)) | exact Nat.le_trans (by with_reducible assumption) (by simp +arith; done) | (simp; done)))) | ((with_reducible refine Fr.setOld ?_ _ ?_ _); rotate_left; (focus (simp; done)))))⟩, KeepM.fr0 (by repeat' (first | (with_reducible exact Fr.refl _ _) | (with_reducible assumption) | (with_reducible refine Fr.drew ?_) | (with_reducible refine Fr.drewN ?_ _) | (with_reducible refine Fr.alloc ?_ _) | ((with_reducible refine Fr.setNew ?_ _ ?_ _); rotate_left; (focus (first | (with_reducible assumption) | exact Nat.le_of_lt (by with_reducible assumption) | (focus (simp +arith; done)) | exact Nat.le_trans (by with_reducible assumption) (by simp +arith; done) | (simp; done)))) | ((with_reducible refine Fr.setOld ?_ _ ?_ _); rotate_left; (focus (simp; done)))))⟩
set_option maxRecDepth 100000 in
set_option maxHeartbeats 8000000 in
theorem qopen_full (id kind count : Int) (h1 : ¬ id < 1) (hkd : kind = 1 ∨ kind = 2) (h2 : ¬ count < 1) (h3 : ¬ 8 < count) (hi : (getg id S.E).isSome = false) (hf : (S.E.length : Int) = room) (H : ReqM w B M t room S) (wid : (Lit.int .i64 id).wf = true) :
    Calls Try.prog 44 #[.pointer (some ⟨t, 0, none⟩), .int .i64 id, .int .i64 kind, .int .i64 count] w fun e w' => e = .returned (.int .i64 2) ∧ ReqM w' B M t room S ∧ KeepM B M w w' := by
  have fol : Try.prog.follows .mixedOrders = true := by kernel_rfl
  obtain ⟨b, base, v, xs, H⟩ := H
  have h8 := get8 H.e8 id
  have HL := Lib.hid (fun Q ops rest o a (hg : Oper.guard o = none) (mo x : Operand) hop hmo hx hK => @wpList_lookg Int Rq _ mR w ops rest o a Q mRok hg mo x hop b S.E hmo H.mp id hx wid hK)
  have HT := H.ht
  have HH := Lib.hid H
  have hev : mR.ev ((getg id S.E).getD mR.z) = .agg ((getg id S.E).getD mR.z).cs.toArray := rfl
  rw [hev, hi] at HL
  have hst := rq_store h8
  have hsz : ((getg id S.E).getD mR.z).cs.length = 17 := rq_size h8
  generalize ((getg id S.E).getD mR.z).cs = cl at *
  have hfb : ((S.E.length : Int) == room) = true := by simpa using hf
  clear H wid hev h8 hi hf
  apply blk_use HT; intro hg1 hc1 hz1 _ _ _ _ _
  rcases hkd with rfl | rfl
  all_goals
    go_enter Try.func44, Try.ntmps44
    go_wp2_with (at_lookup; refine HL.out _ _ _ _ _ rfl (.tmp 15) (.tmp 16) rfl rfl rfl ?_)
    have f1 : Fr [] w (w.alloc (.cells cl.toArray 95)) := (by repeat' (first | (with_reducible exact Fr.refl _ _) | (with_reducible assumption) | (with_reducible refine Fr.drew ?_) | (with_reducible refine Fr.drewN ?_ _) | (with_reducible refine Fr.alloc ?_ _) | ((with_reducible refine Fr.setNew ?_ _ ?_ _); rotate_left; (focus (first | (with_reducible assumption) | exact Nat.le_of_lt (by with_reducible assumption) | (focus (simp +arith; done)) | exact Nat.le_trans (by with_reducible assumption) (by simp +arith; done) | (simp; done)))) | ((with_reducible refine Fr.setOld ?_ _ ?_ _); rotate_left; (focus (simp; done)))))
    have H1 := Lib.hid (HH.out.fr0 f1)
    have T1 := f1.heap HT (by simp)
    clear hg1 hc1 hz1
    generalize (w.alloc (.cells cl.toArray 95)) = w1 at *
    refine wp_region_seqV_lit (fun _ _ w' => Fr [] w1 w') fol (by kernel_rfl) (Fr.refl _ _).drew ?_
    (iterate 11 (first | (apply SeqV.cons; (focus (intro Vv bv wv hbv hdv hsh hSv; (have t0 := hSv.heap T1 (by simp)); apply blk_use t0; intro hg21 hc21 hz21 _ _ _ _ _; go_wp2_with ((at_len; refine wpList_mleng _ mRok rfl (.tmp 39) rfl b S.E rfl (H1.out.mp.fr hSv (by simp)) ?_)); exact StepPost.mk rfl (Fr.trans (S := []) hSv (by repeat' (first | (with_reducible exact Fr.refl _ _) | (with_reducible assumption) | (with_reducible refine Fr.drew ?_) | (with_reducible refine Fr.drewN ?_ _) | (with_reducible refine Fr.alloc ?_ _) | ((with_reducible refine Fr.setNew ?_ _ ?_ _); rotate_left; (focus (first | (with_reducible assumption) | exact Nat.le_of_lt (by with_reducible assumption) | (focus (simp +arith; done)) | exact Nat.le_trans (by with_reducible assumption) (by simp +arith; done) | (simp; done)))) | ((with_reducible refine Fr.setOld ?_ _ ?_ _); rotate_left; (focus (simp; done)))))))); (try simp only [Act.put, List.setIfInBounds_toArray, List.set_cons_zero, List.set_cons_succ, Nat.reduceAdd, Nat.zero_add])) | (apply SeqV.cons (v := undef); (focus (intro Vv bv wv hbv hdv hsh hSv; (have t0 := hSv.heap T1 (by simp)); apply blk_use t0; intro hg21 hc21 hz21 _ _ _ _ _; go_wp2_with ((at_len; refine wpList_mleng _ mRok rfl (.tmp 39) rfl b S.E rfl (H1.out.mp.fr hSv (by simp)) ?_)); exact StepPost.mk rfl (Fr.trans (S := []) hSv (by repeat' (first | (with_reducible exact Fr.refl _ _) | (with_reducible assumption) | (with_reducible refine Fr.drew ?_) | (with_reducible refine Fr.drewN ?_ _) | (with_reducible refine Fr.alloc ?_ _) | ((with_reducible refine Fr.setNew ?_ _ ?_ _); rotate_left; (focus (first | (with_reducible assumption) | exact Nat.le_of_lt (by with_reducible assumption) | (focus (simp +arith; done)) | exact Nat.le_trans (by with_reducible assumption) (by simp +arith; done) | (simp; done)))) | ((with_reducible refine Fr.setOld ?_ _ ?_ _); rotate_left; (focus (simp; done)))))))); (try simp only [Act.put, List.setIfInBounds_toArray, List.set_cons_zero, List.set_cons_succ, Nat.reduceAdd, Nat.zero_add]))))
    refine SeqV.nil ?_
    intro Vv bv w2 hb2 hSv
    clear hb2
    go_wp2_with fail
    go_ret
    exact ⟨rfl, ⟨_, _, _, _, H1.out.fr0 hSv⟩, KeepM.fr0 (f1.trans hSv)⟩
set_option maxRecDepth 100000 in
set_option maxHeartbeats 8000000 in
theorem qopen_ok (id kind : Int) (n : Nat) (h1 : ¬ id < 1) (hkd : kind = 1 ∨ kind = 2) (h2 : 1 ≤ n) (h3 : n ≤ 8) (hi : (getg id S.E).isSome = false) (hf : (S.E.length : Int) ≠ room) (hE : S.E.length ≤ 1000) (H : ReqM w B M t room S) (wid : (Lit.int .i64 id).wf = true) :
    Calls Try.prog 44 #[.pointer (some ⟨t, 0, none⟩), .int .i64 id, .int .i64 kind, .int .i64 n] w fun e w' => e = .returned (.int .i64 0) ∧ ReqM w' B M t room ⟨(id, ⟨kind, freshP n, List.replicate 8 0⟩) :: cutg id S.E, S.K⟩ ∧ KeepM B M w w' := by
  have fol : Try.prog.follows .mixedOrders = true := by kernel_rfl
  obtain ⟨b, base, v, xs, H⟩ := H
  have h8 := get8 H.e8 id
  have HL := Lib.hid (fun Q ops rest o a (hg : Oper.guard o = none) (mo x : Operand) hop hmo hx hK => @wpList_lookg Int Rq _ mR w ops rest o a Q mRok hg mo x hop b S.E hmo H.mp id hx wid hK)
  have HT := H.ht
  have HH := Lib.hid H
  have HWI := Lib.hid wid
  have hev : mR.ev ((getg id S.E).getD mR.z) = .agg ((getg id S.E).getD mR.z).cs.toArray := rfl
  rw [hev, hi] at HL
  have hst := rq_store h8
  have hsz : ((getg id S.E).getD mR.z).cs.length = 17 := rq_size h8
  generalize ((getg id S.E).getD mR.z).cs = cl at *
  have hfb : ((S.E.length : Int) == room) = false := by simpa using hf
  have hn1 : ¬ (n : Int) < 1 := by omega
  have hn2 : ¬ 8 < (n : Int) := by omega
  have hn3 : (1 : Int) ≤ (n : Int) := by omega
  have hn4 : (n : Int) ≤ 8 := by omega
  have HF := Lib.hid (fun w => qfresh n h3 w)
  have P8 : Hid (∀ p ∈ (id, (⟨kind, freshP n, List.replicate 8 0⟩ : Rq)) :: cutg id S.E, p.2.Eight) := put8 ⟨freshP_len h3, by simp⟩ HH.out.e8
  obtain ⟨a0, a1, a2, a3, a4, a5, a6, a7, hfr⟩ := eight (freshP n) (freshP_len h3)
  have HEV : Hid (mR.ev ⟨kind, freshP n, List.replicate 8 0⟩ = .agg #[.int .i64 kind, .int .i64 a0, .int .i64 a1, .int .i64 a2, .int .i64 a3, .int .i64 a4, .int .i64 a5, .int .i64 a6, .int .i64 a7, .int .u64 0, .int .u64 0, .int .u64 0, .int .u64 0, .int .u64 0, .int .u64 0, .int .u64 0, .int .u64 0]) := by rw [hfr]; rfl
  unfold Hid at HF
  rw [hfr] at HF
  simp only [List.map] at HF
  have HF := Lib.hid HF
  have HBM : Hid (B ≤ b ∧ b ∉ M) := ⟨H.bb.2, H.mt.2.1⟩
  have hE9 := Lib.hid hE
  clear H wid hev h8 hi hf hfr h2 h3 hE
  obtain ⟨rq, hrq⟩ : ∃ rq : Rq, rq = ⟨kind, freshP n, List.replicate 8 0⟩ := ⟨_, rfl⟩
  rw [← hrq] at HEV P8
  have HRQ := Lib.hid hrq
  clear hrq
  apply blk_use HT; intro hg1 hc1 hz1 _ _ _ _ _
  rcases hkd with rfl | rfl
  all_goals
    go_enter Try.func44, Try.ntmps44
    go_wp2_with (at_lookup; refine HL.out _ _ _ _ _ rfl (.tmp 15) (.tmp 16) rfl rfl rfl ?_)
    have f1 : Fr [] w (w.alloc (.cells cl.toArray 95)) := (by repeat' (first | (with_reducible exact Fr.refl _ _) | (with_reducible assumption) | (with_reducible refine Fr.drew ?_) | (with_reducible refine Fr.drewN ?_ _) | (with_reducible refine Fr.alloc ?_ _) | ((with_reducible refine Fr.setNew ?_ _ ?_ _); rotate_left; (focus (first | (with_reducible assumption) | exact Nat.le_of_lt (by with_reducible assumption) | (focus (simp +arith; done)) | exact Nat.le_trans (by with_reducible assumption) (by simp +arith; done) | (simp; done)))) | ((with_reducible refine Fr.setOld ?_ _ ?_ _); rotate_left; (focus (simp; done)))))
    have H1 := Lib.hid (HH.out.fr0 f1)
    have T1 := f1.heap HT (by simp)
    have F1 := Lib.hid f1
    clear hg1 hc1 hz1 f1 HH HL hst hsz HT
    generalize (w.alloc (.cells cl.toArray 95)) = w1 at *
    refine wp_region_seqV_lit (fun _ _ w' => Fr [] w1 w') fol (by kernel_rfl) (Fr.refl _ _).drew ?_
    (iterate 11 (first | (apply SeqV.cons; (focus (intro Vv bv wv hbv hdv hsh hSv; (have t0 := hSv.heap T1 (by simp)); apply blk_use t0; intro hg21 hc21 hz21 _ _ _ _ _; go_wp2_with ((at_len; refine wpList_mleng _ mRok rfl (.tmp 39) rfl b S.E rfl (H1.out.mp.fr hSv (by simp)) ?_)); exact StepPost.mk rfl (Fr.trans (S := []) hSv (by repeat' (first | (with_reducible exact Fr.refl _ _) | (with_reducible assumption) | (with_reducible refine Fr.drew ?_) | (with_reducible refine Fr.drewN ?_ _) | (with_reducible refine Fr.alloc ?_ _) | ((with_reducible refine Fr.setNew ?_ _ ?_ _); rotate_left; (focus (first | (with_reducible assumption) | exact Nat.le_of_lt (by with_reducible assumption) | (focus (simp +arith; done)) | exact Nat.le_trans (by with_reducible assumption) (by simp +arith; done) | (simp; done)))) | ((with_reducible refine Fr.setOld ?_ _ ?_ _); rotate_left; (focus (simp; done)))))))); (try simp only [Act.put, List.setIfInBounds_toArray, List.set_cons_zero, List.set_cons_succ, Nat.reduceAdd, Nat.zero_add])) | (apply SeqV.cons (v := undef); (focus (intro Vv bv wv hbv hdv hsh hSv; (have t0 := hSv.heap T1 (by simp)); apply blk_use t0; intro hg21 hc21 hz21 _ _ _ _ _; go_wp2_with ((at_len; refine wpList_mleng _ mRok rfl (.tmp 39) rfl b S.E rfl (H1.out.mp.fr hSv (by simp)) ?_)); exact StepPost.mk rfl (Fr.trans (S := []) hSv (by repeat' (first | (with_reducible exact Fr.refl _ _) | (with_reducible assumption) | (with_reducible refine Fr.drew ?_) | (with_reducible refine Fr.drewN ?_ _) | (with_reducible refine Fr.alloc ?_ _) | ((with_reducible refine Fr.setNew ?_ _ ?_ _); rotate_left; (focus (first | (with_reducible assumption) | exact Nat.le_of_lt (by with_reducible assumption) | (focus (simp +arith; done)) | exact Nat.le_trans (by with_reducible assumption) (by simp +arith; done) | (simp; done)))) | ((with_reducible refine Fr.setOld ?_ _ ?_ _); rotate_left; (focus (simp; done)))))))); (try simp only [Act.put, List.setIfInBounds_toArray, List.set_cons_zero, List.set_cons_succ, Nat.reduceAdd, Nat.zero_add]))))
    refine SeqV.nil ?_
    intro Vv bv w2 hb2 hSv
    have H2 := Lib.hid (H1.out.fr0 hSv)
    have T2 := hSv.heap T1 (by simp)
    have F2 := Lib.hid (F1.out.trans hSv)
    clear hb2 hSv H1 T1 F1
    go_wp2_with fail
    refine wp_region_seqV_lit (FinS 9 (Fr [] w2) (fun w' => MapG mR w' b ((id, rq) :: cutg id S.E) ∧ Fr [b] w2 w')) fol (by kernel_rfl) (FinS.start (Fr.refl _ _).drew) ?_
    (iterate 7 (apply SeqV.cons; (focus (intro Vv bv wv hbv hdv hsh hSv; have bst := shut_no hsh hbv 9 (by kernel_rfl); have s0 := FinS.pre hSv bst; clear hsh hdv; (have t0 := s0.heap T2 (by simp)); apply blk_use t0; intro hg21 hc21 hz21 _ _ _ _ _; go_wp2_with fail; exact StepPost.mk rfl (FinS.plain (by decide) bst (Fr.trans s0 (by repeat' (first | (with_reducible exact Fr.refl _ _) | (with_reducible assumption) | (with_reducible refine Fr.drew ?_) | (with_reducible refine Fr.drewN ?_ _) | (with_reducible refine Fr.alloc ?_ _) | ((with_reducible refine Fr.setNew ?_ _ ?_ _); rotate_left; (focus (first | (with_reducible assumption) | exact Nat.le_of_lt (by with_reducible assumption) | (focus (simp +arith; done)) | exact Nat.le_trans (by with_reducible assumption) (by simp +arith; done) | (simp; done)))) | ((with_reducible refine Fr.setOld ?_ _ ?_ _); rotate_left; (focus (simp; done))))))))); (try simp only [Act.put, List.setIfInBounds_toArray, List.set_cons_zero, List.set_cons_succ, Nat.reduceAdd, Nat.zero_add])))
    apply SeqV.cons (v := .agg #[.int .i64 a0, .int .i64 a1, .int .i64 a2, .int .i64 a3, .int .i64 a4, .int .i64 a5, .int .i64 a6, .int .i64 a7]); (focus (intro Vv bv wv hbv hdv hsh hSv; have bst := shut_no hsh hbv 9 (by kernel_rfl); have s0 := FinS.pre hSv bst; go_wp2_with fail; with_reducible refine (HF.out _).mono ?_; rintro e ww ⟨rfl, ff⟩; go_wp2_with fail; exact StepPost.mk rfl (FinS.plain (by decide) bst (s0.trans ff)))); (try simp only [Act.put, List.setIfInBounds_toArray, List.set_cons_zero, List.set_cons_succ, Nat.reduceAdd, Nat.zero_add])
    (iterate 1 (apply SeqV.cons; (focus (intro Vv bv wv hbv hdv hsh hSv; have bst := shut_no hsh hbv 9 (by kernel_rfl); have s0 := FinS.pre hSv bst; clear hsh hdv; skip; go_wp2_with fail; exact StepPost.mk rfl (FinS.plain (by decide) bst (Fr.trans s0 (by repeat' (first | (with_reducible exact Fr.refl _ _) | (with_reducible assumption) | (with_reducible refine Fr.drew ?_) | (with_reducible refine Fr.drewN ?_ _) | (with_reducible refine Fr.alloc ?_ _) | ((with_reducible refine Fr.setNew ?_ _ ?_ _); rotate_left; (focus (first | (with_reducible assumption) | exact Nat.le_of_lt (by with_reducible assumption) | (focus (simp +arith; done)) | exact Nat.le_trans (by with_reducible assumption) (by simp +arith; done) | (simp; done)))) | ((with_reducible refine Fr.setOld ?_ _ ?_ _); rotate_left; (focus (simp; done))))))))); (try simp only [Act.put, List.setIfInBounds_toArray, List.set_cons_zero, List.set_cons_succ, Nat.reduceAdd, Nat.zero_add])))
    apply SeqV.cons (v := undef); (focus (intro Vv bv wv hbv hdv hsh hSv; have s0 := FinS.pre hSv hbv; (go_wp2_with (at_mapUpdate; refine wpList_putg _ mRok rfl (.tmp 49) (.tmp 50) (.tmp 54) rfl b S.E rfl (H2.out.mp.fr s0 (by simp)) (by have := hE9.out; unfold maxLen; omega) id rq rfl HEV.out.symm HWI.out ?_; intro w6 m6 f6); exact StepPost.mk rfl (FinS.fin ⟨m6, (s0.mono (by simp)).trans f6⟩)))); (try simp only [Act.put, List.setIfInBounds_toArray, List.set_cons_zero, List.set_cons_succ, Nat.reduceAdd, Nat.zero_add])
    refine SeqV.nil ?_
    intro Vv bv w3 hb3 hSv
    obtain ⟨P3, F3⟩ := FinS.end_ hSv (hb3 9 (by decide))
    clear hSv hb3
    go_wp2_with fail
    go_ret
    rw [← HRQ.out]
    exact ⟨rfl, ⟨_, _, _, _, H2.out.map F3 P3 P8.out⟩, (KeepM.fr0 F2.out).trans (KeepM.of F3 (by simpa using HBM.out))⟩
theorem qopen (id kind count : Int) (hE : S.E.length ≤ 1000) (H : ReqM w B M t room S) (wid : (Lit.int .i64 id).wf = true) :
    Calls Try.prog 44 #[.pointer (some ⟨t, 0, none⟩), .int .i64 id, .int .i64 kind, .int .i64 count] w fun e w' => e = .returned (.int .i64 (openR room id kind count S).1) ∧ ReqM w' B M t room (openR room id kind count S).2 ∧ KeepM B M w w' := by
  unfold openR
  by_cases h0 : id < 1 ∨ (kind ≠ 1 ∧ kind ≠ 2) ∨ count < 1 ∨ 8 < count
  · rw [if_pos h0]; exact qopen_arg id kind count h0 H wid
  · rw [if_neg h0]
    cases hi : (getg id S.E).isSome
    · rw [if_neg (by simp)]
      by_cases hf : (S.E.length : Int) = room
      · rw [if_pos hf]; exact qopen_full id kind count (by omega) (by omega) (by omega) (by omega) hi hf H wid
      · rw [if_neg hf]
        obtain ⟨n, rfl⟩ : ∃ n : Nat, count = n := ⟨count.toNat, by omega⟩
        rw [Int.toNat_natCast]
        exact qopen_ok id kind n (by omega) (by omega) (by omega) (by omega) hi hf hE H wid
    · rw [if_pos rfl]; exact qopen_is id kind count (by omega) (by omega) (by omega) (by omega) hi H wid
end
end Go.Proofs.Ytobekkgaildbgaa
