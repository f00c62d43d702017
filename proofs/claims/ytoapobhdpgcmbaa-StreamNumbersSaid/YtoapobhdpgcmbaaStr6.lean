/- Package stream: begin. -/
import Derived.Test.YtoapobhdpgcmbaaStr5
namespace Go.Proofs.Ytoapobhdpgcmbaa
open Go.RowKit Go.Lib

section
variable {w w' : World} {t tb b base : Nat} {size life most deg blk us la L : Int} {v : Value} {xs : List Str} {E : List (Int × Int)}
theorem TrkAt.own (h : TrkAt w t tb b base size life most deg blk v xs us la L E) : t ∉ v.ownBlock.toList ∧ tb ∉ v.ownBlock.toList ∧ b ∉ v.ownBlock.toList := by
  have g := h.ow.ge
  have l := h.lt
  exact ⟨fun q => by have := g _ q; omega, fun q => by have := g _ q; omega, fun q => by have := g _ q; omega⟩

/-- The streams ahead of a new one. -/
def begX (most : Int) (xs : List Str) : List Str := if (xs.length : Int) = most then xs.eraseIdx (oldS xs).toNat else xs
set_option maxRecDepth 100000 in
set_option maxHeartbeats 8000000 in
/-- A new stream behind the others; where there are as many as may be, the one that was used longest ago goes. -/
theorem sbegin (first : Int) (hx : xs.length ≤ 16) (hm1 : 1 ≤ most) (hm2 : (xs.length : Int) ≤ most) (hl0 : 0 ≤ la) (hl1 : la ≤ 1000000) (H : TrkAt w t tb b base size life most deg blk v xs us la L E) :
    Calls Try.prog 51 #[.pointer (some ⟨t, 0, none⟩), .int .i64 first] w fun e w' => (∃ v', e = .returned (.int .i64 (begX most xs).length) ∧ TrkAt w' t tb b base size life most deg blk v' (begX most xs ++ [⟨la + 1, first, first, 1, 0, 0⟩]) us (la + 1) L E ∧ ∀ y ∈ v'.ownBlock.toList, y ∈ v.ownBlock.toList ∨ w.heap.size ≤ y) ∧ Fr (t :: v.ownBlock.toList) w w' := by
  have fol : Try.prog.follows .mixedOrders = true := by kernel_rfl
  have hX1 : begX most xs = (if (xs.length : Int) = most then xs.eraseIdx (oldS xs).toNat else xs) := rfl
  generalize begX most xs = X1 at *
  have HX1 := Lib.hid hX1
  have HX := H.ht
  have HH := Lib.hid H
  have HS := Lib.hid (H.ow.sl (M := []) (by simp))
  obtain ⟨ow1, ow2, ow3⟩ := H.own
  have HOW := Lib.hid ow1
  have HNT : Hid (tb ∉ t :: v.ownBlock.toList ∧ b ∉ t :: v.ownBlock.toList) := by
    have hne := H.ne
    exact ⟨fun q => (List.mem_cons.1 q).elim (fun e => hne.1 e.symm) ow2, fun q => (List.mem_cons.1 q).elim (fun e => hne.2 e.symm) ow3⟩
  have hx' : (xs.length : Int) ≤ 16 := by omega
  have HL1 : Hid (X1.length ≤ 16) := by
    unfold Hid; rw [hX1]; split
    · have := List.length_eraseIdx_le xs (oldS xs).toNat; omega
    · exact hx
  obtain ⟨A0, c0, hv0⟩ := H.ow.shape
  have HV0 := Lib.hid hv0
  have HVL := Lib.hid H.ow.lt
  subst hv0
  have HE := Lib.hid (fun (h : (xs.length : Int) = most) => oldS_lt (xs := xs) (by rintro rfl; simp at h; omega))
  clear H hX1 ow1 ow2 ow3
  apply blk_use HX; intro hg1 hc1 hz1 _ _ _ _ _
  go_enter Try.func51, Try.ntmps51
  go_wp2_with fail
  clear hg1 hc1 hz1
  refine wp_region_seqV_lit (fun _ _ w' => Fr [] w w') fol (by kernel_rfl) (Fr.refl _ _).drew ?_
  (repeat (first | (apply SeqV.cons; (focus (intro Vv bv wv hbv hdv hsh hSv; (have hx2 := hSv.heap HX (by simp)); apply blk_use hx2; intro hg21 hc21 hz21 _ _ _ _ _; go_wp2_with (fail); exact StepPost.mk rfl (Fr.trans (S := []) hSv (by repeat' (first | (with_reducible exact Fr.refl _ _) | (with_reducible assumption) | (with_reducible refine Fr.drew ?_) | (with_reducible refine Fr.drewN ?_ _) | (with_reducible refine Fr.alloc ?_ _) | ((with_reducible refine Fr.setNew ?_ _ ?_ _); rotate_left; (focus (first | (with_reducible assumption) | exact Nat.le_of_lt (by with_reducible assumption) | (focus (simp +arith; done)) | exact Nat.le_trans (by with_reducible assumption) (by simp +arith; done) | (simp; done)))) | ((with_reducible refine Fr.setOld ?_ _ ?_ _); rotate_left; (focus (simp; done)))))))); (try simp only [Act.put, List.setIfInBounds_toArray, List.set_cons_zero, List.set_cons_succ, Nat.reduceAdd, Nat.zero_add])) | (apply SeqV.cons (v := undef); (focus (intro Vv bv wv hbv hdv hsh hSv; (have hx2 := hSv.heap HX (by simp)); apply blk_use hx2; intro hg21 hc21 hz21 _ _ _ _ _; go_wp2_with (fail); exact StepPost.mk rfl (Fr.trans (S := []) hSv (by repeat' (first | (with_reducible exact Fr.refl _ _) | (with_reducible assumption) | (with_reducible refine Fr.drew ?_) | (with_reducible refine Fr.drewN ?_ _) | (with_reducible refine Fr.alloc ?_ _) | ((with_reducible refine Fr.setNew ?_ _ ?_ _); rotate_left; (focus (first | (with_reducible assumption) | exact Nat.le_of_lt (by with_reducible assumption) | (focus (simp +arith; done)) | exact Nat.le_trans (by with_reducible assumption) (by simp +arith; done) | (simp; done)))) | ((with_reducible refine Fr.setOld ?_ _ ?_ _); rotate_left; (focus (simp; done)))))))); (try simp only [Act.put, List.setIfInBounds_toArray, List.set_cons_zero, List.set_cons_succ, Nat.reduceAdd, Nat.zero_add]))))
  refine SeqV.nil ?_
  intro Vv bv w2 hb2 G2
  have HX2 := G2.heap HX (by simp)
  clear hb2
  go_upto_if 15 with fail
  go_cut [] (fun wc => ∃ v1, TrkAt wc t tb b base size life most deg blk v1 X1 us la L E ∧ (∀ y ∈ v1.ownBlock.toList, y ∈ (Value.slice A0 xs.length c0).ownBlock.toList ∨ w.heap.size ≤ y) ∧ Fr (t :: (Value.slice A0 xs.length c0).ownBlock.toList) w wc)
  case first =>
    by_cases hm : (xs.length : Int) = most
    · have hmb : ((xs.length : Int) == most) = true := by rw [beq_iff_eq]; exact hm
      obtain ⟨i, hi, hil⟩ := HE.out hm
      have HI := Lib.hid hi
      have HM := Lib.hid hm
      have hX9 : Hid (X1 = xs.eraseIdx i) := by unfold Hid; rw [HX1.out, if_pos hm, hi]; rfl
      clear hi hm
      apply blk_use HX2; intro hg2 hc2 hz2 _ _ _ _ _
      go_wp2_with fail
      with_reducible refine (sbest_begin _ xs (by omega) [] (HS.out.fr G2 (by simp))).mono ?_
      rintro e w3 ⟨rfl, f3⟩
      have G3 := G2.trans f3
      have HX3 := G3.heap HX (by simp)
      rw [show bestF (fun _ => true) (fun a b => decide (a.us < b.us)) xs xs.length = (i : Int) from HI.out]
      clear f3 hg2 hc2 hz2 HX2
      apply blk_use HX3; intro hg3 hc3 hz3 _ _ _ _ _
      go_wp2_with fail
      with_reducible refine (sdel base _ xs i hil (by omega) _ (HH.out.ow.fr G3 (by simp))).mono ?_
      rintro e w4 ⟨⟨v4, rfl, O4, hvo⟩, f4⟩
      have HX4 := f4.heap HX3 HOW.out
      obtain ⟨A4, c4, hv4⟩ := O4.shape
      subst hv4
      have G4 : Fr (t :: (Value.slice A0 xs.length c0).ownBlock.toList) w w4 := (G3.mono (by simp)).trans (f4.mono (fun y hy => Or.inl (List.mem_cons_of_mem _ hy)))
      have HO4 := Lib.hid O4
      have HVO := Lib.hid hvo
      clear hg3 hc3 hz3 HX3 O4 hvo f4
      apply blk_use HX4; intro hg4 hc4 hz4 _ _ _ _ _
      go_wp2_with fail
      go_meet
      rw [hX9.out]
      have F9 : Fr (t :: (Value.slice A0 xs.length c0).ownBlock.toList) w (w4.setCell ⟨t, 0, none⟩ (.slice A4 (xs.eraseIdx i).length c4)) := G4.setOld 0 (by simp) _
      exact ⟨_, ⟨by (apply heap_eq_of; (focus (repeat (first | (with_reducible assumption) | ((with_reducible refine heap_alloc_at ?_ _); first | (with_reducible rfl) | (focus (simp; done))) | (with_reducible apply heap_alloc_old) | ((with_reducible apply heap_set_other); (case hne => (first | (with_reducible assumption) | exact Nat.ne_of_lt (by with_reducible assumption) | exact Nat.ne_of_gt (by with_reducible assumption) | (focus (simp +arith; done)) | (simp; done)))) | (with_reducible apply heap_set_eq) | (with_reducible apply heap_drew_of) | (with_reducible apply heap_drewN_of)))); (focus (first | (simp; done) | rfl))), HO4.out.fr (S := [t]) (by repeat' (first | (with_reducible exact Fr.refl _ _) | (with_reducible assumption) | (with_reducible refine Fr.drew ?_) | (with_reducible refine Fr.drewN ?_ _) | (with_reducible refine Fr.alloc ?_ _) | ((with_reducible refine Fr.setNew ?_ _ ?_ _); rotate_left; (focus (first | (with_reducible assumption) | exact Nat.le_of_lt (by with_reducible assumption) | (focus (simp +arith; done)) | exact Nat.le_trans (by with_reducible assumption) (by simp +arith; done) | (simp; done)))) | ((with_reducible refine Fr.setOld ?_ _ ?_ _); rotate_left; (focus (simp; done))))) (by have := HH.out.lt; simp; omega), HH.out.tp.fr F9 HNT.out.1 HNT.out.2, HH.out.lt, HH.out.ne, Nat.le_trans HH.out.bs F9.size⟩, fun y hy => Or.inl (by rw [HVO.out] at hy; exact hy), F9⟩
    · have hmb : ((xs.length : Int) == most) = false := by rw [beq_eq_false_iff_ne]; exact hm
      have hX9 : Hid (X1 = xs) := by unfold Hid; rw [HX1.out, if_neg hm]
      clear hm
      go_wp2_with fail
      go_meet
      rw [hX9.out]
      exact ⟨_, HH.out.fr0 G2, fun y hy => Or.inl hy, G2.mono (by simp)⟩
  case rest =>
    obtain ⟨v1, H1, U1, F1⟩ := hcut
    have HC := Lib.hid H1
    have U1 := Lib.hid U1
    have HX2 := H1.ht
    obtain ⟨ow1, ow2, ow3⟩ := H1.own
    have hvl := H1.ow.lt
    obtain ⟨A, c, rfl⟩ := H1.ow.shape
    have hx1' : (X1.length : Int) ≤ 16 := by have := HL1.out; omega
    have htl := lt_of_heap HX2
    have HOW1 := Lib.hid (⟨ow1, hvl⟩ : t ∉ (Value.slice A X1.length c).ownBlock.toList ∧ ∀ y ∈ (Value.slice A X1.length c).ownBlock.toList, y < wc.heap.size)
    have HNT1 : Hid (tb ∉ t :: (Value.slice A X1.length c).ownBlock.toList ∧ b ∉ t :: (Value.slice A X1.length c).ownBlock.toList) := by
      have hne := H1.ne
      exact ⟨fun q => (List.mem_cons.1 q).elim (fun e => hne.1 e.symm) ow2, fun q => (List.mem_cons.1 q).elim (fun e => hne.2 e.symm) ow3⟩
    clear H1 ow1 ow2 ow3 hvl HX G2
    apply blk_use HX2; intro hg2 hc2 hz2 _ _ _ _ _
    go_wp2_with fail
    have HX3 : (wc.setCell ⟨t, 3, none⟩ (.int .i64 (la + 1))).heap[t]? = some (.cells #[.slice A X1.length c, .pointer (some ⟨tb, 0, none⟩), .int .i64 us, .int .i64 (la + 1), .int .i64 most, .int .i64 deg, .int .i64 blk] 97) := by (apply heap_eq_of; (focus (repeat (first | (with_reducible assumption) | ((with_reducible refine heap_alloc_at ?_ _); first | (with_reducible rfl) | (focus (simp; done))) | (with_reducible apply heap_alloc_old) | ((with_reducible apply heap_set_other); (case hne => (first | (with_reducible assumption) | exact Nat.ne_of_lt (by with_reducible assumption) | exact Nat.ne_of_gt (by with_reducible assumption) | (focus (simp +arith; done)) | (simp; done)))) | (with_reducible apply heap_set_eq) | (with_reducible apply heap_drew_of) | (with_reducible apply heap_drewN_of)))); (focus (first | (simp; done) | rfl)))
    have G3 : Fr [t] wc (wc.setCell ⟨t, 3, none⟩ (.int .i64 (la + 1))) := (by repeat' (first | (with_reducible exact Fr.refl _ _) | (with_reducible assumption) | (with_reducible refine Fr.drew ?_) | (with_reducible refine Fr.drewN ?_ _) | (with_reducible refine Fr.alloc ?_ _) | ((with_reducible refine Fr.setNew ?_ _ ?_ _); rotate_left; (focus (first | (with_reducible assumption) | exact Nat.le_of_lt (by with_reducible assumption) | (focus (simp +arith; done)) | exact Nat.le_trans (by with_reducible assumption) (by simp +arith; done) | (simp; done)))) | ((with_reducible refine Fr.setOld ?_ _ ?_ _); rotate_left; (focus (simp; done)))))
    have O3 := Lib.hid (HC.out.ow.fr G3 (by have := HC.out.lt; simp; omega))
    have B3 : base ≤ (wc.setCell ⟨t, 3, none⟩ (.int .i64 (la + 1))).heap.size := Nat.le_trans HC.out.bs G3.size
    obtain ⟨w3, hw3⟩ : ∃ w3, w3 = wc.setCell ⟨t, 3, none⟩ (.int .i64 (la + 1)) := ⟨_, rfl⟩
    rw [← hw3] at HX3 G3 O3 B3 ⊢
    clear hw3 hg2 hc2 hz2 HX2
    refine wp_region_seqV_lit (ApS base (.slice A X1.length c) ⟨la + 1, first, first, 1, 0, 0⟩ (X1 ++ [⟨la + 1, first, first, 1, 0, 0⟩]) 12 13 16 t _ (fun u => .cells #[u, .pointer (some ⟨tb, 0, none⟩), .int .i64 us, .int .i64 (la + 1), .int .i64 most, .int .i64 deg, .int .i64 blk] 97) w3) fol (by kernel_rfl) (ApS.start HX3) ?_
    have HTB : Hid (t < base) := HC.out.lt.1
    have HT3 : Hid (∀ q, w3.heap.size ≤ q → q ≠ t) := fun q hq => by have := lt_of_heap HX3; omega
    have HV3 : Hid (∀ y ∈ (Value.slice A X1.length c).ownBlock.toList, y < w3.heap.size) := fun y hy => Nat.lt_of_lt_of_le (HOW1.out.2 y hy) G3.size
    (repeat (apply SeqV.cons; (focus (intro Vv bv wv hbv hdv hsh hSv; have t0 := hSv.c0 (shut_no hsh hbv 16 (by kernel_rfl)); apply blk_use t0; intro hg21 hc21 hz21 _ _ _ _ _; clear hsh hdv; go_wp2_with ((with_reducible refine (astart_any _ _).mono ?_); rintro e ww ⟨rfl, ff⟩); exact StepPost.mk rfl (hSv.plain (by decide) (by repeat' (first | (with_reducible exact Fr.refl _ _) | (with_reducible assumption) | (with_reducible refine Fr.drew ?_) | (with_reducible refine Fr.drewN ?_ _) | (with_reducible refine Fr.alloc ?_ _) | ((with_reducible refine Fr.setNew ?_ _ ?_ _); rotate_left; (focus (first | (with_reducible assumption) | exact Nat.le_of_lt (by with_reducible assumption) | (focus (simp +arith; done)) | exact Nat.le_trans (by with_reducible assumption) (by simp +arith; done) | (simp; done)))) | ((with_reducible refine Fr.setOld ?_ _ ?_ _); rotate_left; (focus (simp; done)))))))); (try simp only [Act.put, List.setIfInBounds_toArray, List.set_cons_zero, List.set_cons_succ, Nat.reduceAdd, Nat.zero_add])))
    apply SeqV.var; (focus (intro Vv bv wv hbv hdv hsh hSv; have b13 := shut_no hsh hbv 13 (by kernel_rfl); have b16 := shut_no hsh hbv 16 (by kernel_rfl); clear hsh hdv; go_wp2_with fail; exact StepV.mk _ rfl (hSv.made (by decide) b13 b16 (Nat.le_refl _) (by repeat' (first | (with_reducible exact Fr.refl _ _) | (with_reducible assumption) | (with_reducible refine Fr.drew ?_) | (with_reducible refine Fr.drewN ?_ _) | (with_reducible refine Fr.alloc ?_ _) | ((with_reducible refine Fr.setNew ?_ _ ?_ _); rotate_left; (focus (first | (with_reducible assumption) | exact Nat.le_of_lt (by with_reducible assumption) | (focus (simp +arith; done)) | exact Nat.le_trans (by with_reducible assumption) (by simp +arith; done) | (simp; done)))) | ((with_reducible refine Fr.setOld ?_ _ ?_ _); rotate_left; (focus (simp; done))))) (by (apply heap_eq_of; (focus (repeat (first | (with_reducible assumption) | ((with_reducible refine heap_alloc_at ?_ _); first | (with_reducible rfl) | (focus (simp; done))) | (with_reducible apply heap_alloc_old) | ((with_reducible apply heap_set_other); (case hne => (first | (with_reducible assumption) | exact Nat.ne_of_lt (by with_reducible assumption) | exact Nat.ne_of_gt (by with_reducible assumption) | (focus (simp +arith; done)) | (simp; done)))) | (with_reducible apply heap_set_eq) | (with_reducible apply heap_drew_of) | (with_reducible apply heap_drewN_of)))); (focus (first | (simp; done) | rfl))))))); (try simp only [Act.put, List.setIfInBounds_toArray, List.set_cons_zero, List.set_cons_succ, Nat.reduceAdd, Nat.zero_add])
    apply SeqV.var; (focus (intro Vv bv wv hbv hdv hsh hSv; have b16 := shut_no hsh hbv 16 (by kernel_rfl); have d12 := hdv { on := 12, ground := .data } (by simp) rfl; obtain ⟨q, q1, q2, q3⟩ := hSv.lit d12; have a0 := hSv.a hbv; clear hsh hdv; go_wp2_with (at_builtin; refine wpList_appG eSok _ rfl (.tmp 43) (.tmp 51) rfl rfl base _ X1 rfl (O3.out.fr a0 (by simp)) (Vv 12) [⟨la + 1, first, first, 1, 0, 0⟩] rfl (M := []) (by rw [q1]; exact (El.Own.lit (base := 0) [⟨la + 1, first, first, 1, 0, 0⟩] q3 (by omega) rfl eSok (by simp [maxLen]) 1 rfl).sl (M := []) (by simp)) (by simp; omega) (Nat.le_trans B3 a0.size) ?_; intro v1 wq O1 G1 U1); exact StepV.mk v1 rfl (hSv.app (by decide) hbv b16 O1 G1 U1 HOW1.out.1 HV3.out))); (try simp only [Act.put, List.setIfInBounds_toArray, List.set_cons_zero, List.set_cons_succ, Nat.reduceAdd, Nat.zero_add])
    (repeat (apply SeqV.cons; (focus (intro Vv bv wv hbv hdv hsh hSv; skip; clear hsh hdv; go_wp2_with (fail); exact StepPost.mk rfl (hSv.plain (by decide) (by repeat' (first | (with_reducible exact Fr.refl _ _) | (with_reducible assumption) | (with_reducible refine Fr.drew ?_) | (with_reducible refine Fr.drewN ?_ _) | (with_reducible refine Fr.alloc ?_ _) | ((with_reducible refine Fr.setNew ?_ _ ?_ _); rotate_left; (focus (first | (with_reducible assumption) | exact Nat.le_of_lt (by with_reducible assumption) | (focus (simp +arith; done)) | exact Nat.le_trans (by with_reducible assumption) (by simp +arith; done) | (simp; done)))) | ((with_reducible refine Fr.setOld ?_ _ ?_ _); rotate_left; (focus (simp; done)))))))); (try simp only [Act.put, List.setIfInBounds_toArray, List.set_cons_zero, List.set_cons_succ, Nat.reduceAdd, Nat.zero_add])))
    apply SeqV.cons (v := undef); (focus (intro Vv bv wv hbv hdv hsh hSv; have t0 := hSv.c0 hbv; have d13 := hdv { on := 13, ground := .data } (by simp) rfl; obtain ⟨A9, c9, hv9⟩ := (hSv.m d13).1.shape; apply blk_use t0; intro hg21 hc21 hz21 _ _ _ _ _; clear hsh hdv; go_wp2_with fail; exact StepPost.mk rfl (hSv.store (by decide) d13 (by repeat' (first | (with_reducible exact Fr.refl _ _) | (with_reducible assumption) | (with_reducible refine Fr.drew ?_) | (with_reducible refine Fr.drewN ?_ _) | (with_reducible refine Fr.alloc ?_ _) | ((with_reducible refine Fr.setNew ?_ _ ?_ _); rotate_left; (focus (first | (with_reducible assumption) | exact Nat.le_of_lt (by with_reducible assumption) | (focus (simp +arith; done)) | exact Nat.le_trans (by with_reducible assumption) (by simp +arith; done) | (simp; done)))) | ((with_reducible refine Fr.setOld ?_ _ ?_ _); rotate_left; (focus (simp; done))))) HTB.out (by rw [hv9]; (apply heap_eq_of; (focus (repeat (first | (with_reducible assumption) | ((with_reducible refine heap_alloc_at ?_ _); first | (with_reducible rfl) | (focus (simp; done))) | (with_reducible apply heap_alloc_old) | ((with_reducible apply heap_set_other); (case hne => (first | (with_reducible assumption) | exact Nat.ne_of_lt (by with_reducible assumption) | exact Nat.ne_of_gt (by with_reducible assumption) | (focus (simp +arith; done)) | (simp; done)))) | (with_reducible apply heap_set_eq) | (with_reducible apply heap_drew_of) | (with_reducible apply heap_drewN_of)))); (focus (first | (simp; done) | rfl)))) HT3.out))); (try simp only [Act.put, List.setIfInBounds_toArray, List.set_cons_zero, List.set_cons_succ, Nat.reduceAdd, Nat.zero_add])
    refine SeqV.nil ?_
    intro Vv bv w5 hb5 hSv
    obtain ⟨O5, H5, U5, F5⟩ := hSv.done (hb5 16 (by decide))
    obtain ⟨A5, c5, hv5⟩ := O5.shape
    simp only [List.length_append, List.length_cons, List.length_nil, Nat.zero_add] at hv5
    have F6 : Fr (t :: (Value.slice A X1.length c).ownBlock.toList) wc w5 := (G3.mono (by simp)).trans F5
    have T6 := HC.out.tp.fr F6 HNT1.out.1 HNT1.out.2
    have K6 : Hid (TrkAt w5 t tb b base size life most deg blk (Vv 13) (X1 ++ [⟨la + 1, first, first, 1, 0, 0⟩]) us (la + 1) L E) := ⟨H5, O5, T6, HC.out.lt, HC.out.ne, Nat.le_trans HC.out.bs F6.size⟩
    have U6 : Hid (∀ y ∈ (Vv 13).ownBlock.toList, y ∈ (Value.slice A X1.length c).ownBlock.toList ∨ wc.heap.size ≤ y) := fun y hy => (U5 y hy).imp id (fun q => Nat.le_trans G3.size q)
    generalize Vv 13 = vv at *
    subst hv5
    clear hSv hb5 O5 U5 F5 T6 G3 HX3
    apply blk_use H5; intro hg5 hc5 hz5 _ _ _ _ _
    go_wp2_with fail
    go_ret
    exact ⟨⟨_, ret_int (by omega), K6.out, fun y hy => (U6.out y hy).elim (fun q => (U1.out y q)) (fun q => Or.inr (Nat.le_trans F1.size q))⟩, F1.trans' F6 (fun y hy => (List.mem_cons.1 hy).elim (fun e => Or.inl (by rw [e]; simp)) (fun q => (U1.out y q).imp (fun z => List.mem_cons_of_mem _ z) id))⟩
end
end Go.Proofs.Ytoapobhdpgcmbaa
