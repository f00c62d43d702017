/- Package req: settle, put. -/
import Derived.Test.YtobekkgaildbgaaReq2
namespace Go.Proofs.Ytobekkgaildbgaa
open Go.RowKit Go.Lib Go.Maps

def ansOf (id : Int) (r : Rq) : Ans := if 3 ∈ r.ps then ⟨id, 7, []⟩ else if r.kind = 1 then ⟨id, 0, r.vs.take (sizeP r.ps)⟩ else ⟨id, 0, []⟩
def settleR (id : Int) (r : Rq) (S : RS) : RS := if 1 ∈ r.ps then ⟨(id, r) :: cutg id S.E, S.K⟩ else ⟨cutg id S.E, S.K ++ [ansOf id r]⟩
section
variable {w w' : World} {B t b base : Nat} {M M' N : List Nat} {room : Int} {v : Value} {xs : List AV} {S : RS}
theorem ReqI.fr0 (h : ReqI w B M t b base room v xs S) (f : Fr [] w w') : ReqI w' B M t b base room v xs S := h.turn f (by simp) (fun x hx => Or.inl hx)
theorem ReqI.map (h : ReqI w B M t b base room v xs S) {E : List (Int × Rq)} (f : Fr [b] w w') (hm : MapG mR w' b E) (he : ∀ p ∈ E, p.2.Eight) : ReqI w' B M t b base room v xs ⟨E, S.K⟩ := by
  have hl := h.lt
  have hs := f.size
  exact ⟨f.heap h.ht (by simpa using h.ne), hm, he, h.ow.fr f (by simp; omega), h.av.fr f (fun x hx => Or.inl (by simp at hx; simp [hx])), by omega, h.ne, h.bb, h.mt, fun x hx => by have := h.ms x hx; omega⟩
theorem put8 {E : List (Int × Rq)} {id : Int} {r : Rq} (h8 : r.Eight) (he : ∀ p ∈ E, p.2.Eight) : ∀ p ∈ (id, r) :: cutg id E, p.2.Eight := by
  intro p hp
  rcases List.mem_cons.1 hp with rfl | hp
  · exact h8
  · exact he p (cutg_mem.1 hp).1
set_option maxRecDepth 100000 in
set_option maxHeartbeats 8000000 in
theorem qsettle (id : Int) (r : Rq) (h8 : r.Eight) (H : ReqM w B M t room S) (wid : (Lit.int .i64 id).wf = true) (hE : S.E.length ≤ 1000) (hk : S.K.length ≤ 1000) :
    Calls Try.prog 73 #[.pointer (some ⟨t, 0, none⟩), .int .i64 id, .agg r.cs.toArray] w fun e w' => e = .returned (.tuple #[]) ∧ ReqM w' B M t room (settleR id r S) ∧ KeepM B M w w' := by
  have fol : Try.prog.follows .mixedOrders = true := by kernel_rfl
  obtain ⟨b, base, v, xs, H⟩ := H
  have HC : ∀ (y : Int) w1 b1, w1.heap[b1]? = some (.cells r.cs.toArray 95) → Calls Try.prog 86 #[.slice (some ⟨b1, 1, none⟩) 8 8, .int .i64 y] w1 fun e w' => e = .returned (.bool (decide (y ∈ r.ps))) ∧ Fr [] w1 w' :=
    fun y w1 b1 hw => scontI _ r.ps y (by rw [h8.p]; omega) [] w1 (rq_ps hw rfl h8 (by simp))
  have HC1 := Lib.hid (HC 1)
  have HC3 := Lib.hid (HC 3)
  have HZ := Lib.hid (fun w => qsize r h8 w)
  have hn8 := sizeP_le h8.p
  have HV : Hid (∀ (L : List Nat) w1 b1, w1.heap[b1]? = some (.cells r.cs.toArray 95) → b1 ∉ L → eU.Sl L w1 (.slice (some ⟨b1, 9, none⟩) (sizeP r.ps) 8) (r.vs.take (sizeP r.ps))) :=
    fun L w1 b1 hw hb => rq_vs hw rfl h8 hn8 hb
  have HR : Hid (settleR id r S = if decide (1 ∈ r.ps) then ⟨(id, r) :: cutg id S.E, S.K⟩ else ⟨cutg id S.E, S.K ++ [if decide (3 ∈ r.ps) then ⟨id, 7, []⟩ else if r.kind = 1 then ⟨id, 0, r.vs.take (sizeP r.ps)⟩ else ⟨id, 0, []⟩]⟩) := by
    unfold Hid settleR ansOf; simp only [decide_eq_true_eq]
  have hvl : (r.vs.take (sizeP r.ps)).length ≤ 1000 := by rw [List.length_take]; omega
  generalize decide (1 ∈ r.ps) = β1 at *
  generalize decide (3 ∈ r.ps) = β3 at *
  generalize hvs : r.vs.take (sizeP r.ps) = vs at *
  generalize sizeP r.ps = n at *
  have hn8' : (n : Int) ≤ 8 := by omega
  have HA : Hid (∀ (L : List Nat) (cd : Int) (A : Option Addr) (n c : Nat) (us : List Int) w', ReqI w' B L t b base room v xs ⟨(id, r) :: cutg id S.E, S.K⟩ → eU.Sl (t :: b :: (v.ownBlock.toList ++ L)) w' (.slice A n c) us → Calls Try.prog 66 #[.pointer (some ⟨t, 0, none⟩), .agg #[.int .i64 id, .int .i64 cd, .slice A n c]] w' fun e w'' => e = .returned (.tuple #[]) ∧ (∃ v' xs', ReqI w'' B L t b base room v' xs' ⟨cutg id S.E, S.K ++ [⟨id, cd, us⟩]⟩) ∧ KeepM B L w' w'') :=
    fun L cd A n c us w' h hx => by
      have := qans ⟨id, cd, A, n, c⟩ us h hx wid hk
      simp only [cutg_cut] at this
      exact this
  have P8 := Lib.hid (put8 (id := id) h8 H.e8)
  have HT := H.ht
  have HH := Lib.hid H
  have HWI := Lib.hid wid
  have HBB := Lib.hid H.bb
  have hbq : b ≠ w.heap.size := by have := H.mp.lt; omega
  have HMT := Lib.hid H.mt
  have htq : t ≠ b := H.ne
  have HVL := Lib.hid hvl
  clear HC hvs wid hk H hvl
  obtain ⟨k, p0, p1, p2, p3, p4, p5, p6, p7, v0, v1, v2, v3, v4, v5, v6, v7, rfl⟩ := h8.lit
  have HPV : Hid (∀ (W : World) (E' : List (Int × Rq)), MapG mR W b ((id, (⟨k, [p0, p1, p2, p3, p4, p5, p6, p7], [v0, v1, v2, v3, v4, v5, v6, v7]⟩ : Rq)) :: E') = MapG mR W b ((id, (⟨k, [p0, p1, p2, p3, p4, p5, p6, p7], [v0, v1, v2, v3, v4, v5, v6, v7]⟩ : Rq)) :: E')) := fun _ _ => rfl
  have H8 := Lib.hid h8
  clear h8 HPV
  simp only [Rq.cs, List.map, List.cons_append, List.nil_append] at HC1 HC3 HZ HV ⊢
  generalize hrr : (⟨k, [p0, p1, p2, p3, p4, p5, p6, p7], [v0, v1, v2, v3, v4, v5, v6, v7]⟩ : Rq) = rr at *
  have hev : mR.ev rr = .agg #[.int .i64 k, .int .i64 p0, .int .i64 p1, .int .i64 p2, .int .i64 p3, .int .i64 p4, .int .i64 p5, .int .i64 p6, .int .i64 p7, .int .u64 v0, .int .u64 v1, .int .u64 v2, .int .u64 v3, .int .u64 v4, .int .u64 v5, .int .u64 v6, .int .u64 v7] := by rw [← hrr]; rfl
  have hkr : rr.kind = k := by rw [← hrr]
  have HEV := Lib.hid hev
  rw [hkr] at HR
  clear hrr hev hkr
  go_enter Try.func73, Try.ntmps73
  go_wp2_with fail
  obtain ⟨w1, hw1⟩ : ∃ w1, w1 = w.alloc (.cells #[.int .i64 k, .int .i64 p0, .int .i64 p1, .int .i64 p2, .int .i64 p3, .int .i64 p4, .int .i64 p5, .int .i64 p6, .int .i64 p7, .int .u64 v0, .int .u64 v1, .int .u64 v2, .int .u64 v3, .int .u64 v4, .int .u64 v5, .int .u64 v6, .int .u64 v7] 95) := ⟨_, rfl⟩
  have f1 : Fr [] w w1 := by rw [hw1]; exact (by repeat' (first | (with_reducible exact Fr.refl _ _) | (with_reducible assumption) | (with_reducible refine Fr.drew ?_) | (with_reducible refine Fr.drewN ?_ _) | (with_reducible refine Fr.alloc ?_ _) | ((with_reducible refine Fr.setNew ?_ _ ?_ _); rotate_left; (focus (first | (with_reducible assumption) | exact Nat.le_of_lt (by with_reducible assumption) | (focus (simp +arith; done)) | exact Nat.le_trans (by with_reducible assumption) (by simp +arith; done) | (simp; done)))) | ((with_reducible refine Fr.setOld ?_ _ ?_ _); rotate_left; (focus (simp; done)))))
  have Q1 : w1.heap[w.heap.size]? = some (.cells #[.int .i64 k, .int .i64 p0, .int .i64 p1, .int .i64 p2, .int .i64 p3, .int .i64 p4, .int .i64 p5, .int .i64 p6, .int .i64 p7, .int .u64 v0, .int .u64 v1, .int .u64 v2, .int .u64 v3, .int .u64 v4, .int .u64 v5, .int .u64 v6, .int .u64 v7] 95) := by rw [hw1]; (apply heap_eq_of; (focus (repeat (first | (with_reducible assumption) | ((with_reducible refine heap_alloc_at ?_ _); first | (with_reducible rfl) | (focus (simp; done))) | (with_reducible apply heap_alloc_old) | ((with_reducible apply heap_set_other); (case hne => (first | (with_reducible assumption) | exact Nat.ne_of_lt (by with_reducible assumption) | exact Nat.ne_of_gt (by with_reducible assumption) | (focus (simp +arith; done)) | (simp; done)))) | (with_reducible apply heap_set_eq) | (with_reducible apply heap_drew_of) | (with_reducible apply heap_drewN_of)))); (focus (first | (simp; done) | rfl)))
  have T1 := f1.heap HT (by simp)
  have H1 := Lib.hid (HH.out.fr0 f1)
  have F1 := Lib.hid f1
  rw [← hw1]
  generalize hq : w.heap.size = q at *
  have HQ := Lib.hid hq
  clear f1 hw1 HT HH hq
  refine wp_region_seqV_lit (FinS 6 (Fr [] w1) (fun w' => MapG mR w' b ((id, rr) :: cutg id S.E) ∧ Fr [b] w1 w')) fol (by kernel_rfl) (FinS.start (Fr.refl _ _).drew) ?_
  (iterate 6 (apply SeqV.cons; (focus (intro Vv bv wv hbv hdv hsh hSv; have bst := shut_no hsh hbv 6 (by kernel_rfl); have s0 := FinS.pre hSv bst; clear hsh hdv; (have t0 := s0.heap T1 (by simp)); apply blk_use t0; intro hg21 hc21 hz21 _ _ _ _ _; (have q0 := s0.heap Q1 (by simp)); apply blk_use q0; intro hg22 hc22 hz22 _ _ _ _ _; go_wp2_with fail; exact StepPost.mk rfl (FinS.plain (by decide) bst (Fr.trans s0 (by repeat' (first | (with_reducible exact Fr.refl _ _) | (with_reducible assumption) | (with_reducible refine Fr.drew ?_) | (with_reducible refine Fr.drewN ?_ _) | (with_reducible refine Fr.alloc ?_ _) | ((with_reducible refine Fr.setNew ?_ _ ?_ _); rotate_left; (focus (first | (with_reducible assumption) | exact Nat.le_of_lt (by with_reducible assumption) | (focus (simp +arith; done)) | exact Nat.le_trans (by with_reducible assumption) (by simp +arith; done) | (simp; done)))) | ((with_reducible refine Fr.setOld ?_ _ ?_ _); rotate_left; (focus (simp; done))))))))); (try simp only [Act.put, List.setIfInBounds_toArray, List.set_cons_zero, List.set_cons_succ, Nat.reduceAdd, Nat.zero_add])))
  apply SeqV.cons (v := undef); (focus (intro Vv bv wv hbv hdv hsh hSv; have s0 := FinS.pre hSv hbv; (go_wp2_with (at_mapUpdate; refine wpList_putg _ mRok rfl (.tmp 10) (.tmp 11) (.tmp 12) rfl b S.E rfl (H1.out.mp.fr s0 (by simp)) (by unfold maxLen; omega) id rr rfl HEV.out.symm HWI.out ?_; intro w6 m6 f6); exact StepPost.mk rfl (FinS.fin ⟨m6, (s0.mono (by simp)).trans f6⟩)))); (try simp only [Act.put, List.setIfInBounds_toArray, List.set_cons_zero, List.set_cons_succ, Nat.reduceAdd, Nat.zero_add])
  refine SeqV.nil ?_
  intro Vv bv w2 hb2 hSv
  obtain ⟨P2, F2⟩ := FinS.end_ hSv (hb2 6 (by decide))
  have H2 := Lib.hid (H1.out.map F2 P2 P8.out)
  have Q2 := F2.heap Q1 (by simpa using hbq.symm)
  have K2 : Hid (KeepM B M w w2) := KeepM.trans (KeepM.fr0 F1.out) (KeepM.of F2 (by simpa using ⟨HBB.out.2, HMT.out.2.1⟩))
  clear hSv hb2 P2 F2 T1 Q1 H1 F1 P8
  apply blk_use Q2; intro hg2 hc2 hz2 _ _ _ _ _
  go_wp2_with fail
  with_reducible refine (HC1.out _ _ Q2).mono ?_
  rintro e w3 ⟨rfl, f3⟩
  have Q3 := f3.heap Q2 (by simp)
  have H3 := Lib.hid (H2.out.fr0 f3)
  have K3 := Lib.hid (K2.out.trans (KeepM.fr0 f3))
  clear f3 Q2 H2 K2 hg2 hc2 hz2
  cases β1
  rotate_left
  · go_wp2_with fail
    refine bodyPost_ret (results_none rfl _ _ _) rfl ?_
    rw [HR.out]
    exact ⟨rfl, ⟨_, _, _, _, H3.out⟩, K3.out⟩
  · apply blk_use Q3; intro hg3 hc3 hz3 _ _ _ _ _
    go_wp2_with fail
    obtain ⟨w4, hw4⟩ : ∃ w4, w4 = w3.alloc (.cells #[.int .i64 id, .int .i64 0, .slice none 0 0] 65) := ⟨_, rfl⟩
    have f4 : Fr [] w3 w4 := by rw [hw4]; exact (by repeat' (first | (with_reducible exact Fr.refl _ _) | (with_reducible assumption) | (with_reducible refine Fr.drew ?_) | (with_reducible refine Fr.drewN ?_ _) | (with_reducible refine Fr.alloc ?_ _) | ((with_reducible refine Fr.setNew ?_ _ ?_ _); rotate_left; (focus (first | (with_reducible assumption) | exact Nat.le_of_lt (by with_reducible assumption) | (focus (simp +arith; done)) | exact Nat.le_trans (by with_reducible assumption) (by simp +arith; done) | (simp; done)))) | ((with_reducible refine Fr.setOld ?_ _ ?_ _); rotate_left; (focus (simp; done)))))
    have A4 : w4.heap[w3.heap.size]? = some (.cells #[.int .i64 id, .int .i64 0, .slice none 0 0] 65) := by rw [hw4]; (apply heap_eq_of; (focus (repeat (first | (with_reducible assumption) | ((with_reducible refine heap_alloc_at ?_ _); first | (with_reducible rfl) | (focus (simp; done))) | (with_reducible apply heap_alloc_old) | ((with_reducible apply heap_set_other); (case hne => (first | (with_reducible assumption) | exact Nat.ne_of_lt (by with_reducible assumption) | exact Nat.ne_of_gt (by with_reducible assumption) | (focus (simp +arith; done)) | (simp; done)))) | (with_reducible apply heap_set_eq) | (with_reducible apply heap_drew_of) | (with_reducible apply heap_drewN_of)))); (focus (first | (simp; done) | rfl)))
    have Q4 := f4.heap Q3 (by simp)
    have z4 : w4.heap.size = w3.heap.size + 1 := by rw [hw4]; simp
    have H4 := Lib.hid (H3.out.turn (M' := w3.heap.size :: M) f4 (by simp) (fun x hx => (List.mem_cons.1 hx).elim (fun e => Or.inr (by omega)) Or.inl))
    have K4 := Lib.hid (K3.out.trans (KeepM.fr0 f4))
    have hpq : q < w3.heap.size := lt_of_heap Q3
    have HPT : Hid (t < w3.heap.size ∧ ∀ x ∈ M, x < w3.heap.size) := ⟨lt_of_heap H3.out.ht, fun x hx => H3.out.ms x hx⟩
    rw [← hw4]
    generalize w3.heap.size = p at *
    clear f4 hw4 z4 Q3 H3 K3 hg3 hc3 hz3
    with_reducible refine (HC3.out _ _ Q4).mono ?_
    rintro e w5 ⟨rfl, f5⟩
    have A5 := f5.heap A4 (by simp)
    have Q5 := f5.heap Q4 (by simp)
    have H5 := Lib.hid (H4.out.fr0 f5)
    have K5 := Lib.hid (K4.out.trans (KeepM.fr0 f5))
    clear f5 A4 Q4 H4 K4
    have hqp : q ≠ p := Nat.ne_of_lt hpq
    have HPB : Hid (B ≤ p ∧ p ∉ M) := ⟨by have := H5.out.bb; have := H5.out.lt; have := HPT.out; omega, fun h => Nat.lt_irrefl p (HPT.out.2 p h)⟩
    cases β3
    rotate_left
    · --@lost
      apply blk_use A5; intro hg5 hc5 hz5 _ _ _ _ _
      go_wp2_with fail
      have f6 : Fr [p] w5 (w5.setCell ⟨p, 1, none⟩ (.int .i64 7)) := (by repeat' (first | (with_reducible exact Fr.refl _ _) | (with_reducible assumption) | (with_reducible refine Fr.drew ?_) | (with_reducible refine Fr.drewN ?_ _) | (with_reducible refine Fr.alloc ?_ _) | ((with_reducible refine Fr.setNew ?_ _ ?_ _); rotate_left; (focus (first | (with_reducible assumption) | exact Nat.le_of_lt (by with_reducible assumption) | (focus (simp +arith; done)) | exact Nat.le_trans (by with_reducible assumption) (by simp +arith; done) | (simp; done)))) | ((with_reducible refine Fr.setOld ?_ _ ?_ _); rotate_left; (focus (simp; done)))))
      have H6 := Lib.hid (H5.out.turn (M' := p :: M) f6 (by simp) (fun x hx => Or.inl hx))
      have K6 := Lib.hid (K5.out.trans (KeepM.of (M := M) f6 (by simp; exact HPB.out)))
      with_reducible refine (HA.out (p :: M) 7 none 0 0 [] _ H6.out (El.Sl.nil _ _ _)).mono ?_
      rintro e w6 ⟨rfl, ⟨v6, xs6, H7⟩, K7⟩
      go_wp2_with fail
      go_end0
      rw [HR.out]
      exact ⟨rfl, ⟨_, _, _, _, H7.turn (Fr.refl [] _) (by simp) (fun x hx => Or.inl (List.mem_cons_of_mem _ hx))⟩, K6.out.trans (K7.mono (fun x hx => List.mem_cons_of_mem _ hx))⟩
    · by_cases hk1 : k = 1
      · --@values
        subst hk1
        apply blk_use Q5; intro hg6 hc6 hz6 _ _ _ _ _
        go_wp2_with fail
        with_reducible refine (HZ.out _).mono ?_
        rintro e w6 ⟨rfl, f6⟩
        have A6 := f6.heap A5 (by simp)
        have Q6 := f6.heap Q5 (by simp)
        have H6 := Lib.hid (H5.out.fr0 f6)
        have K6 := Lib.hid (K5.out.trans (KeepM.fr0 f6))
        clear f6 A5 Q5 H5 K5 hg6 hc6 hz6
        have hvl := HVL.out
        go_wp2_with fail
        with_reducible refine (scloneU _ vs hvl [] _ (HV.out [] _ _ Q6 (by simp))).mono ?_
        rintro e w7 ⟨⟨v7', rfl, O7⟩, f7⟩
        have A7 := f7.heap A6 (by simp)
        have H7 := Lib.hid (H6.out.fr0 f7)
        have K7 := Lib.hid (K6.out.trans (KeepM.fr0 f7))
        obtain ⟨A9, c9, rfl⟩ := O7.shape
        have hm6 : ∀ x ∈ t :: b :: (v.ownBlock.toList ++ p :: M), x < w6.heap.size := by
          intro x hx
          have hl := H6.out.lt
          simp only [List.mem_cons, List.mem_append] at hx
          rcases hx with rfl | rfl | hx | hx
          · omega
          · omega
          · exact (H6.out.own x hx).2.1
          · exact H6.out.ms x (by simpa using hx)
        have O7 := Lib.hid (O7.sl (M := t :: b :: (v.ownBlock.toList ++ p :: M)) hm6)
        clear hm6 f7 A6 Q6 H6 K6
        apply blk_use A7; intro hg7 hc7 hz7 _ _ _ _ _
        go_wp2_with fail
        have f8 : Fr [p] w7 (w7.setCell ⟨p, 2, none⟩ (.slice A9 vs.length c9)) := (by repeat' (first | (with_reducible exact Fr.refl _ _) | (with_reducible assumption) | (with_reducible refine Fr.drew ?_) | (with_reducible refine Fr.drewN ?_ _) | (with_reducible refine Fr.alloc ?_ _) | ((with_reducible refine Fr.setNew ?_ _ ?_ _); rotate_left; (focus (first | (with_reducible assumption) | exact Nat.le_of_lt (by with_reducible assumption) | (focus (simp +arith; done)) | exact Nat.le_trans (by with_reducible assumption) (by simp +arith; done) | (simp; done)))) | ((with_reducible refine Fr.setOld ?_ _ ?_ _); rotate_left; (focus (simp; done)))))
        have H8' := Lib.hid (H7.out.turn (M' := p :: M) f8 (by simp) (fun x hx => Or.inl hx))
        have K8 := Lib.hid (K7.out.trans (KeepM.of (M := M) f8 (by simp; exact HPB.out)))
        have O8 := Lib.hid (O7.out.fr f8 (by simp))
        with_reducible refine (HA.out (p :: M) 0 A9 vs.length c9 vs _ H8'.out O8.out).mono ?_
        rintro e w8 ⟨rfl, ⟨v8, xs8, H9⟩, K9⟩
        go_wp2_with fail
        go_end0
        rw [HR.out]
        exact ⟨rfl, ⟨_, _, _, _, H9.turn (Fr.refl [] _) (by simp) (fun x hx => Or.inl (List.mem_cons_of_mem _ hx))⟩, K8.out.trans (K9.mono (fun x hx => List.mem_cons_of_mem _ hx))⟩
      · --@writes
        have hkb : (k == 1) = false := by simpa using hk1
        have HK1 := Lib.hid hk1
        clear hk1
        apply blk_use A5; intro hg5 hc5 hz5 _ _ _ _ _
        apply blk_use Q5; intro hg6 hc6 hz6 _ _ _ _ _
        go_wp2_with fail
        with_reducible refine (HA.out (p :: M) 0 none 0 0 [] _ H5.out (El.Sl.nil _ _ _)).mono ?_
        rintro e w6 ⟨rfl, ⟨v6, xs6, H7⟩, K7⟩
        go_wp2_with fail
        go_end0
        rw [HR.out, if_neg (by simp), if_neg (by simp), if_neg HK1.out]
        exact ⟨rfl, ⟨_, _, _, _, H7.turn (Fr.refl [] _) (by simp) (fun x hx => Or.inl (List.mem_cons_of_mem _ hx))⟩, K5.out.trans (K7.mono (fun x hx => List.mem_cons_of_mem _ hx))⟩
end
end Go.Proofs.Ytobekkgaildbgaa
