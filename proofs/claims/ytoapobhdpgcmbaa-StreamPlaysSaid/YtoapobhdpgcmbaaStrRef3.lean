/- The reference of layer 10: Access, of what may be. -/
import Derived.Test.YtoapobhdpgcmbaaStrRef2
import Derived.Test.YtoapobhdpgcmbaaCut
namespace Go.Proofs.Ytoapobhdpgcmbaa
open Go.RowKit Go.Lib

section
variable {w w' : World} {M M' S : List Nat} {r rt base : Nat} {P : Prm} {v : Value} {s : TS}
theorem Fr.cellN {S : List Nat} {w w' : World} (h : Fr S w w') {b off : Nat} (hb : b < w.heap.size) (hs : b ∉ S) : w'.cell? ⟨b, off, none⟩ = w.cell? ⟨b, off, none⟩ := by
  simp only [World.cell?, h.block b hb hs]
/-- The reference's tracker behind the search: the stream that is read is there. -/
structure RCut (w wc : World) (M : List Nat) (r rt base : Nat) (P : Prm) (v v1 : Value) (f c : Int) (s s1 : TS) (i : Nat) (x : Str) (q : Nat) (R : AR) : Prop where
  hx : s1.xs[i]? = some x
  may : amayB x.nx x.ah x.pp x.gg P.deg P.blk = true
  nx : x.nx = f
  us : s1.us = s.us + 1
  len : s1.xs.length ≤ 17
  eR : R = ⟨x.id, arF x.nx x.ah x.gg c P.blk, arC x.nx x.ah x.pp x.gg c P.deg P.blk, 0, ⟨s1.xs.set i (rdS P.deg P.blk c (s.us + 1) x), s.us + 1, s1.la, s1.L, s1.E⟩⟩
  trk : RTrk wc M r rt base P v1 s1
  own : ∀ y ∈ v1.ownBlock.toList, y ∈ v.ownBlock.toList ∨ w.heap.size ≤ y
  q0 : wc.heap[q]? = some (.cells #[.int .i64 0, .int .i64 0, .int .i64 0] 38)
  fr : Fr (rN r rt v) w wc
theorem accR_three (hP : P.Ok) (hs : SOk P s) {f c : Int} (hb : ¬ badA P f c) {R : AR} (hR : accR P f c s = R) :
    (∃ (i : Nat) (x : Str), fndS f s.xs = i ∧ s.xs[i]? = some x ∧ x.nx = f ∧ R = ⟨x.id, arF x.nx x.ah x.gg c P.blk, arC x.nx x.ah x.pp x.gg c P.deg P.blk, 0, ⟨s.xs.set i (rdS P.deg P.blk c (s.us + 1) x), s.us + 1, s.la, s.L, s.E⟩⟩) ∨
    (fndS f s.xs = -1 ∧ lookB P.life f c (s.L, s.E) = true ∧ R = ⟨s.la + 1, arF f f 0 c P.blk, arC f f 1 0 c P.deg P.blk, 0, ⟨(begX P.most s.xs ++ ([⟨s.la + 1, f, f, 1, 0, 0⟩] : List Str)).set (begX P.most s.xs).length (rdS P.deg P.blk c (s.us + 1) ⟨s.la + 1, f, f, 1, 0, 0⟩), s.us + 1, s.la + 1, (lookE P.size P.life f c (s.L, s.E)).1, (lookE P.size P.life f c (s.L, s.E)).2⟩⟩) ∨
    (fndS f s.xs = -1 ∧ lookB P.life f c (s.L, s.E) = false ∧ R = ⟨0, 0, 0, 0, ⟨s.xs, s.us + 1, s.la, (lookE P.size P.life f c (s.L, s.E)).1, (lookE P.size P.life f c (s.L, s.E)).2⟩⟩) := by
  have hw := accR_way s hb
  rw [hR] at hw
  cases hw with
  | old i x hx hn hf => exact Or.inl ⟨i, x, hf, hx, hn, rfl⟩
  | new hf hl => exact Or.inr (Or.inl ⟨hf, hl, by rw [List.set_append_right _ _ (Nat.le_refl _), Nat.sub_self]; rfl⟩)
  | no hf hl => exact Or.inr (Or.inr ⟨hf, hl, rfl⟩)
set_option maxRecDepth 100000 in
set_option maxHeartbeats 8000000 in
theorem rs_acc_ok (hP : P.Ok) (hs : SOk P s) (hu : s.us ≤ 850) (f c : Int) (hb : ¬ badA P f c) (H : RTrk w M r rt base P v s) :
    Calls Try.prog 18 #[.pointer (some ⟨r, 0, none⟩), .int .i64 f, .int .i64 c] w fun e w' => e = .returned (.tuple #[.agg #[.int .i64 (accR P f c s).id, .int .i64 (accR P f c s).af, .int .i64 (accR P f c s).an], .int .i64 (accR P f c s).cd]) ∧ (∃ v', RTrk w' M r rt base P v' (accR P f c s).s) ∧ Fr (rN r rt v) w w' := by
  have fol : Try.prog.follows .mixedOrders = true := by kernel_rfl
  obtain ⟨A0, c0, hv0⟩ := H.ow.shape
  subst hv0
  obtain ⟨R, hR⟩ : ∃ R, accR P f c s = R := ⟨_, rfl⟩
  have HW := Lib.hid (accR_three hP hs hb hR)
  rw [hR]
  clear hR
  have hb' : ¬ (c < 1 ∨ 8 < c ∨ f < 0 ∨ P.blk - c < f) := hb
  have c1 : 1 ≤ c := by omega
  have c2 : c ≤ 8 := by omega
  have c3 : 0 ≤ f := by omega
  have c4 : f + c ≤ P.blk := by omega
  have c5 : f < P.blk := by omega
  obtain ⟨b1, b2⟩ := hP.bl
  obtain ⟨m1, m2⟩ := hP.mo
  have HP := Lib.hid hP
  have HS := Lib.hid hs
  have HH := Lib.hid H
  have hu0 : 0 ≤ s.us := by have := hs.la0; have := hs.lau; omega
  have hla : 0 ≤ s.la ∧ s.la ≤ 1000 := by have := hs.la0; have := hs.lau; omega
  obtain ⟨la0, la1⟩ := hla
  have hxl : (s.xs.length : Int) ≤ 16 := by have := hs.len; omega
  have HLN : Hid ((s.xs.length : Int) ≤ P.most) := hs.len
  have HX := H.hr
  have hrl := lt_of_heap HX
  have HSl := Lib.hid (H.ow.sl (M := []) (by simp))
  have hlt0 := H.lt
  clear H hs hP hb hb'
  apply blk_use HX; intro hg1 hc1 hz1 _ _ _ _ _
  go_enter Try.func18, Try.ntmps18
  go_wp2_with fail
  obtain ⟨q, hq⟩ : ∃ q, q = w.heap.size := ⟨_, rfl⟩
  have T2 : RTrk ((w.setCell ⟨r, 2, none⟩ (.int .i64 (s.us + 1))).alloc (.cells #[.int .i64 0, .int .i64 0, .int .i64 0] 38)) (q :: M) r rt base P (.slice A0 s.xs.length c0) ⟨s.xs, s.us + 1, s.la, s.L, s.E⟩ := by
    have F1 : Fr [r] w (w.setCell ⟨r, 2, none⟩ (.int .i64 (s.us + 1))) := Fr.setOld (Fr.refl _ _) 2 (by simp) _
    have F2 : Fr [] (w.setCell ⟨r, 2, none⟩ (.int .i64 (s.us + 1))) ((w.setCell ⟨r, 2, none⟩ (.int .i64 (s.us + 1))).alloc (.cells #[.int .i64 0, .int .i64 0, .int .i64 0] 38)) := (by repeat' (first | (with_reducible exact Fr.refl _ _) | (with_reducible assumption) | (with_reducible refine Fr.drew ?_) | (with_reducible refine Fr.drewN ?_ _) | (with_reducible refine Fr.alloc ?_ _) | ((with_reducible refine Fr.setNew ?_ _ ?_ _); rotate_left; (focus (first | (with_reducible assumption) | exact Nat.le_of_lt (by with_reducible assumption) | (focus (simp +arith; done)) | exact Nat.le_trans (by with_reducible assumption) (by simp +arith; done) | (simp; done)))) | ((with_reducible refine Fr.setOld ?_ _ ?_ _); rotate_left; (focus (simp; done)))))
    have T1 := HH.out.put F1 (by simp) (by (apply heap_eq_of; (focus (repeat (first | (with_reducible assumption) | ((with_reducible refine heap_alloc_at ?_ _); first | (with_reducible rfl) | (focus (simp; done))) | (with_reducible apply heap_alloc_old) | ((with_reducible apply heap_set_other); (case hne => (first | (with_reducible assumption) | exact Nat.ne_of_lt (by with_reducible assumption) | exact Nat.ne_of_gt (by with_reducible assumption) | (focus (simp +arith; done)) | (simp; done)))) | (with_reducible apply heap_set_eq) | (with_reducible apply heap_drew_of) | (with_reducible apply heap_drewN_of)))); (focus (first | (simp; done) | rfl)))) (HH.out.ow.fr F1 (by simp; omega)) (fun y hy => Or.inl hy)
    exact T1.turn F2 (by simp) (fun x hx => by
      rcases List.mem_cons.1 hx with rfl | hx
      · right; rw [hq]; simp
      · exact Or.inl hx) (fun x hx => by
      rcases List.mem_cons.1 hx with rfl | hx
      · simp; omega
      · exact Nat.lt_of_lt_of_le (T1.ml x hx) F2.size)
  have Q2 : ((w.setCell ⟨r, 2, none⟩ (.int .i64 (s.us + 1))).alloc (.cells #[.int .i64 0, .int .i64 0, .int .i64 0] 38)).heap[q]? = some (.cells #[.int .i64 0, .int .i64 0, .int .i64 0] 38) := by rw [hq]; (apply heap_eq_of; (focus (repeat (first | (with_reducible assumption) | ((with_reducible refine heap_alloc_at ?_ _); first | (with_reducible rfl) | (focus (simp; done))) | (with_reducible apply heap_alloc_old) | ((with_reducible apply heap_set_other); (case hne => (first | (with_reducible assumption) | exact Nat.ne_of_lt (by with_reducible assumption) | exact Nat.ne_of_gt (by with_reducible assumption) | (focus (simp +arith; done)) | (simp; done)))) | (with_reducible apply heap_set_eq) | (with_reducible apply heap_drew_of) | (with_reducible apply heap_drewN_of)))); (focus (first | (simp; done) | rfl)))
  have F2 : Fr [r] w ((w.setCell ⟨r, 2, none⟩ (.int .i64 (s.us + 1))).alloc (.cells #[.int .i64 0, .int .i64 0, .int .i64 0] 38)) := (by repeat' (first | (with_reducible exact Fr.refl _ _) | (with_reducible assumption) | (with_reducible refine Fr.drew ?_) | (with_reducible refine Fr.drewN ?_ _) | (with_reducible refine Fr.alloc ?_ _) | ((with_reducible refine Fr.setNew ?_ _ ?_ _); rotate_left; (focus (first | (with_reducible assumption) | exact Nat.le_of_lt (by with_reducible assumption) | (focus (simp +arith; done)) | exact Nat.le_trans (by with_reducible assumption) (by simp +arith; done) | (simp; done)))) | ((with_reducible refine Fr.setOld ?_ _ ?_ _); rotate_left; (focus (simp; done)))))
  generalize ((w.setCell ⟨r, 2, none⟩ (.int .i64 (s.us + 1))).alloc (.cells #[.int .i64 0, .int .i64 0, .int .i64 0] 38)) = w2 at *
  (try rw [← hq])
  have HQ := Lib.hid hq
  have HT2 := Lib.hid T2
  have HX2 := T2.hr
  clear T2 hq hg1 hc1 hz1
  go_loopw [8, 9] (fun u y wr => ∃ i : Nat, y = .int .i64 i ∧ u = .int .i64 (bestF (fun s => decide (s.nx = f)) (fun a b => decide (b.us < a.us)) s.xs i) ∧ i ≤ s.xs.length ∧ Fr [] w2 wr) (fun _ y _ => s.xs.length - (intOf y).toNat)
  case atStart => exact ⟨0, rfl, rfl, by omega, Fr.refl _ _⟩
  case round =>
    obtain ⟨i, rfl, rfl, i1, G⟩ := hrel
    have HX3 := G.heap HX2 (by simp)
    apply blk_use HX3; intro hg1 hc1 hz1 _ _ _ _ _
    have HG := Lib.hid G
    by_cases hlt : i < s.xs.length
    · obtain ⟨_, _, he, _, hcell⟩ := HSl.out
      injection he with he1 _ he3
      subst he1 he3
      rcases hcell with hz | ⟨b9, o9, rfl, hb9, hM9, hcl⟩
      · rw [hz] at hlt; simp at hlt
      have hb2 : b9 < w2.heap.size := Nat.lt_of_lt_of_le hb9 F2.size
      have hbg : b9 ∉ [r] := by
        intro e
        have := HH.out.ow.ge b9 (by simp [Value.ownBlock])
        simp at e; omega
      have hx : s.xs[i]? = some s.xs[i] := List.getElem?_eq_getElem hlt
      obtain ⟨x0, x1, x2, x3, x4, x5⟩ := esat hcl hx
      have hbl := bestF_lt (fun s => decide (s.nx = f)) (fun a b => decide (b.us < a.us)) s.xs i
      have F3 : Fr [r] w wr := F2.trans (G.mono (by simp))
      have d1 := (F3.cellN (off := o9 + i * 6 + 1) hb9 hbg).trans x1
      have d5 := (F3.cellN (off := o9 + i * 6 + 5) hb9 hbg).trans x5
      have hbr := Nat.lt_of_lt_of_le hb9 F3.size
      have HCL := Lib.hid hcl
      have HF3 := Lib.hid F3
      have HB9 := Lib.hid (And.intro hb9 hbg)
      generalize hB : bestF (fun s => decide (s.nx = f)) (fun a b => decide (b.us < a.us)) s.xs i = B at *
      have HBH := Lib.hid hB
      generalize s.xs[i] = X at *
      have HXX := Lib.hid hx
      clear x0 x1 x2 x3 x4 x5 hcl hB hx hb9 hbg hb2 hM9 F3
      go_wp2_with fail
      clear hg1 hc1 hz1
      by_cases hn : X.nx = f
      · by_cases hBn : B < 0
        ·
          --@take0
          refine wp_region_seqV_lit (fun _ _ w' => Fr [] wr w') fol (by kernel_rfl) (Fr.refl _ _).drew ?_; (repeat (first | (apply SeqV.cons; (focus (intro Vv bv wv hbv hdv hsh hSv; (have h3 := hSv.heap HX3 (by simp)); apply blk_use h3; intro hg21 hc21 hz21 _ _ _ _ _; (have y1 := (hSv.cell (off := o9 + i * 6 + 1) hbr).trans d1); (have z5 := (hSv.cell (off := o9 + i * 6 + 5) hbr).trans d5); skip; go_wp2_with (fail); exact StepPost.mk rfl (Fr.trans (S := []) hSv (by repeat' (first | (with_reducible exact Fr.refl _ _) | (with_reducible assumption) | (with_reducible refine Fr.drew ?_) | (with_reducible refine Fr.drewN ?_ _) | (with_reducible refine Fr.alloc ?_ _) | ((with_reducible refine Fr.setNew ?_ _ ?_ _); rotate_left; (focus (first | (with_reducible assumption) | exact Nat.le_of_lt (by with_reducible assumption) | (focus (simp +arith; done)) | exact Nat.le_trans (by with_reducible assumption) (by simp +arith; done) | (simp; done)))) | ((with_reducible refine Fr.setOld ?_ _ ?_ _); rotate_left; (focus (simp; done)))))))); (try simp only [Act.put, List.setIfInBounds_toArray, List.set_cons_zero, List.set_cons_succ, Nat.reduceAdd, Nat.zero_add])) | (apply SeqV.cons (v := undef); (focus (intro Vv bv wv hbv hdv hsh hSv; (have h3 := hSv.heap HX3 (by simp)); apply blk_use h3; intro hg21 hc21 hz21 _ _ _ _ _; (have y1 := (hSv.cell (off := o9 + i * 6 + 1) hbr).trans d1); (have z5 := (hSv.cell (off := o9 + i * 6 + 5) hbr).trans d5); skip; go_wp2_with (fail); exact StepPost.mk rfl (Fr.trans (S := []) hSv (by repeat' (first | (with_reducible exact Fr.refl _ _) | (with_reducible assumption) | (with_reducible refine Fr.drew ?_) | (with_reducible refine Fr.drewN ?_ _) | (with_reducible refine Fr.alloc ?_ _) | ((with_reducible refine Fr.setNew ?_ _ ?_ _); rotate_left; (focus (first | (with_reducible assumption) | exact Nat.le_of_lt (by with_reducible assumption) | (focus (simp +arith; done)) | exact Nat.le_trans (by with_reducible assumption) (by simp +arith; done) | (simp; done)))) | ((with_reducible refine Fr.setOld ?_ _ ?_ _); rotate_left; (focus (simp; done)))))))); (try simp only [Act.put, List.setIfInBounds_toArray, List.set_cons_zero, List.set_cons_succ, Nat.reduceAdd, Nat.zero_add])))); refine SeqV.nil ?_; intro Vv bv w6 hb6 hSv; have G6 := HG.out.trans hSv; clear hb6 hSv; go_wp2_with fail; go_roundw; (case rel => exact ⟨i + 1, by go_num, by rw [bestF_take HXX.out HBH.out (by simpa using hn) (Or.inl hBn)], by omega, G6⟩); (case measure => (simp [intOf]; omega))
        · obtain ⟨m, rfl⟩ : ∃ m : Nat, B = m := ⟨B.toNat, by omega⟩
          have hml : m < s.xs.length := by omega
          have hmi : (m : Int) < (s.xs.length : Int) := by omega
          obtain ⟨y, hy⟩ : ∃ y, s.xs[m]? = some y := ⟨_, List.getElem?_eq_getElem hml⟩
          have hY := esat HCL.out hy
          have e5 := (HF3.out.cellN (off := o9 + m * 6 + 5) HB9.out.1 HB9.out.2).trans hY.2.2.2.2.2
          have HYY := Lib.hid hy
          clear hY hy hBn
          by_cases hu5 : y.us < X.us
          ·
            --@take1
            have had : decide (y.us < X.us) = true := by simp [hu5]
            have HA := Lib.hid had
            clear hu5
            refine wp_region_seqV_lit (fun _ _ w' => Fr [] wr w') fol (by kernel_rfl) (Fr.refl _ _).drew ?_; (repeat (first | (apply SeqV.cons; (focus (intro Vv bv wv hbv hdv hsh hSv; (have h3 := hSv.heap HX3 (by simp)); apply blk_use h3; intro hg21 hc21 hz21 _ _ _ _ _; (have y1 := (hSv.cell (off := o9 + i * 6 + 1) hbr).trans d1); (have z5 := (hSv.cell (off := o9 + i * 6 + 5) hbr).trans d5); (have y5 := (hSv.cell (off := o9 + m * 6 + 5) hbr).trans e5); go_wp2_with (fail); exact StepPost.mk rfl (Fr.trans (S := []) hSv (by repeat' (first | (with_reducible exact Fr.refl _ _) | (with_reducible assumption) | (with_reducible refine Fr.drew ?_) | (with_reducible refine Fr.drewN ?_ _) | (with_reducible refine Fr.alloc ?_ _) | ((with_reducible refine Fr.setNew ?_ _ ?_ _); rotate_left; (focus (first | (with_reducible assumption) | exact Nat.le_of_lt (by with_reducible assumption) | (focus (simp +arith; done)) | exact Nat.le_trans (by with_reducible assumption) (by simp +arith; done) | (simp; done)))) | ((with_reducible refine Fr.setOld ?_ _ ?_ _); rotate_left; (focus (simp; done)))))))); (try simp only [Act.put, List.setIfInBounds_toArray, List.set_cons_zero, List.set_cons_succ, Nat.reduceAdd, Nat.zero_add])) | (apply SeqV.cons (v := undef); (focus (intro Vv bv wv hbv hdv hsh hSv; (have h3 := hSv.heap HX3 (by simp)); apply blk_use h3; intro hg21 hc21 hz21 _ _ _ _ _; (have y1 := (hSv.cell (off := o9 + i * 6 + 1) hbr).trans d1); (have z5 := (hSv.cell (off := o9 + i * 6 + 5) hbr).trans d5); (have y5 := (hSv.cell (off := o9 + m * 6 + 5) hbr).trans e5); go_wp2_with (fail); exact StepPost.mk rfl (Fr.trans (S := []) hSv (by repeat' (first | (with_reducible exact Fr.refl _ _) | (with_reducible assumption) | (with_reducible refine Fr.drew ?_) | (with_reducible refine Fr.drewN ?_ _) | (with_reducible refine Fr.alloc ?_ _) | ((with_reducible refine Fr.setNew ?_ _ ?_ _); rotate_left; (focus (first | (with_reducible assumption) | exact Nat.le_of_lt (by with_reducible assumption) | (focus (simp +arith; done)) | exact Nat.le_trans (by with_reducible assumption) (by simp +arith; done) | (simp; done)))) | ((with_reducible refine Fr.setOld ?_ _ ?_ _); rotate_left; (focus (simp; done)))))))); (try simp only [Act.put, List.setIfInBounds_toArray, List.set_cons_zero, List.set_cons_succ, Nat.reduceAdd, Nat.zero_add])))); refine SeqV.nil ?_; intro Vv bv w6 hb6 hSv; have G6 := HG.out.trans hSv; clear hb6 hSv; go_wp2_with fail; go_roundw; (case rel => exact ⟨i + 1, by go_num, by rw [bestF_take HXX.out HBH.out (by simpa using hn) (Or.inr ⟨y, by rw [Int.toNat_natCast]; exact HYY.out, HA.out⟩)], by omega, G6⟩); (case measure => (simp [intOf]; omega))
          ·
            --@skip1
            have had : decide (y.us < X.us) = false := by simp [hu5]
            have HA := Lib.hid had
            clear hu5
            refine wp_region_seqV_lit (fun _ _ w' => Fr [] wr w') fol (by kernel_rfl) (Fr.refl _ _).drew ?_; (repeat (first | (apply SeqV.cons; (focus (intro Vv bv wv hbv hdv hsh hSv; (have h3 := hSv.heap HX3 (by simp)); apply blk_use h3; intro hg21 hc21 hz21 _ _ _ _ _; (have y1 := (hSv.cell (off := o9 + i * 6 + 1) hbr).trans d1); (have z5 := (hSv.cell (off := o9 + i * 6 + 5) hbr).trans d5); (have y5 := (hSv.cell (off := o9 + m * 6 + 5) hbr).trans e5); go_wp2_with (fail); exact StepPost.mk rfl (Fr.trans (S := []) hSv (by repeat' (first | (with_reducible exact Fr.refl _ _) | (with_reducible assumption) | (with_reducible refine Fr.drew ?_) | (with_reducible refine Fr.drewN ?_ _) | (with_reducible refine Fr.alloc ?_ _) | ((with_reducible refine Fr.setNew ?_ _ ?_ _); rotate_left; (focus (first | (with_reducible assumption) | exact Nat.le_of_lt (by with_reducible assumption) | (focus (simp +arith; done)) | exact Nat.le_trans (by with_reducible assumption) (by simp +arith; done) | (simp; done)))) | ((with_reducible refine Fr.setOld ?_ _ ?_ _); rotate_left; (focus (simp; done)))))))); (try simp only [Act.put, List.setIfInBounds_toArray, List.set_cons_zero, List.set_cons_succ, Nat.reduceAdd, Nat.zero_add])) | (apply SeqV.cons (v := undef); (focus (intro Vv bv wv hbv hdv hsh hSv; (have h3 := hSv.heap HX3 (by simp)); apply blk_use h3; intro hg21 hc21 hz21 _ _ _ _ _; (have y1 := (hSv.cell (off := o9 + i * 6 + 1) hbr).trans d1); (have z5 := (hSv.cell (off := o9 + i * 6 + 5) hbr).trans d5); (have y5 := (hSv.cell (off := o9 + m * 6 + 5) hbr).trans e5); go_wp2_with (fail); exact StepPost.mk rfl (Fr.trans (S := []) hSv (by repeat' (first | (with_reducible exact Fr.refl _ _) | (with_reducible assumption) | (with_reducible refine Fr.drew ?_) | (with_reducible refine Fr.drewN ?_ _) | (with_reducible refine Fr.alloc ?_ _) | ((with_reducible refine Fr.setNew ?_ _ ?_ _); rotate_left; (focus (first | (with_reducible assumption) | exact Nat.le_of_lt (by with_reducible assumption) | (focus (simp +arith; done)) | exact Nat.le_trans (by with_reducible assumption) (by simp +arith; done) | (simp; done)))) | ((with_reducible refine Fr.setOld ?_ _ ?_ _); rotate_left; (focus (simp; done)))))))); (try simp only [Act.put, List.setIfInBounds_toArray, List.set_cons_zero, List.set_cons_succ, Nat.reduceAdd, Nat.zero_add])))); refine SeqV.nil ?_; intro Vv bv w6 hb6 hSv; have G6 := HG.out.trans hSv; clear hb6 hSv; go_wp2_with fail; go_roundw; (case rel => exact ⟨i + 1, by go_num, by rw [bestF_not HXX.out HBH.out HYY.out HA.out], by omega, G6⟩); (case measure => (simp [intOf]; omega))
      ·
        --@skip0
        refine wp_region_seqV_lit (fun _ _ w' => Fr [] wr w') fol (by kernel_rfl) (Fr.refl _ _).drew ?_; (repeat (first | (apply SeqV.cons; (focus (intro Vv bv wv hbv hdv hsh hSv; (have h3 := hSv.heap HX3 (by simp)); apply blk_use h3; intro hg21 hc21 hz21 _ _ _ _ _; (have y1 := (hSv.cell (off := o9 + i * 6 + 1) hbr).trans d1); (have z5 := (hSv.cell (off := o9 + i * 6 + 5) hbr).trans d5); skip; go_wp2_with (fail); exact StepPost.mk rfl (Fr.trans (S := []) hSv (by repeat' (first | (with_reducible exact Fr.refl _ _) | (with_reducible assumption) | (with_reducible refine Fr.drew ?_) | (with_reducible refine Fr.drewN ?_ _) | (with_reducible refine Fr.alloc ?_ _) | ((with_reducible refine Fr.setNew ?_ _ ?_ _); rotate_left; (focus (first | (with_reducible assumption) | exact Nat.le_of_lt (by with_reducible assumption) | (focus (simp +arith; done)) | exact Nat.le_trans (by with_reducible assumption) (by simp +arith; done) | (simp; done)))) | ((with_reducible refine Fr.setOld ?_ _ ?_ _); rotate_left; (focus (simp; done)))))))); (try simp only [Act.put, List.setIfInBounds_toArray, List.set_cons_zero, List.set_cons_succ, Nat.reduceAdd, Nat.zero_add])) | (apply SeqV.cons (v := undef); (focus (intro Vv bv wv hbv hdv hsh hSv; (have h3 := hSv.heap HX3 (by simp)); apply blk_use h3; intro hg21 hc21 hz21 _ _ _ _ _; (have y1 := (hSv.cell (off := o9 + i * 6 + 1) hbr).trans d1); (have z5 := (hSv.cell (off := o9 + i * 6 + 5) hbr).trans d5); skip; go_wp2_with (fail); exact StepPost.mk rfl (Fr.trans (S := []) hSv (by repeat' (first | (with_reducible exact Fr.refl _ _) | (with_reducible assumption) | (with_reducible refine Fr.drew ?_) | (with_reducible refine Fr.drewN ?_ _) | (with_reducible refine Fr.alloc ?_ _) | ((with_reducible refine Fr.setNew ?_ _ ?_ _); rotate_left; (focus (first | (with_reducible assumption) | exact Nat.le_of_lt (by with_reducible assumption) | (focus (simp +arith; done)) | exact Nat.le_trans (by with_reducible assumption) (by simp +arith; done) | (simp; done)))) | ((with_reducible refine Fr.setOld ?_ _ ?_ _); rotate_left; (focus (simp; done)))))))); (try simp only [Act.put, List.setIfInBounds_toArray, List.set_cons_zero, List.set_cons_succ, Nat.reduceAdd, Nat.zero_add])))); refine SeqV.nil ?_; intro Vv bv w6 hb6 hSv; have G6 := HG.out.trans hSv; clear hb6 hSv; go_wp2_with fail; go_roundw; (case rel => exact ⟨i + 1, by go_num, by rw [bestF_skip HXX.out HBH.out (by simp [hn])], by omega, G6⟩); (case measure => (simp [intOf]; omega))
    · obtain rfl : i = s.xs.length := by omega
      have F3 : Fr [r] w wr := F2.trans (G.mono (by simp))
      have T3 := Lib.hid (HT2.out.fr0 G)
      have Q3 := G.heap Q2 (by simp)
      have hfi : bestF (fun s => decide (s.nx = f)) (fun a b => decide (b.us < a.us)) s.xs s.xs.length = fndS f s.xs := rfl
      rw [hfi]
      generalize fndS f s.xs = fi at *
      clear hlt HG G F2 HX2 Q2 hfi i1
      go_upto_if 98 with fail
      go_cut [8] (fun v8 wc => ∃ (v1 : Value) (s1 : TS) (i : Nat) (x : Str), v8 = .int .i64 i ∧ RCut w wc (q :: M) r rt base P (.slice A0 s.xs.length c0) v1 f c s s1 i x q R)
      case first =>
        clear hg1 hc1 hz1 HX3
        have hHP := HP.out
        have hs1 := hHP.si
        rcases HW.out with ⟨i, x, rfl, hx, hn, hR⟩ | ⟨rfl, hB, hR⟩ | ⟨rfl, hB, hR⟩
        · have HR := Lib.hid hR
          --@wold
          have HXX := Lib.hid hx
          have HN := Lib.hid hn
          clear hR hx hn
          go_wp2_with fail
          go_meet
          exact ⟨_, ⟨s.xs, s.us + 1, s.la, s.L, s.E⟩, i, x, rfl, HXX.out, HS.out.may x (List.mem_of_getElem? HXX.out), HN.out, rfl, (show s.xs.length ≤ 17 by omega), HR.out, T3.out, fun y hy => Or.inl hy, Q3, F3.mono (by simp)⟩
        ·
          --@wnew
          obtain ⟨⟨L2, E2⟩, hE⟩ : ∃ r, lookE P.size P.life f c (s.L, s.E) = r := ⟨_, rfl⟩
          rw [hE] at hR
          have HR := Lib.hid hR
          have HC := Lib.hid (fun M' w' (h : RTap M' w' rt P.size P.life (s.E.map (ag s.L))) => rt_look2 (M := M') (w := w') (rt := rt) f c hE hB (by have := HS.out.cl; omega) hs1.1 hs1.2 HS.out.tap c1 c2 c3 (by omega) h)
          have HX3 := T3.out.hr
          clear hR hE hB hHP hs1
          apply blk_use HX3; intro hg3 hc3 hz3 _ _ _ _ _
          go_wp2_with fail
          with_reducible refine (HC.out _ _ T3.out.tp).mono ?_
          rintro e w4 ⟨rfl, P4, f4⟩
          have T4 := Lib.hid (T3.out.look f4 P4)
          have hqn : q ≠ rt := (T3.out.ap q (by simp)).2.1
          have Q4 := f4.heap Q3 (by simpa using hqn)
          have F4 : Fr (rN r rt (Value.slice A0 s.xs.length c0)) w w4 := (F3.mono (by simp)).trans (f4.mono (by simp))
          clear hg3 hc3 hz3 HX3 P4 f4 hqn T3 Q3 F3
          have HX4 := T4.out.hr
          have HX4 : w4.heap[r]? = some (.cells #[.slice A0 s.xs.length c0, .pointer (some ⟨rt, 0, none⟩), .int .i64 (s.us + 1), .int .i64 s.la, .int .i64 P.most, .int .i64 P.deg, .int .i64 P.blk] 48) := HX4
          apply blk_use HX4; intro hg4 hc4 hz4 _ _ _ _ _
          go_wp2_with fail
          refine wp_region_seqV_lit (fun _ _ w' => Fr [] w4 w') fol (by kernel_rfl) (Fr.refl _ _).drew ?_
          (repeat (first | (apply SeqV.cons; (focus (intro Vv bv wv hbv hdv hsh hSv; (have h3 := hSv.heap HX4 (by simp)); apply blk_use h3; intro hg21 hc21 hz21 _ _ _ _ _; go_wp2_with (fail); exact StepPost.mk rfl (Fr.trans (S := []) hSv (by repeat' (first | (with_reducible exact Fr.refl _ _) | (with_reducible assumption) | (with_reducible refine Fr.drew ?_) | (with_reducible refine Fr.drewN ?_ _) | (with_reducible refine Fr.alloc ?_ _) | ((with_reducible refine Fr.setNew ?_ _ ?_ _); rotate_left; (focus (first | (with_reducible assumption) | exact Nat.le_of_lt (by with_reducible assumption) | (focus (simp +arith; done)) | exact Nat.le_trans (by with_reducible assumption) (by simp +arith; done) | (simp; done)))) | ((with_reducible refine Fr.setOld ?_ _ ?_ _); rotate_left; (focus (simp; done)))))))); (try simp only [Act.put, List.setIfInBounds_toArray, List.set_cons_zero, List.set_cons_succ, Nat.reduceAdd, Nat.zero_add])) | (apply SeqV.cons (v := undef); (focus (intro Vv bv wv hbv hdv hsh hSv; (have h3 := hSv.heap HX4 (by simp)); apply blk_use h3; intro hg21 hc21 hz21 _ _ _ _ _; go_wp2_with (fail); exact StepPost.mk rfl (Fr.trans (S := []) hSv (by repeat' (first | (with_reducible exact Fr.refl _ _) | (with_reducible assumption) | (with_reducible refine Fr.drew ?_) | (with_reducible refine Fr.drewN ?_ _) | (with_reducible refine Fr.alloc ?_ _) | ((with_reducible refine Fr.setNew ?_ _ ?_ _); rotate_left; (focus (first | (with_reducible assumption) | exact Nat.le_of_lt (by with_reducible assumption) | (focus (simp +arith; done)) | exact Nat.le_trans (by with_reducible assumption) (by simp +arith; done) | (simp; done)))) | ((with_reducible refine Fr.setOld ?_ _ ?_ _); rotate_left; (focus (simp; done)))))))); (try simp only [Act.put, List.setIfInBounds_toArray, List.set_cons_zero, List.set_cons_succ, Nat.reduceAdd, Nat.zero_add]))))
          refine SeqV.nil ?_
          intro Vv bv w5 hb5 G5
          clear hb5 hg4 hc4 hz4
          have HX5 := G5.heap HX4 (by simp)
          have T5 := Lib.hid (T4.out.fr0 G5)
          have Q5 := Lib.hid (G5.heap Q4 (by simp))
          have F5 := Lib.hid (F4.trans (G5.mono (by simp)))
          clear HX4 T4 Q4 F4 G5
          go_upto_if 121 with fail
          go_cut [] (fun wc => ∃ v1 : Value, RTrk wc (q :: M) r rt base P v1 ⟨begX P.most s.xs, s.us + 1, s.la, L2, E2⟩ ∧ (∀ y ∈ v1.ownBlock.toList, y ∈ (Value.slice A0 s.xs.length c0).ownBlock.toList ∨ w.heap.size ≤ y) ∧ wc.heap[q]? = some (.cells #[.int .i64 0, .int .i64 0, .int .i64 0] 38) ∧ Fr (rN r rt (.slice A0 s.xs.length c0)) w wc)
          case first =>
            by_cases hm : (s.xs.length : Int) = P.most
            · have hmb : P.most ≤ (s.xs.length : Int) := by omega
              have hne : s.xs ≠ [] := by intro e; rw [e] at hm; simp at hm; omega
              obtain ⟨o9, ho9, hol9⟩ := oldS_lt hne
              have HOL := Lib.hid ho9
              have hBX : Hid (begX P.most s.xs = s.xs.take o9 ++ s.xs.drop (o9 + 1)) := by
                unfold Hid begX; rw [if_pos hm, ho9, Int.toNat_natCast]; exact List.eraseIdx_eq_take_drop_succ _ _
              have hpos : 0 < s.xs.length := List.length_pos_iff.2 hne
              rw [show decide (P.most ≤ (s.xs.length : Int)) = true from decide_eq_true hmb]
              clear hm hne ho9 hmb
              go_wp2_with fail
              go_loopw [12, 13] (fun u y wr => ∃ (i o : Nat), y = .int .i64 i ∧ u = .int .i64 o ∧ (i = 0 ∧ o = 0 ∨ 0 < i ∧ bestF (fun _ => true) (fun a b => decide (a.us < b.us)) s.xs i = o) ∧ o < s.xs.length ∧ i ≤ s.xs.length ∧ Fr [] w5 wr) (fun _ y _ => s.xs.length - (intOf y).toNat)
              case atStart => exact ⟨0, 0, rfl, rfl, Or.inl ⟨rfl, rfl⟩, hpos, by omega, Fr.refl _ _⟩
              case round =>
                --@loop2
                obtain ⟨i, o, rfl, rfl, hio, hol, i1, G⟩ := hrel
                have HIO := Lib.hid hio
                have HX6 := G.heap HX5 (by simp)
                apply blk_use HX6; intro hg6 hc6 hz6 _ _ _ _ _
                have HG := Lib.hid G
                clear hio
                by_cases hlt : i < s.xs.length
                ·
                  --@round2
                  obtain ⟨_, _, he, _, hcell⟩ := (T5.out.ow.sl (M := []) (by simp))
                  injection he with he1 _ he3
                  subst he1 he3
                  rcases hcell with hz | ⟨b9, p9, rfl, hb9, hM9, hcl⟩
                  · have hz : s.xs = [] := hz
                    rw [hz] at hlt; simp at hlt
                  have hcl : ∀ j u, (eS.cs s.xs)[j]? = some u → w5.cell? ⟨b9, p9 + j, none⟩ = some u := hcl
                  have hx : s.xs[i]? = some s.xs[i] := List.getElem?_eq_getElem hlt
                  have hy : s.xs[o]? = some s.xs[o] := List.getElem?_eq_getElem hol
                  have hX := (esat hcl hx).2.2.2.2.2
                  have hY := (esat hcl hy).2.2.2.2.2
                  generalize s.xs[i] = X at *
                  generalize s.xs[o] = Y at *
                  have d5 := (G.cell (off := p9 + i * 6 + 5) hb9).trans hX
                  have e5 := (G.cell (off := p9 + o * 6 + 5) hb9).trans hY
                  have hbr := Nat.lt_of_lt_of_le hb9 G.size
                  have HXX := Lib.hid hx
                  have HYY := Lib.hid hy
                  clear hX hY hcl hx hy hM9 hb9 G
                  go_wp2_with fail
                  clear hg6 hc6 hz6
                  have HU : Hid (decide (X.us < Y.us) = true ∨ decide (X.us < Y.us) = false) := by unfold Hid; cases decide (X.us < Y.us) <;> simp
                  rcases HU.out with huu | huu
                  all_goals
                    have HUU := Lib.hid huu
                    refine wp_region_seqV_lit (fun _ _ w' => Fr [] wr w') fol (by kernel_rfl) (Fr.refl _ _).drew ?_
                    (repeat (first | (apply SeqV.cons; (focus (intro Vv bv wv hbv hdv hsh hSv; (have h3 := hSv.heap HX6 (by simp)); apply blk_use h3; intro hg21 hc21 hz21 _ _ _ _ _; (have z5 := (hSv.cell (off := p9 + i * 6 + 5) hbr).trans d5); (have y5 := (hSv.cell (off := p9 + o * 6 + 5) hbr).trans e5); go_wp2_with (fail); exact StepPost.mk rfl (Fr.trans (S := []) hSv (by repeat' (first | (with_reducible exact Fr.refl _ _) | (with_reducible assumption) | (with_reducible refine Fr.drew ?_) | (with_reducible refine Fr.drewN ?_ _) | (with_reducible refine Fr.alloc ?_ _) | ((with_reducible refine Fr.setNew ?_ _ ?_ _); rotate_left; (focus (first | (with_reducible assumption) | exact Nat.le_of_lt (by with_reducible assumption) | (focus (simp +arith; done)) | exact Nat.le_trans (by with_reducible assumption) (by simp +arith; done) | (simp; done)))) | ((with_reducible refine Fr.setOld ?_ _ ?_ _); rotate_left; (focus (simp; done)))))))); (try simp only [Act.put, List.setIfInBounds_toArray, List.set_cons_zero, List.set_cons_succ, Nat.reduceAdd, Nat.zero_add])) | (apply SeqV.cons (v := undef); (focus (intro Vv bv wv hbv hdv hsh hSv; (have h3 := hSv.heap HX6 (by simp)); apply blk_use h3; intro hg21 hc21 hz21 _ _ _ _ _; (have z5 := (hSv.cell (off := p9 + i * 6 + 5) hbr).trans d5); (have y5 := (hSv.cell (off := p9 + o * 6 + 5) hbr).trans e5); go_wp2_with (fail); exact StepPost.mk rfl (Fr.trans (S := []) hSv (by repeat' (first | (with_reducible exact Fr.refl _ _) | (with_reducible assumption) | (with_reducible refine Fr.drew ?_) | (with_reducible refine Fr.drewN ?_ _) | (with_reducible refine Fr.alloc ?_ _) | ((with_reducible refine Fr.setNew ?_ _ ?_ _); rotate_left; (focus (first | (with_reducible assumption) | exact Nat.le_of_lt (by with_reducible assumption) | (focus (simp +arith; done)) | exact Nat.le_trans (by with_reducible assumption) (by simp +arith; done) | (simp; done)))) | ((with_reducible refine Fr.setOld ?_ _ ?_ _); rotate_left; (focus (simp; done)))))))); (try simp only [Act.put, List.setIfInBounds_toArray, List.set_cons_zero, List.set_cons_succ, Nat.reduceAdd, Nat.zero_add]))))
                    refine SeqV.nil ?_
                    intro Vv bv w6 hb6 hSv
                    have G6 := HG.out.trans hSv
                    clear hb6 hSv
                    go_wp2_with fail
                    go_roundw
                    case measure => simp [intOf]; omega
                  · case rel => exact ⟨i + 1, i, by go_num, rfl, Or.inr ⟨by omega, by
                      rcases HIO.out with ⟨h1, h2⟩ | ⟨h1, h2⟩
                      · exfalso
                        subst h1 h2
                        have e := HXX.out.symm.trans HYY.out
                        injection e with e
                        subst e
                        have h3 := HUU.out
                        simp at h3
                      · exact bestF_take HXX.out h2 rfl (Or.inr ⟨Y, by rw [Int.toNat_natCast]; exact HYY.out, HUU.out⟩)⟩, hlt, by omega, G6⟩
                  · case rel => exact ⟨i + 1, o, by go_num, rfl, Or.inr ⟨by omega, by
                      rcases HIO.out with ⟨h1, h2⟩ | ⟨h1, h2⟩
                      · subst h1 h2
                        exact bestF_take HXX.out rfl rfl (Or.inl (by simp [bestF]))
                      · exact bestF_not HXX.out h2 HYY.out HUU.out⟩, hol, by omega, G6⟩
                ·
                  --@erase
                  obtain rfl : i = s.xs.length := by omega
                  obtain rfl : o = o9 := by
                    rcases HIO.out with ⟨h1, _⟩ | ⟨_, h2⟩
                    · omega
                    · have h3 : oldS s.xs = (o9 : Int) := HOL.out
                      unfold oldS at h3
                      omega
                  have HX7 : wr.heap[r]? = some (.cells #[.slice A0 s.xs.length c0, .pointer (some ⟨rt, 0, none⟩), .int .i64 (s.us + 1), .int .i64 s.la, .int .i64 P.most, .int .i64 P.deg, .int .i64 P.blk] 48) := HX6
                  have T7 := Lib.hid (T5.out.fr0 G)
                  have Q7 := Lib.hid (G.heap Q5.out (by simp))
                  have F7 := Lib.hid (F5.out.trans (G.mono (by simp)))
                  have S7 : eS.Sl [r] wr (.slice A0 s.xs.length c0) s.xs := T7.out.ow.sl (by simpa using T7.out.lt.1)
                  have hcap : s.xs.length ≤ c0 := by obtain ⟨_, _, he, hc, _⟩ := id S7; injection he with _ _ he3; subst he3; exact hc
                  have ho' : (o : Int) < (s.xs.length : Int) := by omega
                  have hoc : (o : Int) ≤ (c0 : Int) := by omega
                  have TK := Lib.hid (S7.take eSok o (by omega))
                  obtain ⟨u, hu9, hu2⟩ := S7.from eSok (o + 1) (by omega)
                  have DR := Lib.hid hu2
                  simp only [Int.natCast_succ, eS] at hu9
                  have hrb : r < wr.heap.size := lt_of_heap HX7
                  have hmb' : (s.xs.length : Int) ≤ 1000 := by omega
                  clear hu2 S7 HX6 HX5 T5 Q5 F5 HG G HIO HOL hlt
                  go_wp2_with fail
                  clear hg6 hc6 hz6
                  refine wp_region_seqV_lit (ChS eS wr [r] wr.heap.size (.slice none 0 0) [] [1, 8, 16] [[], s.xs.take o, s.xs.take o ++ s.xs.drop (o + 1)] [] 19 1000 r _ (fun u => .cells #[u, .pointer (some ⟨rt, 0, none⟩), .int .i64 (s.us + 1), .int .i64 s.la, .int .i64 P.most, .int .i64 P.deg, .int .i64 P.blk] 48)) fol (by kernel_rfl) (ChS.start HX7 (Nat.le_refl _) (El.Own.nil _ _ _)) ?_
                  (iterate 1 (apply SeqV.cons; (focus (intro Vv bv wv hbv hdv hsh hSv; have t0 := hSv.t0 (shut_no hsh hbv 19 (by kernel_rfl)); apply blk_use t0; intro hg21 hc21 hz21 _ _ _ _ _; clear hsh hdv; go_wp2_with fail; exact StepPost.mk rfl (hSv.plain (by first | decide | simp) hrb (by repeat' (first | (with_reducible exact Fr.refl _ _) | (with_reducible assumption) | (with_reducible refine Fr.drew ?_) | (with_reducible refine Fr.drewN ?_ _) | (with_reducible refine Fr.alloc ?_ _) | ((with_reducible refine Fr.setNew ?_ _ ?_ _); rotate_left; (focus (first | (with_reducible assumption) | exact Nat.le_of_lt (by with_reducible assumption) | (focus (simp +arith; done)) | exact Nat.le_trans (by with_reducible assumption) (by simp +arith; done) | (simp; done)))) | ((with_reducible refine Fr.setOld ?_ _ ?_ _); rotate_left; (focus (simp; done)))))))); (try simp only [Act.put, List.setIfInBounds_toArray, List.set_cons_zero, List.set_cons_succ, Nat.reduceAdd, Nat.zero_add])))
                  apply SeqV.var; (focus (intro Vv bv wv hbv hdv hsh hSv; go_wp2_with fail; exact StepV.mk _ rfl (hSv.row 0 rfl rfl (by first | decide | simp) (by simp) hbv (shut_no hsh hbv _ (by kernel_rfl)) (hSv.noq rfl) hrb (S := []) (by repeat' (first | (with_reducible exact Fr.refl _ _) | (with_reducible assumption) | (with_reducible refine Fr.drew ?_) | (with_reducible refine Fr.drewN ?_ _) | (with_reducible refine Fr.alloc ?_ _) | ((with_reducible refine Fr.setNew ?_ _ ?_ _); rotate_left; (focus (first | (with_reducible assumption) | exact Nat.le_of_lt (by with_reducible assumption) | (focus (simp +arith; done)) | exact Nat.le_trans (by with_reducible assumption) (by simp +arith; done) | (simp; done)))) | ((with_reducible refine Fr.setOld ?_ _ ?_ _); rotate_left; (focus (simp; done))))) (by simp) (by simp) (by simp) (El.Own.lit [] (by (apply heap_eq_of; (focus (repeat (first | (with_reducible assumption) | ((with_reducible refine heap_alloc_at ?_ _); first | (with_reducible rfl) | (focus (simp; done))) | (with_reducible apply heap_alloc_old) | ((with_reducible apply heap_set_other); (case hne => (first | (with_reducible assumption) | exact Nat.ne_of_lt (by with_reducible assumption) | exact Nat.ne_of_gt (by with_reducible assumption) | (focus (simp +arith; done)) | (simp; done)))) | (with_reducible apply heap_set_eq) | (with_reducible apply heap_drew_of) | (with_reducible apply heap_drewN_of)))); (focus (first | (simp; done) | rfl)))) hSv.fr.le rfl eSok (by simp [maxLen]) 0 rfl) (Or.inl (by simp [Value.ownBlock]))))); (try simp only [Act.put, List.setIfInBounds_toArray, List.set_cons_zero, List.set_cons_succ, Nat.reduceAdd, Nat.zero_add])
                  (iterate 6 (apply SeqV.cons; (focus (intro Vv bv wv hbv hdv hsh hSv; have t0 := hSv.t0 (shut_no hsh hbv 19 (by kernel_rfl)); apply blk_use t0; intro hg21 hc21 hz21 _ _ _ _ _; clear hsh hdv; go_wp2_with fail; exact StepPost.mk rfl (hSv.plain (by first | decide | simp) hrb (by repeat' (first | (with_reducible exact Fr.refl _ _) | (with_reducible assumption) | (with_reducible refine Fr.drew ?_) | (with_reducible refine Fr.drewN ?_ _) | (with_reducible refine Fr.alloc ?_ _) | ((with_reducible refine Fr.setNew ?_ _ ?_ _); rotate_left; (focus (first | (with_reducible assumption) | exact Nat.le_of_lt (by with_reducible assumption) | (focus (simp +arith; done)) | exact Nat.le_trans (by with_reducible assumption) (by simp +arith; done) | (simp; done)))) | ((with_reducible refine Fr.setOld ?_ _ ?_ _); rotate_left; (focus (simp; done)))))))); (try simp only [Act.put, List.setIfInBounds_toArray, List.set_cons_zero, List.set_cons_succ, Nat.reduceAdd, Nat.zero_add])))
                  apply SeqV.var; (focus (intro Vv bv wv hbv hdv hsh hSv; have d0 := hdv { on := 1, ground := .data } (by simp) rfl; have p0 := hSv.at (1 - 1) rfl rfl rfl d0 hbv; go_wp2_with (at_builtin; refine wpList_appG eSok _ rfl (.tmp 150) (.tmp 156) rfl rfl _ _ _ rfl p0 _ _ rfl (TK.out.frB hSv.fr (by simp) rfl) (by simp; omega) hSv.fr.le ?_; intro v1 wq O1 G1 U1); exact StepV.mk v1 rfl (hSv.row 1 rfl rfl (by first | decide | simp) (by intro p _ hp; simp at hp; subst hp; exact d0) hbv (shut_no hsh hbv _ (by kernel_rfl)) (hSv.noq rfl) hrb G1 (fun x hx => p0.ge x hx) (by intro p _ hp; simp at hp; subst hp; exact fun x hx => hx) (by simp) (by simpa using O1) (Or.inl U1)))); (try simp only [Act.put, List.setIfInBounds_toArray, List.set_cons_zero, List.set_cons_succ, Nat.reduceAdd, Nat.zero_add])
                  (iterate 7 (apply SeqV.cons; (focus (intro Vv bv wv hbv hdv hsh hSv; have t0 := hSv.t0 (shut_no hsh hbv 19 (by kernel_rfl)); apply blk_use t0; intro hg21 hc21 hz21 _ _ _ _ _; clear hsh hdv; go_wp2_with fail; exact StepPost.mk rfl (hSv.plain (by first | decide | simp) hrb (by repeat' (first | (with_reducible exact Fr.refl _ _) | (with_reducible assumption) | (with_reducible refine Fr.drew ?_) | (with_reducible refine Fr.drewN ?_ _) | (with_reducible refine Fr.alloc ?_ _) | ((with_reducible refine Fr.setNew ?_ _ ?_ _); rotate_left; (focus (first | (with_reducible assumption) | exact Nat.le_of_lt (by with_reducible assumption) | (focus (simp +arith; done)) | exact Nat.le_trans (by with_reducible assumption) (by simp +arith; done) | (simp; done)))) | ((with_reducible refine Fr.setOld ?_ _ ?_ _); rotate_left; (focus (simp; done)))))))); (try simp only [Act.put, List.setIfInBounds_toArray, List.set_cons_zero, List.set_cons_succ, Nat.reduceAdd, Nat.zero_add])))
                  apply SeqV.var; (focus (intro Vv bv wv hbv hdv hsh hSv; have d0 := hdv { on := 8, ground := .data } (by simp) rfl; have p0 := hSv.at (2 - 1) rfl rfl rfl d0 hbv; go_wp2_with (at_builtin; refine wpList_appG eSok _ rfl (.tmp 157) (.tmp 164) rfl rfl _ _ _ rfl p0 _ _ rfl (DR.out.frB hSv.fr (by simp) rfl) (by simp; omega) hSv.fr.le ?_; intro v1 wq O1 G1 U1); exact StepV.mk v1 rfl (hSv.row 2 rfl rfl (by first | decide | simp) (by intro p _ hp; simp at hp; subst hp; exact d0) hbv (shut_no hsh hbv _ (by kernel_rfl)) (hSv.noq rfl) hrb G1 (fun x hx => p0.ge x hx) (by intro p _ hp; simp at hp; subst hp; exact fun x hx => hx) (by simp) (by simpa using O1) (Or.inl U1)))); (try simp only [Act.put, List.setIfInBounds_toArray, List.set_cons_zero, List.set_cons_succ, Nat.reduceAdd, Nat.zero_add])
                  (iterate 2 (apply SeqV.cons; (focus (intro Vv bv wv hbv hdv hsh hSv; skip; clear hsh hdv; go_wp2_with fail; exact StepPost.mk rfl (hSv.plain (by first | decide | simp) hrb (by repeat' (first | (with_reducible exact Fr.refl _ _) | (with_reducible assumption) | (with_reducible refine Fr.drew ?_) | (with_reducible refine Fr.drewN ?_ _) | (with_reducible refine Fr.alloc ?_ _) | ((with_reducible refine Fr.setNew ?_ _ ?_ _); rotate_left; (focus (first | (with_reducible assumption) | exact Nat.le_of_lt (by with_reducible assumption) | (focus (simp +arith; done)) | exact Nat.le_trans (by with_reducible assumption) (by simp +arith; done) | (simp; done)))) | ((with_reducible refine Fr.setOld ?_ _ ?_ _); rotate_left; (focus (simp; done)))))))); (try simp only [Act.put, List.setIfInBounds_toArray, List.set_cons_zero, List.set_cons_succ, Nat.reduceAdd, Nat.zero_add])))
                  apply SeqV.cons (v := undef); (focus (intro Vv bv wv hbv hdv hsh hSv; have t0 := hSv.t0 hbv; have d0 := hdv { on := 16, ground := .data } (by simp) rfl; obtain ⟨sA, sc, hsv⟩ := hSv.shape (p := 16) rfl rfl d0; apply blk_use t0; intro hg21 hc21 hz21 _ _ _ _ _; go_wp2_with fail; exact StepPost.mk rfl (hSv.store (by first | decide | simp) (by simp) hrb (p := 16) rfl d0 (S := [r]) (by repeat' (first | (with_reducible exact Fr.refl _ _) | (with_reducible assumption) | (with_reducible refine Fr.drew ?_) | (with_reducible refine Fr.drewN ?_ _) | (with_reducible refine Fr.alloc ?_ _) | ((with_reducible refine Fr.setNew ?_ _ ?_ _); rotate_left; (focus (first | (with_reducible assumption) | exact Nat.le_of_lt (by with_reducible assumption) | (focus (simp +arith; done)) | exact Nat.le_trans (by with_reducible assumption) (by simp +arith; done) | (simp; done)))) | ((with_reducible refine Fr.setOld ?_ _ ?_ _); rotate_left; (focus (simp; done))))) (by simp) (by rw [hsv]; (apply heap_eq_of; (focus (repeat (first | (with_reducible assumption) | ((with_reducible refine heap_alloc_at ?_ _); first | (with_reducible rfl) | (focus (simp; done))) | (with_reducible apply heap_alloc_old) | ((with_reducible apply heap_set_other); (case hne => (first | (with_reducible assumption) | exact Nat.ne_of_lt (by with_reducible assumption) | exact Nat.ne_of_gt (by with_reducible assumption) | (focus (simp +arith; done)) | (simp; done)))) | (with_reducible apply heap_set_eq) | (with_reducible apply heap_drew_of) | (with_reducible apply heap_drewN_of)))); (focus (first | (simp; done) | rfl))))))); (try simp only [Act.put, List.setIfInBounds_toArray, List.set_cons_zero, List.set_cons_succ, Nat.reduceAdd, Nat.zero_add])
                  refine SeqV.nil ?_
                  intro Vv bv w9 hb9 hSv
                  have O9 := hSv.last (p := 16) rfl rfl (hb9 16 (by decide))
                  have R9 := (hSv.t1 (hb9 19 (by decide)) 16 rfl).2
                  have F9 := hSv.fr.after (Fr.refl [r] wr) (Nat.le_refl _) (by simp)
                  clear hSv hb9
                  generalize Vv 16 = v9 at *
                  go_wp2_with fail
                  go_meet
                  rw [hBX.out]
                  have hlt7 := T7.out.lt
                  have hge := O9.ge
                  exact ⟨v9, T7.out.put F9 (by simp) R9 (O9.mono hlt7.2.2.2) (fun y hy => Or.inr (hge y hy)), fun y hy => Or.inr (Nat.le_trans F7.out.size (hge y hy)), F9.heap Q7.out (by simpa using (T7.out.ap q (by simp)).1), F7.out.trans (F9.mono (by simp))⟩
            ·
              --@room
              have hmb : (s.xs.length : Int) < P.most := by have := HLN.out; omega
              have hBX : Hid (begX P.most s.xs = s.xs) := by unfold Hid begX; rw [if_neg hm]
              clear hm
              go_wp2_with fail
              go_meet
              rw [hBX.out]
              exact ⟨_, T5.out, fun y hy => Or.inl hy, Q5.out, F5.out⟩
          case rest =>
            --@begun
            clear T5 Q5 F5 HX5
            obtain ⟨v1, T6, U6, Q6, F6⟩ := hcut
            have hbl : (begX P.most s.xs).length ≤ 16 := by have := (begX_sub P.most s.xs).length_le; omega
            generalize begX P.most s.xs = X1 at *
            obtain ⟨A1, c9, hv1⟩ := T6.ow.shape
            subst hv1
            have HX6 : wc.heap[r]? = some (.cells #[.slice A1 X1.length c9, .pointer (some ⟨rt, 0, none⟩), .int .i64 (s.us + 1), .int .i64 s.la, .int .i64 P.most, .int .i64 P.deg, .int .i64 P.blk] 48) := T6.hr
            have HT6 := Lib.hid T6
            have HU6 := Lib.hid U6
            have HQ6 := Lib.hid Q6
            have HF6 := Lib.hid F6
            clear T6 U6 Q6 F6
            apply blk_use HX6; intro hg6 hc6 hz6 _ _ _ _ _
            go_wp2_with fail
            have f7 : Fr [r] wc (wc.setCell ⟨r, 3, none⟩ (.int .i64 (s.la + 1))) := Fr.setOld (Fr.refl _ _) 3 (by simp) _
            have HX7 : (wc.setCell ⟨r, 3, none⟩ (.int .i64 (s.la + 1))).heap[r]? = some (.cells #[.slice A1 X1.length c9, .pointer (some ⟨rt, 0, none⟩), .int .i64 (s.us + 1), .int .i64 (s.la + 1), .int .i64 P.most, .int .i64 P.deg, .int .i64 P.blk] 48) := by (apply heap_eq_of; (focus (repeat (first | (with_reducible assumption) | ((with_reducible refine heap_alloc_at ?_ _); first | (with_reducible rfl) | (focus (simp; done))) | (with_reducible apply heap_alloc_old) | ((with_reducible apply heap_set_other); (case hne => (first | (with_reducible assumption) | exact Nat.ne_of_lt (by with_reducible assumption) | exact Nat.ne_of_gt (by with_reducible assumption) | (focus (simp +arith; done)) | (simp; done)))) | (with_reducible apply heap_set_eq) | (with_reducible apply heap_drew_of) | (with_reducible apply heap_drewN_of)))); (focus (first | (simp; done) | rfl)))
            have hlt6 := HT6.out.lt
            have T7 := Lib.hid (HT6.out.put f7 (by simp) HX7 (HT6.out.ow.fr f7 (by simp; omega)) (fun y hy => Or.inl hy))
            have F7 := Lib.hid (HF6.out.trans (f7.mono (by simp)))
            have Q7 := Lib.hid (f7.heap HQ6.out (by simpa using (HT6.out.ap q (by simp)).1))
            generalize wc.setCell ⟨r, 3, none⟩ (.int .i64 (s.la + 1)) = w7 at *
            have U7 := Lib.hid (HU6.out)
            have SL := Lib.hid (T7.out.ow.sl (M := [r]) (by simpa using T7.out.lt.1))
            have hrb : r < w7.heap.size := lt_of_heap HX7
            clear f7 HT6 HF6 HQ6 HU6 hg6 hc6 hz6 HX6
            refine wp_region_seqV_lit (ChS eS w7 [r] w7.heap.size (.slice none 0 0) [] [1, 6, 16] [[], X1, X1 ++ [⟨s.la + 1, f, f, 1, 0, 0⟩]] [(15, [⟨s.la + 1, f, f, 1, 0, 0⟩])] 19 1000 r _ (fun u => .cells #[u, .pointer (some ⟨rt, 0, none⟩), .int .i64 (s.us + 1), .int .i64 (s.la + 1), .int .i64 P.most, .int .i64 P.deg, .int .i64 P.blk] 48)) fol (by kernel_rfl) (ChS.start HX7 (Nat.le_refl _) (El.Own.nil _ _ _)) ?_
            (iterate 1 (apply SeqV.cons; (focus (intro Vv bv wv hbv hdv hsh hSv; have t0 := hSv.t0 (shut_no hsh hbv 19 (by kernel_rfl)); apply blk_use t0; intro hg21 hc21 hz21 _ _ _ _ _; clear hsh hdv; go_wp2_with fail; exact StepPost.mk rfl (hSv.plain (by first | decide | simp) hrb (by repeat' (first | (with_reducible exact Fr.refl _ _) | (with_reducible assumption) | (with_reducible refine Fr.drew ?_) | (with_reducible refine Fr.drewN ?_ _) | (with_reducible refine Fr.alloc ?_ _) | ((with_reducible refine Fr.setNew ?_ _ ?_ _); rotate_left; (focus (first | (with_reducible assumption) | exact Nat.le_of_lt (by with_reducible assumption) | (focus (simp +arith; done)) | exact Nat.le_trans (by with_reducible assumption) (by simp +arith; done) | (simp; done)))) | ((with_reducible refine Fr.setOld ?_ _ ?_ _); rotate_left; (focus (simp; done)))))))); (try simp only [Act.put, List.setIfInBounds_toArray, List.set_cons_zero, List.set_cons_succ, Nat.reduceAdd, Nat.zero_add])))
            apply SeqV.var; (focus (intro Vv bv wv hbv hdv hsh hSv; go_wp2_with fail; exact StepV.mk _ rfl (hSv.row 0 rfl rfl (by first | decide | simp) (by simp) hbv (shut_no hsh hbv _ (by kernel_rfl)) (hSv.noq rfl) hrb (S := []) (by repeat' (first | (with_reducible exact Fr.refl _ _) | (with_reducible assumption) | (with_reducible refine Fr.drew ?_) | (with_reducible refine Fr.drewN ?_ _) | (with_reducible refine Fr.alloc ?_ _) | ((with_reducible refine Fr.setNew ?_ _ ?_ _); rotate_left; (focus (first | (with_reducible assumption) | exact Nat.le_of_lt (by with_reducible assumption) | (focus (simp +arith; done)) | exact Nat.le_trans (by with_reducible assumption) (by simp +arith; done) | (simp; done)))) | ((with_reducible refine Fr.setOld ?_ _ ?_ _); rotate_left; (focus (simp; done))))) (by simp) (by simp) (by simp) (El.Own.lit [] (by (apply heap_eq_of; (focus (repeat (first | (with_reducible assumption) | ((with_reducible refine heap_alloc_at ?_ _); first | (with_reducible rfl) | (focus (simp; done))) | (with_reducible apply heap_alloc_old) | ((with_reducible apply heap_set_other); (case hne => (first | (with_reducible assumption) | exact Nat.ne_of_lt (by with_reducible assumption) | exact Nat.ne_of_gt (by with_reducible assumption) | (focus (simp +arith; done)) | (simp; done)))) | (with_reducible apply heap_set_eq) | (with_reducible apply heap_drew_of) | (with_reducible apply heap_drewN_of)))); (focus (first | (simp; done) | rfl)))) hSv.fr.le rfl eSok (by simp [maxLen]) 0 rfl) (Or.inl (by simp [Value.ownBlock]))))); (try simp only [Act.put, List.setIfInBounds_toArray, List.set_cons_zero, List.set_cons_succ, Nat.reduceAdd, Nat.zero_add])
            (iterate 4 (apply SeqV.cons; (focus (intro Vv bv wv hbv hdv hsh hSv; have t0 := hSv.t0 (shut_no hsh hbv 19 (by kernel_rfl)); apply blk_use t0; intro hg21 hc21 hz21 _ _ _ _ _; clear hsh hdv; go_wp2_with fail; exact StepPost.mk rfl (hSv.plain (by first | decide | simp) hrb (by repeat' (first | (with_reducible exact Fr.refl _ _) | (with_reducible assumption) | (with_reducible refine Fr.drew ?_) | (with_reducible refine Fr.drewN ?_ _) | (with_reducible refine Fr.alloc ?_ _) | ((with_reducible refine Fr.setNew ?_ _ ?_ _); rotate_left; (focus (first | (with_reducible assumption) | exact Nat.le_of_lt (by with_reducible assumption) | (focus (simp +arith; done)) | exact Nat.le_trans (by with_reducible assumption) (by simp +arith; done) | (simp; done)))) | ((with_reducible refine Fr.setOld ?_ _ ?_ _); rotate_left; (focus (simp; done)))))))); (try simp only [Act.put, List.setIfInBounds_toArray, List.set_cons_zero, List.set_cons_succ, Nat.reduceAdd, Nat.zero_add])))
            apply SeqV.var; (focus (intro Vv bv wv hbv hdv hsh hSv; have d0 := hdv { on := 1, ground := .data } (by simp) rfl; have p0 := hSv.at (1 - 1) rfl rfl rfl d0 hbv; go_wp2_with (at_builtin; refine wpList_appG eSok _ rfl (.tmp 176) (.tmp 180) rfl rfl _ _ _ rfl p0 _ _ rfl (SL.out.frB hSv.fr (by simp) rfl) (by simp; omega) hSv.fr.le ?_; intro v1 wq O1 G1 U1); exact StepV.mk v1 rfl (hSv.row 1 rfl rfl (by first | decide | simp) (by intro p _ hp; simp at hp; subst hp; exact d0) hbv (shut_no hsh hbv _ (by kernel_rfl)) (hSv.noq rfl) hrb G1 (fun x hx => p0.ge x hx) (by intro p _ hp; simp at hp; subst hp; exact fun x hx => hx) (by simp) (by simpa using O1) (Or.inl U1)))); (try simp only [Act.put, List.setIfInBounds_toArray, List.set_cons_zero, List.set_cons_succ, Nat.reduceAdd, Nat.zero_add])
            (iterate 8 (apply SeqV.cons; (focus (intro Vv bv wv hbv hdv hsh hSv; have t0 := hSv.t0 (shut_no hsh hbv 19 (by kernel_rfl)); apply blk_use t0; intro hg21 hc21 hz21 _ _ _ _ _; clear hsh hdv; go_wp2_with fail; exact StepPost.mk rfl (hSv.plain (by first | decide | simp) hrb (by repeat' (first | (with_reducible exact Fr.refl _ _) | (with_reducible assumption) | (with_reducible refine Fr.drew ?_) | (with_reducible refine Fr.drewN ?_ _) | (with_reducible refine Fr.alloc ?_ _) | ((with_reducible refine Fr.setNew ?_ _ ?_ _); rotate_left; (focus (first | (with_reducible assumption) | exact Nat.le_of_lt (by with_reducible assumption) | (focus (simp +arith; done)) | exact Nat.le_trans (by with_reducible assumption) (by simp +arith; done) | (simp; done)))) | ((with_reducible refine Fr.setOld ?_ _ ?_ _); rotate_left; (focus (simp; done)))))))); (try simp only [Act.put, List.setIfInBounds_toArray, List.set_cons_zero, List.set_cons_succ, Nat.reduceAdd, Nat.zero_add])))
            apply SeqV.var; (focus (intro Vv bv wv hbv hdv hsh hSv; go_wp2_with fail; exact StepV.mk _ rfl (hSv.lit (l := [⟨s.la + 1, f, f, 1, 0, 0⟩]) rfl (by first | decide | simp) (by simp) hrb (by repeat' (first | (with_reducible exact Fr.refl _ _) | (with_reducible assumption) | (with_reducible refine Fr.drew ?_) | (with_reducible refine Fr.drewN ?_ _) | (with_reducible refine Fr.alloc ?_ _) | ((with_reducible refine Fr.setNew ?_ _ ?_ _); rotate_left; (focus (first | (with_reducible assumption) | exact Nat.le_of_lt (by with_reducible assumption) | (focus (simp +arith; done)) | exact Nat.le_trans (by with_reducible assumption) (by simp +arith; done) | (simp; done)))) | ((with_reducible refine Fr.setOld ?_ _ ?_ _); rotate_left; (focus (simp; done))))) ((El.Own.lit (base := 0) ([⟨s.la + 1, f, f, 1, 0, 0⟩]) (by (apply heap_eq_of; (focus (repeat (first | (with_reducible assumption) | ((with_reducible refine heap_alloc_at ?_ _); first | (with_reducible rfl) | (focus (simp; done))) | (with_reducible apply heap_alloc_old) | ((with_reducible apply heap_set_other); (case hne => (first | (with_reducible assumption) | exact Nat.ne_of_lt (by with_reducible assumption) | exact Nat.ne_of_gt (by with_reducible assumption) | (focus (simp +arith; done)) | (simp; done)))) | (with_reducible apply heap_set_eq) | (with_reducible apply heap_drew_of) | (with_reducible apply heap_drewN_of)))); (focus (first | (simp; done) | rfl)))) (by omega) rfl eSok (by simp [maxLen]) 1 rfl).sl (by simp)) (by simp [Value.ownBlock])))); (try simp only [Act.put, List.setIfInBounds_toArray, List.set_cons_zero, List.set_cons_succ, Nat.reduceAdd, Nat.zero_add])
            apply SeqV.var; (focus (intro Vv bv wv hbv hdv hsh hSv; have d0 := hdv { on := 6, ground := .data } (by simp) rfl; have p0 := hSv.at (2 - 1) rfl rfl rfl d0 hbv; go_wp2_with (at_builtin; refine wpList_appG eSok _ rfl (.tmp 181) (.tmp 190) rfl rfl _ _ _ rfl p0 _ _ rfl ((hSv.rd (15, [⟨s.la + 1, f, f, 1, 0, 0⟩]) (by simp) (hdv { on := 15, ground := .data } (by simp) rfl)).2) (by simp; omega) hSv.fr.le ?_; intro v1 wq O1 G1 U1); exact StepV.mk v1 rfl (hSv.row 2 rfl rfl (by first | decide | simp) (by intro p _ hp; simp at hp; subst hp; exact d0) hbv (shut_no hsh hbv _ (by kernel_rfl)) (hSv.noq rfl) hrb G1 (fun x hx => p0.ge x hx) (by intro p _ hp; simp at hp; subst hp; exact fun x hx => hx) (by simp) (by simpa using O1) (Or.inl U1)))); (try simp only [Act.put, List.setIfInBounds_toArray, List.set_cons_zero, List.set_cons_succ, Nat.reduceAdd, Nat.zero_add])
            (iterate 2 (apply SeqV.cons; (focus (intro Vv bv wv hbv hdv hsh hSv; skip; clear hsh hdv; go_wp2_with fail; exact StepPost.mk rfl (hSv.plain (by first | decide | simp) hrb (by repeat' (first | (with_reducible exact Fr.refl _ _) | (with_reducible assumption) | (with_reducible refine Fr.drew ?_) | (with_reducible refine Fr.drewN ?_ _) | (with_reducible refine Fr.alloc ?_ _) | ((with_reducible refine Fr.setNew ?_ _ ?_ _); rotate_left; (focus (first | (with_reducible assumption) | exact Nat.le_of_lt (by with_reducible assumption) | (focus (simp +arith; done)) | exact Nat.le_trans (by with_reducible assumption) (by simp +arith; done) | (simp; done)))) | ((with_reducible refine Fr.setOld ?_ _ ?_ _); rotate_left; (focus (simp; done)))))))); (try simp only [Act.put, List.setIfInBounds_toArray, List.set_cons_zero, List.set_cons_succ, Nat.reduceAdd, Nat.zero_add])))
            apply SeqV.cons (v := undef); (focus (intro Vv bv wv hbv hdv hsh hSv; have t0 := hSv.t0 hbv; have d0 := hdv { on := 16, ground := .data } (by simp) rfl; obtain ⟨sA, sc, hsv⟩ := hSv.shape (p := 16) rfl rfl d0; apply blk_use t0; intro hg21 hc21 hz21 _ _ _ _ _; go_wp2_with fail; exact StepPost.mk rfl (hSv.storeL (by first | decide | simp) (by simp) hrb (Nat.le_refl _) (p := 16) rfl d0 (S := [r]) (by repeat' (first | (with_reducible exact Fr.refl _ _) | (with_reducible assumption) | (with_reducible refine Fr.drew ?_) | (with_reducible refine Fr.drewN ?_ _) | (with_reducible refine Fr.alloc ?_ _) | ((with_reducible refine Fr.setNew ?_ _ ?_ _); rotate_left; (focus (first | (with_reducible assumption) | exact Nat.le_of_lt (by with_reducible assumption) | (focus (simp +arith; done)) | exact Nat.le_trans (by with_reducible assumption) (by simp +arith; done) | (simp; done)))) | ((with_reducible refine Fr.setOld ?_ _ ?_ _); rotate_left; (focus (simp; done))))) (by simp) (by rw [hsv]; (apply heap_eq_of; (focus (repeat (first | (with_reducible assumption) | ((with_reducible refine heap_alloc_at ?_ _); first | (with_reducible rfl) | (focus (simp; done))) | (with_reducible apply heap_alloc_old) | ((with_reducible apply heap_set_other); (case hne => (first | (with_reducible assumption) | exact Nat.ne_of_lt (by with_reducible assumption) | exact Nat.ne_of_gt (by with_reducible assumption) | (focus (simp +arith; done)) | (simp; done)))) | (with_reducible apply heap_set_eq) | (with_reducible apply heap_drew_of) | (with_reducible apply heap_drewN_of)))); (focus (first | (simp; done) | rfl))))))); (try simp only [Act.put, List.setIfInBounds_toArray, List.set_cons_zero, List.set_cons_succ, Nat.reduceAdd, Nat.zero_add])
            refine SeqV.nil ?_
            intro Vv bv w9 hb9 hSv
            have O9 := hSv.last (p := 16) rfl rfl (hb9 16 (by decide))
            have R9 := (hSv.t1 (hb9 19 (by decide)) 16 rfl).2
            have F9 := hSv.fr.after (Fr.refl [r] w7) (Nat.le_refl _) (by simp)
            clear hSv hb9
            generalize Vv 16 = v9 at *
            have hlt7 := T7.out.lt
            have hge := O9.ge
            have T9 : Hid (RTrk w9 (q :: M) r rt base P v9 ⟨X1 ++ [⟨s.la + 1, f, f, 1, 0, 0⟩], s.us + 1, s.la + 1, L2, E2⟩) := T7.out.put F9 (by simp) R9 (O9.mono hlt7.2.2.2) (fun y hy => Or.inr (hge y hy))
            have Q9 := Lib.hid (F9.heap Q7.out (by simpa using (T7.out.ap q (by simp)).1))
            have F10 := Lib.hid (F7.out.trans (F9.mono (by simp)))
            have U9 : Hid (∀ y ∈ v9.ownBlock.toList, y ∈ (Value.slice A0 s.xs.length c0).ownBlock.toList ∨ w.heap.size ≤ y) := fun y hy => Or.inr (Nat.le_trans F7.out.size (hge y hy))
            obtain ⟨A2, c8, hv9⟩ := O9.shape
            simp only [List.length_append, List.length_cons, List.length_nil, Nat.zero_add] at hv9
            subst hv9
            clear O9 F9 T7 F7 Q7 U7 SL hge
            apply blk_use R9; intro hg9 hc9 hz9 _ _ _ _ _
            go_wp2_with fail
            go_meet
            exact ⟨_, ⟨X1 ++ [⟨s.la + 1, f, f, 1, 0, 0⟩], s.us + 1, s.la + 1, L2, E2⟩, X1.length, ⟨s.la + 1, f, f, 1, 0, 0⟩, rfl, by simp, new_may (f := f) HP.out c3 (by omega), rfl, rfl, by simp; omega, HR.out, T9.out, U9.out, Q9.out, F10.out⟩
        ·
          --@wno
          obtain ⟨⟨L2, E2⟩, hE⟩ : ∃ r, lookE P.size P.life f c (s.L, s.E) = r := ⟨_, rfl⟩
          rw [hE] at hR
          have HR := Lib.hid hR
          have HC := Lib.hid (fun M' w' (h : RTap M' w' rt P.size P.life (s.E.map (ag s.L))) => rt_look2 (M := M') (w := w') (rt := rt) f c hE hB (by have := HS.out.cl; omega) hs1.1 hs1.2 HS.out.tap c1 c2 c3 (by omega) h)
          have HX3 := T3.out.hr
          clear hR hE hB hHP hs1
          apply blk_use HX3; intro hg3 hc3 hz3 _ _ _ _ _
          go_wp2_with fail
          with_reducible refine (HC.out _ _ T3.out.tp).mono ?_
          rintro e w4 ⟨rfl, P4, f4⟩
          have T4 := Lib.hid (T3.out.look f4 P4)
          have hqn : q ≠ rt := (T3.out.ap q (by simp)).2.1
          have Q4 := f4.heap Q3 (by simpa using hqn)
          have F4 : Fr (rN r rt (Value.slice A0 s.xs.length c0)) w w4 := (F3.mono (by simp)).trans (f4.mono (by simp))
          clear hg3 hc3 hz3 HX3 P4 f4 hqn T3 Q3 F3
          apply blk_use Q4; intro hg4 hc4 hz4 _ _ _ _ _
          go_wp2_with fail
          refine bodyPost_ret (v := .tuple #[.agg #[.int .i64 0, .int .i64 0, .int .i64 0], .int .i64 0]) (by simp [results, Try.results18, go_sem, *]) rfl ?_
          rw [HR.out]
          have F5 : Fr [q] w4 (((w4.setCell ⟨q, 0, none⟩ (.int .i64 0)).setCell ⟨q, 1, none⟩ (.int .i64 0)).setCell ⟨q, 2, none⟩ (.int .i64 0)) := (by repeat' (first | (with_reducible exact Fr.refl _ _) | (with_reducible assumption) | (with_reducible refine Fr.drew ?_) | (with_reducible refine Fr.drewN ?_ _) | (with_reducible refine Fr.alloc ?_ _) | ((with_reducible refine Fr.setNew ?_ _ ?_ _); rotate_left; (focus (first | (with_reducible assumption) | exact Nat.le_of_lt (by with_reducible assumption) | (focus (simp +arith; done)) | exact Nat.le_trans (by with_reducible assumption) (by simp +arith; done) | (simp; done)))) | ((with_reducible refine Fr.setOld ?_ _ ?_ _); rotate_left; (focus (simp; done)))))
          exact ⟨rfl, ⟨_, (T4.out.turn (M' := q :: M) F5 (by simp) (fun x hx => Or.inl hx) (fun x hx => Nat.lt_of_lt_of_le (T4.out.ml x hx) F5.size)).drop (fun x hx => by simp [hx])⟩, F4.trans' F5 (by intro x hx; simp at hx; subst hx; exact Or.inr (Nat.le_of_eq HQ.out.symm))⟩
      case rest =>
        --@read
        clear hg1 hc1 hz1 HX3 T3 Q3 F3
        obtain ⟨v1, ⟨ys, us2, la2, L2, E2⟩, i, X, rfl, hX, hXm, hXn, hus, hyl, hR, T1, U1, Q1, F1⟩ := hcut
        simp only at hX hus hyl hR
        subst hus
        have HR := Lib.hid hR
        clear hR
        have hil : i < ys.length := (List.getElem?_eq_some_iff.1 hX).1
        have HT := Lib.hid T1
        have HX1 : wc.heap[r]? = some (.cells #[v1, .pointer (some ⟨rt, 0, none⟩), .int .i64 (s.us + 1), .int .i64 la2, .int .i64 P.most, .int .i64 P.deg, .int .i64 P.blk] 48) := T1.hr
        have HU1 := Lib.hid U1
        have HRD := Lib.hid (fun w => rread_ok X.nx X.ah X.pp X.gg c P.deg P.blk hXm (by rw [withinB_iff]; omega) (by omega) w)
        obtain ⟨_, ⟨_, hz0⟩ | ⟨g, cap, cur, hsl, hg, hbk, hc, hmx, hz, ht9⟩⟩ := T1.ow
        · exfalso; simp only at hz0; omega
        subst hsl
        have hbk' : wc.heap[g]? = some (.cells cur 59 (0, 0)) := hbk
        have ht' : cur.toList.take (ys.length * 6) = eS.cs ys := ht9
        have hz' : cur.size = cap * 6 := hz
        have hcell : ∀ j u, j < 6 → (eS.f X)[j]? = some u → cur[i * 6 + j]? = some u := by
          intro j u hj hu
          have h1 := eSok.cs_get ys i j X hX hj
          have h1' : (eS.cs ys)[i * 6 + j]? = (eS.f X)[j]? := h1
          rw [← ht', List.getElem?_take, if_pos (by omega), Array.getElem?_toList] at h1'
          rw [h1', hu]
        have k0 := hcell 0 _ (by decide) rfl
        have k1 := hcell 1 _ (by decide) rfl
        have k2 := hcell 2 _ (by decide) rfl
        have k3 := hcell 3 _ (by decide) rfl
        have k4 := hcell 4 _ (by decide) rfl
        have k5 := hcell 5 _ (by decide) rfl
        have HCELL := Lib.hid hcell
        have hgt : g ≠ r := by have := T1.lt; have hg' : base ≤ g := hg; omega
        have hqr : q ≠ r := (T1.ap q (by simp)).1
        have hqg : q ≠ g := fun e => (T1.ap q (by simp)).2.2 (by simp [Value.ownBlock, e])
        have hil' : (i : Int) < (ys.length : Int) := by omega
        have hcap : ys.length ≤ cap := hc
        have HD := Lib.hid (And.intro ht' (And.intro hz' (And.intro hg (And.intro hc hmx))))
        have HQ1 := Lib.hid Q1
        have HF1 := Lib.hid F1
        have hAL : Hid ((∀ x ∈ [g], x = r ∨ x ∈ (Value.slice (some ⟨g, 0, none⟩) ys.length cap).ownBlock.toList)) := by unfold Hid; simp [Value.ownBlock]
        clear T1 U1 Q1 F1 hbk ht9 hz ht' hz' hg hc hmx hcell hX hXn hXm
        have HRR : Hid (∀ w1 w2 S, (∀ x ∈ S, wc.heap.size ≤ x) → Fr [] wc w1 → Fr S w1 w2 → Fr [] wc w2) := fun w1 w2 S hS h f => h.trans' f (fun x hx => Or.inr (hS x hx))
        apply blk_use HX1; intro hg5 hc5 hz5 _ _ _ _ _
        go_wp2_with fail
        clear hg5 hc5 hz5
        obtain ⟨n1, hn1⟩ : ∃ n1, n1 = X.nx + c := ⟨_, rfl⟩
        obtain ⟨n2, hn2⟩ : ∃ n2, n2 = arA X.nx X.ah c + arC X.nx X.ah X.pp X.gg c P.deg P.blk := ⟨_, rfl⟩
        obtain ⟨n3, hn3⟩ : ∃ n3, n3 = arP X.nx X.ah X.pp c P.deg := ⟨_, rfl⟩
        obtain ⟨n4, hn4⟩ : ∃ n4, n4 = arF X.nx X.ah X.gg c P.blk := ⟨_, rfl⟩
        obtain ⟨n5, hn5⟩ : ∃ n5, n5 = arC X.nx X.ah X.pp X.gg c P.deg P.blk := ⟨_, rfl⟩
        have HR2 : Hid (R = ⟨X.id, n4, n5, 0, ⟨ys.set i ⟨X.id, n1, n2, n3, X.gg, s.us + 1⟩, s.us + 1, la2, L2, E2⟩⟩) := by unfold Hid; rw [HR.out, hn4, hn5, hn1, hn2, hn3]; rfl
        rw [← hn1, ← hn2, ← hn3, ← hn4, ← hn5] at HRD
        clear hn1 hn2 hn3 hn4 hn5 HR HW
        refine wp_region_seqM_lit (CutS wc.heap.size (fun w1 => Fr [] wc w1) 22 24 23 25 57 36 #[.int .i64 0, .int .i64 0, .int .i64 0, .int .i64 0] #[.int .i64 n1, .int .i64 n2, .int .i64 n3, .int .i64 X.gg] #[.int .i64 0, .int .i64 0] #[.int .i64 n4, .int .i64 n5])
          (fun k => if k = 22 then .cells #[.int .i64 0, .int .i64 0, .int .i64 0, .int .i64 0] 57 else .cells #[.int .i64 0, .int .i64 0] 36) fol (by kernel_rfl) (fun β β' b w hβ h => h.cong hβ)
          ⟨(Fr.refl _ _).drew, fun h => (by cases h), fun h => (by cases h), fun h => (by cases h), Nat.le_refl _, fun h => (by cases h), fun h => (by cases h)⟩ ?_
        (iterate 24 (first | (refine SeqM.alloc rfl (fun a w => by go_wp2 <;> exact ⟨rfl, rfl, rfl⟩) ?_ ?_; (focus (intro βv bv wv hbv hdv hSv; first | exact hSv.allocx HRR.out (by decide) hbv | exact hSv.allocy HRR.out (by decide) hbv)); (try simp only [Act.put, List.setIfInBounds_toArray, List.set_cons_zero, List.set_cons_succ, Nat.reduceAdd, Nat.zero_add])) | (apply SeqM.cons rfl; (focus (intro βv bv wv hbv hdv hSv; have v0 := hSv.r; have x1 := v0.heap HX1 (by simp); apply blk_use x1; intro hg21 hc21 hz21 _ _ _ _ _; have x2 := v0.heap hbk' (by simp); apply blk_use x2; intro hg22 hc22 hz22 _ _ _ _ _; go_wp2_with (go_at_call 54; (with_reducible refine (HRD.out _).mono ?_); rintro e w6 ⟨rfl, f6⟩); exact StepPost.mk rfl (hSv.plain HRR.out (by decide) (by first | (with_reducible exact Fr.refl _ _) | assumption)))); (try simp only [Act.put, List.setIfInBounds_toArray, List.set_cons_zero, List.set_cons_succ, Nat.reduceAdd, Nat.zero_add]))))
        (apply SeqM.cons (v := undef) rfl; (focus (intro βv bv wv hbv hdv hSv; have hk0 : bv 22 = true := hdv { on := 22, ground := .data } (by simp) rfl; have hs0 : bv 24 = false := hbv; obtain ⟨v1, v2⟩ := hSv.x hk0; rw [hs0] at v2; simp only [cond_false] at v2; apply blk_use v2; intro hg21 hc21 hz21 _ _ _ _ _; go_wp2; refine StepPost.mk rfl (hSv.storex HRR.out (by decide) hk0 ?_ ?_); (focus (apply heap_eq_of; (focus (repeat (first | (with_reducible assumption) | ((with_reducible refine heap_alloc_at ?_ _); first | (with_reducible rfl) | (focus (simp; done))) | (with_reducible apply heap_alloc_old) | ((with_reducible apply heap_set_other); (case hne => (first | (with_reducible assumption) | exact Nat.ne_of_lt (by with_reducible assumption) | exact Nat.ne_of_gt (by with_reducible assumption) | (focus (simp +arith; done)) | (simp; done)))) | (with_reducible apply heap_set_eq) | (with_reducible apply heap_drew_of) | (with_reducible apply heap_drewN_of)))); (focus (first | (simp; done) | rfl)))); (focus (exact (by repeat' (first | (with_reducible exact Fr.refl _ _) | (with_reducible assumption) | (with_reducible refine Fr.drew ?_) | (with_reducible refine Fr.drewN ?_ _) | (with_reducible refine Fr.alloc ?_ _) | ((with_reducible refine Fr.setNew ?_ _ ?_ _); rotate_left; (focus (first | (with_reducible assumption) | exact Nat.le_of_lt (by with_reducible assumption) | (focus (simp +arith; done)) | exact Nat.le_trans (by with_reducible assumption) (by simp +arith; done) | (simp; done)))) | ((with_reducible refine Fr.setOld ?_ _ ?_ _); rotate_left; (focus (simp; done))))))))); (try simp only [Act.put, List.setIfInBounds_toArray, List.set_cons_zero, List.set_cons_succ, Nat.reduceAdd, Nat.zero_add]))
        (apply SeqM.cons (v := undef) rfl; (focus (intro βv bv wv hbv hdv hSv; have hk0 : bv 23 = true := hdv { on := 23, ground := .data } (by simp) rfl; have hs0 : bv 25 = false := hbv; obtain ⟨v1, v2⟩ := hSv.y hk0; rw [hs0] at v2; simp only [cond_false] at v2; apply blk_use v2; intro hg21 hc21 hz21 _ _ _ _ _; go_wp2; refine StepPost.mk rfl (hSv.storey HRR.out (by decide) hk0 ?_ ?_); (focus (apply heap_eq_of; (focus (repeat (first | (with_reducible assumption) | ((with_reducible refine heap_alloc_at ?_ _); first | (with_reducible rfl) | (focus (simp; done))) | (with_reducible apply heap_alloc_old) | ((with_reducible apply heap_set_other); (case hne => (first | (with_reducible assumption) | exact Nat.ne_of_lt (by with_reducible assumption) | exact Nat.ne_of_gt (by with_reducible assumption) | (focus (simp +arith; done)) | (simp; done)))) | (with_reducible apply heap_set_eq) | (with_reducible apply heap_drew_of) | (with_reducible apply heap_drewN_of)))); (focus (first | (simp; done) | rfl)))); (focus (exact (by repeat' (first | (with_reducible exact Fr.refl _ _) | (with_reducible assumption) | (with_reducible refine Fr.drew ?_) | (with_reducible refine Fr.drewN ?_ _) | (with_reducible refine Fr.alloc ?_ _) | ((with_reducible refine Fr.setNew ?_ _ ?_ _); rotate_left; (focus (first | (with_reducible assumption) | exact Nat.le_of_lt (by with_reducible assumption) | (focus (simp +arith; done)) | exact Nat.le_trans (by with_reducible assumption) (by simp +arith; done) | (simp; done)))) | ((with_reducible refine Fr.setOld ?_ _ ?_ _); rotate_left; (focus (simp; done))))))))); (try simp only [Act.put, List.setIfInBounds_toArray, List.set_cons_zero, List.set_cons_succ, Nat.reduceAdd, Nat.zero_add]))
        (iterate 1 (first | (refine SeqM.alloc rfl (fun a w => by go_wp2 <;> exact ⟨rfl, rfl, rfl⟩) ?_ ?_; (focus (intro βv bv wv hbv hdv hSv; first | exact hSv.allocx HRR.out (by decide) hbv | exact hSv.allocy HRR.out (by decide) hbv)); (try simp only [Act.put, List.setIfInBounds_toArray, List.set_cons_zero, List.set_cons_succ, Nat.reduceAdd, Nat.zero_add])) | (apply SeqM.cons rfl; (focus (intro βv bv wv hbv hdv hSv; skip; go_wp2_with (fail); exact StepPost.mk rfl (hSv.plain HRR.out (by decide) (by first | (with_reducible exact Fr.refl _ _) | assumption)))); (try simp only [Act.put, List.setIfInBounds_toArray, List.set_cons_zero, List.set_cons_succ, Nat.reduceAdd, Nat.zero_add]))))
        refine SeqM.nil ?_
        intro β bq w7 hbq hS7
        obtain ⟨F7, hx7, hy7, hxy, _, _, _⟩ := hS7
        obtain ⟨hx1, hx2⟩ := hx7 (hbq 22 (by decide))
        obtain ⟨hy1, hy2⟩ := hy7 (hbq 23 (by decide))
        have hne7 := hxy (hbq 22 (by decide)) (hbq 23 (by decide))
        rw [hbq 24 (by decide), cond_true] at hx2
        rw [hbq 25 (by decide), cond_true] at hy2
        dsimp only
        generalize β 22 = p1 at *
        generalize β 23 = p2 at *
        have HX7 := F7.heap HX1 (by simp)
        have B7 := F7.heap hbk' (by simp)
        have Q7 := F7.heap HQ1.out (by simp)
        clear hx7 hy7 hxy hbq
        have l1 := lt_of_heap HX1
        have l2 := lt_of_heap hbk'
        have l3 := lt_of_heap HQ1.out
        have d1 : p1 ≠ g := by omega
        have d2 : p2 ≠ g := by omega
        have d3 : p1 ≠ r := by omega
        have d4 : p2 ≠ r := by omega
        have d5 : q ≠ p1 := by omega
        have d6 : q ≠ p2 := by omega
        apply blk_use HX7; intro hg1 hc1 hz1 _ _ _ _ _
        apply blk_use B7; intro hg2 hc2 hz2 _ _ _ _ _
        apply blk_use hx2; intro hg3 hc3 hz3 _ _ _ _ _
        go_wp2_with fail
        go_region
        have F8 : Fr [g] wc (((((w7.setCell ⟨g, i * 6 + 1, none⟩ (.int .i64 n1)).setCell ⟨g, i * 6 + 1 + 1, none⟩ (.int .i64 n2)).setCell ⟨g, i * 6 + 1 + 2, none⟩ (.int .i64 n3)).setCell ⟨g, i * 6 + 1 + 3, none⟩ (.int .i64 X.gg)).drew) := (F7.mono (by simp)).trans (by repeat' (first | (with_reducible exact Fr.refl _ _) | (with_reducible assumption) | (with_reducible refine Fr.drew ?_) | (with_reducible refine Fr.drewN ?_ _) | (with_reducible refine Fr.alloc ?_ _) | ((with_reducible refine Fr.setNew ?_ _ ?_ _); rotate_left; (focus (first | (with_reducible assumption) | exact Nat.le_of_lt (by with_reducible assumption) | (focus (simp +arith; done)) | exact Nat.le_trans (by with_reducible assumption) (by simp +arith; done) | (simp; done)))) | ((with_reducible refine Fr.setOld ?_ _ ?_ _); rotate_left; (focus (simp; done)))))
        have B8 : (((((w7.setCell ⟨g, i * 6 + 1, none⟩ (.int .i64 n1)).setCell ⟨g, i * 6 + 1 + 1, none⟩ (.int .i64 n2)).setCell ⟨g, i * 6 + 1 + 2, none⟩ (.int .i64 n3)).setCell ⟨g, i * 6 + 1 + 3, none⟩ (.int .i64 X.gg)).drew).heap[g]? = some (.cells (((((cur.setIfInBounds (i * 6 + 1) (.int .i64 n1)).setIfInBounds (i * 6 + 1 + 1) (.int .i64 n2)).setIfInBounds (i * 6 + 1 + 2) (.int .i64 n3)).setIfInBounds (i * 6 + 1 + 3) (.int .i64 X.gg))) 59) := by (apply heap_eq_of; (focus (repeat (first | (with_reducible assumption) | ((with_reducible refine heap_alloc_at ?_ _); first | (with_reducible rfl) | (focus (simp; done))) | (with_reducible apply heap_alloc_old) | ((with_reducible apply heap_set_other); (case hne => (first | (with_reducible assumption) | exact Nat.ne_of_lt (by with_reducible assumption) | exact Nat.ne_of_gt (by with_reducible assumption) | (focus (simp +arith; done)) | (simp; done)))) | (with_reducible apply heap_set_eq) | (with_reducible apply heap_drew_of) | (with_reducible apply heap_drewN_of)))); (focus (first | (simp; done) | rfl)))
        have HX8 := F8.heap HX1 (by simpa using Ne.symm hgt)
        have Q8 := F8.heap HQ1.out (by simpa using hqg)
        have P8 : (((((w7.setCell ⟨g, i * 6 + 1, none⟩ (.int .i64 n1)).setCell ⟨g, i * 6 + 1 + 1, none⟩ (.int .i64 n2)).setCell ⟨g, i * 6 + 1 + 2, none⟩ (.int .i64 n3)).setCell ⟨g, i * 6 + 1 + 3, none⟩ (.int .i64 X.gg)).drew).heap[p2]? = some (.cells #[.int .i64 n4, .int .i64 n5] 36) := by (apply heap_eq_of; (focus (repeat (first | (with_reducible assumption) | ((with_reducible refine heap_alloc_at ?_ _); first | (with_reducible rfl) | (focus (simp; done))) | (with_reducible apply heap_alloc_old) | ((with_reducible apply heap_set_other); (case hne => (first | (with_reducible assumption) | exact Nat.ne_of_lt (by with_reducible assumption) | exact Nat.ne_of_gt (by with_reducible assumption) | (focus (simp +arith; done)) | (simp; done)))) | (with_reducible apply heap_set_eq) | (with_reducible apply heap_drew_of) | (with_reducible apply heap_drewN_of)))); (focus (first | (simp; done) | rfl)))
        generalize ((((w7.setCell ⟨g, i * 6 + 1, none⟩ (.int .i64 n1)).setCell ⟨g, i * 6 + 1 + 1, none⟩ (.int .i64 n2)).setCell ⟨g, i * 6 + 1 + 2, none⟩ (.int .i64 n3)).setCell ⟨g, i * 6 + 1 + 3, none⟩ (.int .i64 X.gg)).drew = w8 at *
        clear hg1 hc1 hz1 hg2 hc2 hz2 hg3 hc3 hz3 F7 HX7 B7 Q7 hx2 hy2 k0 k1 k2 k3 k4 k5 hbk'
        obtain ⟨cur8, hcur8⟩ : ∃ c8, c8 = ((((cur.setIfInBounds (i * 6 + 1) (.int .i64 n1)).setIfInBounds (i * 6 + 1 + 1) (.int .i64 n2)).setIfInBounds (i * 6 + 1 + 2) (.int .i64 n3)).setIfInBounds (i * 6 + 1 + 3) (.int .i64 X.gg)) := ⟨_, rfl⟩
        rw [← hcur8] at B8
        have hz8 : cur8.size = cur.size := by rw [hcur8]; simp
        have HC8 := Lib.hid hcur8
        obtain ⟨e1, e2, e3, e4, e5⟩ := HD.out
        have hsz : i * 6 + 5 < cur8.size := by omega
        have k0 : cur8[i * 6]? = some (.int .i64 X.id) := by
          rw [hcur8]
          simp only [Array.getElem?_setIfInBounds, Array.size_setIfInBounds]
          (repeat (first | rw [if_neg (by omega)]))
          exact HCELL.out 0 _ (by decide) rfl
        clear hcur8 hz8 e1 e2 e4 e5
        apply blk_use HX8; intro hg1 hc1 hz1 _ _ _ _ _
        apply blk_use B8; intro hg2 hc2 hz2 _ _ _ _ _
        go_wp2_with fail
        go_region
        have F9 : Fr [g] wc ((w8.setCell ⟨g, i * 6 + 5, none⟩ (.int .i64 (s.us + 1))).drew) := F8.trans (by repeat' (first | (with_reducible exact Fr.refl _ _) | (with_reducible assumption) | (with_reducible refine Fr.drew ?_) | (with_reducible refine Fr.drewN ?_ _) | (with_reducible refine Fr.alloc ?_ _) | ((with_reducible refine Fr.setNew ?_ _ ?_ _); rotate_left; (focus (first | (with_reducible assumption) | exact Nat.le_of_lt (by with_reducible assumption) | (focus (simp +arith; done)) | exact Nat.le_trans (by with_reducible assumption) (by simp +arith; done) | (simp; done)))) | ((with_reducible refine Fr.setOld ?_ _ ?_ _); rotate_left; (focus (simp; done)))))
        have B9 : ((w8.setCell ⟨g, i * 6 + 5, none⟩ (.int .i64 (s.us + 1))).drew).heap[g]? = some (.cells (cur8.setIfInBounds (i * 6 + 5) (.int .i64 (s.us + 1))) 59) := by (apply heap_eq_of; (focus (repeat (first | (with_reducible assumption) | ((with_reducible refine heap_alloc_at ?_ _); first | (with_reducible rfl) | (focus (simp; done))) | (with_reducible apply heap_alloc_old) | ((with_reducible apply heap_set_other); (case hne => (first | (with_reducible assumption) | exact Nat.ne_of_lt (by with_reducible assumption) | exact Nat.ne_of_gt (by with_reducible assumption) | (focus (simp +arith; done)) | (simp; done)))) | (with_reducible apply heap_set_eq) | (with_reducible apply heap_drew_of) | (with_reducible apply heap_drewN_of)))); (focus (first | (simp; done) | rfl)))
        have HX9 := F9.heap HX1 (by simpa using Ne.symm hgt)
        have Q9 := F9.heap HQ1.out (by simpa using hqg)
        have P9 : ((w8.setCell ⟨g, i * 6 + 5, none⟩ (.int .i64 (s.us + 1))).drew).heap[p2]? = some (.cells #[.int .i64 n4, .int .i64 n5] 36) := by (apply heap_eq_of; (focus (repeat (first | (with_reducible assumption) | ((with_reducible refine heap_alloc_at ?_ _); first | (with_reducible rfl) | (focus (simp; done))) | (with_reducible apply heap_alloc_old) | ((with_reducible apply heap_set_other); (case hne => (first | (with_reducible assumption) | exact Nat.ne_of_lt (by with_reducible assumption) | exact Nat.ne_of_gt (by with_reducible assumption) | (focus (simp +arith; done)) | (simp; done)))) | (with_reducible apply heap_set_eq) | (with_reducible apply heap_drew_of) | (with_reducible apply heap_drewN_of)))); (focus (first | (simp; done) | rfl)))
        generalize (w8.setCell ⟨g, i * 6 + 5, none⟩ (.int .i64 (s.us + 1))).drew = w9 at *
        have k9 : (cur8.setIfInBounds (i * 6 + 5) (.int .i64 (s.us + 1)))[i * 6]? = some (.int .i64 X.id) := by
          simp only [Array.getElem?_setIfInBounds]
          rw [if_neg (by omega)]; exact k0
        obtain ⟨cur9, hcur9⟩ : ∃ c9, c9 = cur8.setIfInBounds (i * 6 + 5) (.int .i64 (s.us + 1)) := ⟨_, rfl⟩
        rw [← hcur9] at B9 k9
        have HC9 := Lib.hid hcur9
        have HF9 := Lib.hid F9
        clear hg1 hc1 hz1 hg2 hc2 hz2 F8 HX8 B8 Q8 P8 k0 hcur9 hsz F9
        apply blk_use HX9; intro hg1 hc1 hz1 _ _ _ _ _
        apply blk_use B9; intro hg2 hc2 hz2 _ _ _ _ _
        apply blk_use Q9; intro hg3 hc3 hz3 _ _ _ _ _
        apply blk_use P9; intro hg4 hc4 hz4 _ _ _ _ _
        go_wp2_with fail
        go_region
        go_wp2_with fail
        refine bodyPost_ret (v := .tuple #[.agg #[.int .i64 X.id, .int .i64 n4, .int .i64 n5], .int .i64 0]) (by simp [results, Try.results18, go_sem, *]) rfl ?_
        rw [HR2.out]
        have O9 : eS.Own w9 base (.slice (some ⟨g, 0, none⟩) ys.length cap) (ys.set i ⟨X.id, n1, n2, n3, X.gg, s.us + 1⟩) := by
          obtain ⟨e1, e2, e3, e4, e5⟩ := HD.out
          have h8 := HC8.out
          have h9 := HC9.out
          have hsz : i * 6 + 5 < cur.size := by omega
          rw [h8] at h9
          rw [h9] at B9
          refine own_upd rfl e1 e2 e3 e4 e5 hil B9 (by simp) (fun j hj => ?_) (fun k hk => ?_)
          · simp only [Array.getElem?_setIfInBounds, Array.size_setIfInBounds]
            rcases (by omega : j = 0 ∨ j = 1 ∨ j = 2 ∨ j = 3 ∨ j = 4 ∨ j = 5) with rfl | rfl | rfl | rfl | rfl | rfl
            all_goals
              (repeat (first | rw [if_pos (by omega)] | rw [if_neg (by omega)]))
              first | rfl | (exact HCELL.out 0 _ (by decide) rfl)
          · simp only [Array.getElem?_setIfInBounds, Array.size_setIfInBounds]
            (repeat (first | rw [if_neg (by omega)]))
        have T9 := HT.out.put HF9.out hAL.out HX9 O9 (fun y hy => Or.inl hy)
        have F10 : Fr [q] w9 ((((w9.setCell ⟨q, 0, none⟩ (.int .i64 X.id)).setCell ⟨q, 1, none⟩ (.int .i64 n4)).setCell ⟨q, 2, none⟩ (.int .i64 n5)).drew) := (by repeat' (first | (with_reducible exact Fr.refl _ _) | (with_reducible assumption) | (with_reducible refine Fr.drew ?_) | (with_reducible refine Fr.drewN ?_ _) | (with_reducible refine Fr.alloc ?_ _) | ((with_reducible refine Fr.setNew ?_ _ ?_ _); rotate_left; (focus (first | (with_reducible assumption) | exact Nat.le_of_lt (by with_reducible assumption) | (focus (simp +arith; done)) | exact Nat.le_trans (by with_reducible assumption) (by simp +arith; done) | (simp; done)))) | ((with_reducible refine Fr.setOld ?_ _ ?_ _); rotate_left; (focus (simp; done)))))
        have hq := HQ.out
        exact ⟨rfl, ⟨_, (T9.turn (M' := q :: M) F10 (by simp) (fun x hx => Or.inl hx) (fun x hx => Nat.lt_of_lt_of_le (T9.ml x hx) F10.size)).drop (fun x hx => by simp [hx])⟩, (HF1.out.trans' HF9.out (by
          intro x hx; simp at hx; subst hx
          exact (HU1.out _ (by simp [Value.ownBlock])).imp (fun z => by simp [z]) id)).trans' F10 (by intro x hx; simp at hx; subst hx; exact Or.inr (by omega))⟩
end
end Go.Proofs.Ytoapobhdpgcmbaa
