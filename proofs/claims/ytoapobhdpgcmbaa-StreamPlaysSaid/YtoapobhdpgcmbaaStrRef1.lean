/- The reference of layer 10: its tracker in memory; May, New, Same, Tune. -/
import Derived.Test.YtoapobhdpgcmbaaStr11
import Derived.Test.YtoapobhdpgcmbaaStrEq
import Derived.Test.YtoapobhdpgcmbaaAmpRefRead
namespace Go.Proofs.Ytoapobhdpgcmbaa
open Go.RowKit Go.Lib

section
variable {w w' : World}
theorem RTap.turn {M M' S : List Nat} {r : Nat} {size life : Int} {xs : List (Int × Int)} (h : RTap M w r size life xs) (f : Fr S w w') (hS : ∀ x ∈ S, (x ∈ M ∨ w.heap.size ≤ x) ∧ x ≠ r) (hM : ∀ x ∈ M', x ∈ M ∨ w.heap.size ≤ x) (hl : ∀ x ∈ M', x < w'.heap.size) (hr : r ∈ M') : RTap M' w' r size life xs := by
  obtain ⟨h1, h2, v, h3, h4⟩ := h
  refine ⟨hr, hl, v, f.heap h3 (fun hx => (hS r hx).2 rfl), ?_⟩
  obtain ⟨A, cap, rfl, hc, h0 | ⟨b, off, rfl, hb, hMb, hcl⟩⟩ := h4
  · exact ⟨A, cap, rfl, hc, Or.inl h0⟩
  · refine ⟨_, cap, rfl, hc, Or.inr ⟨b, off, rfl, Nat.lt_of_lt_of_le hb f.size, fun hx => (hM b hx).elim hMb (fun q => by omega), fun j u hj => ?_⟩⟩
    have hbS : b ∉ S := fun hx => (hS b hx).1.elim hMb (fun h => by omega)
    rw [← hcl j u hj]; simp only [World.cell?, f.block b hb hbS]
/-- The reference's tracker at block r, its table at rt, its streams in the row v; M are blocks that are none of its. -/
structure RTrk (w : World) (M : List Nat) (r rt base : Nat) (P : Prm) (v : Value) (s : TS) : Prop where
  hr : w.heap[r]? = some (.cells #[v, .pointer (some ⟨rt, 0, none⟩), .int .i64 s.us, .int .i64 s.la, .int .i64 P.most, .int .i64 P.deg, .int .i64 P.blk] 48)
  ow : eS.Own w base v s.xs
  tp : RTap (rt :: r :: (v.ownBlock.toList ++ M)) w rt P.size P.life (s.E.map (ag s.L))
  lt : r < base ∧ rt < base ∧ r ≠ rt ∧ base ≤ w.heap.size
  ap : ∀ x ∈ M, x ≠ r ∧ x ≠ rt ∧ x ∉ v.ownBlock.toList
abbrev rN (r rt : Nat) (v : Value) : List Nat := r :: rt :: v.ownBlock.toList
variable {M M' S : List Nat} {r rt base : Nat} {P : Prm} {v : Value} {s : TS}
theorem RTrk.ml (h : RTrk w M r rt base P v s) : ∀ x ∈ M, x < w.heap.size := fun x hx => h.tp.2.1 x (by simp [hx])
theorem RTrk.nl (h : RTrk w M r rt base P v s) : ∀ x ∈ rN r rt v, x < w.heap.size := fun x hx => h.tp.2.1 x (by
  rcases List.mem_cons.1 hx with rfl | hx
  · simp
  rcases List.mem_cons.1 hx with rfl | hx <;> simp [*])
theorem RTrk.na (h : RTrk w M r rt base P v s) : ∀ x ∈ rN r rt v, x ∉ M := fun x hx hm => by
  obtain ⟨a, b, c⟩ := h.ap x hm
  rcases List.mem_cons.1 hx with e | hx
  · exact a e
  rcases List.mem_cons.1 hx with e | hx
  · exact b e
  · exact c hx
theorem RTrk.turn (h : RTrk w M r rt base P v s) (f : Fr S w w') (hS : ∀ x ∈ S, x ∈ M ∨ w.heap.size ≤ x) (hM : ∀ x ∈ M', x ∈ M ∨ w.heap.size ≤ x) (hl : ∀ x ∈ M', x < w'.heap.size) : RTrk w' M' r rt base P v s := by
  have hnS : ∀ x ∈ rN r rt v, x ∉ S := fun x hx hs => (hS x hs).elim (h.na x hx) (fun q => by have := h.nl x hx; omega)
  refine ⟨f.heap h.hr (hnS r (by simp)), own_apart h.ow f (fun x hx => hnS x (by simp [hx])), h.tp.turn f (fun x hx => ⟨(hS x hx).imp (fun q => by simp [q]) id, fun e => hnS rt (by simp) (e ▸ hx)⟩) (fun x hx => ?_) (fun x hx => ?_) (by simp), ⟨h.lt.1, h.lt.2.1, h.lt.2.2.1, Nat.le_trans h.lt.2.2.2 f.size⟩, fun x hx => ?_⟩
  · rcases List.mem_cons.1 hx with rfl | hx
    · simp
    rcases List.mem_cons.1 hx with rfl | hx
    · simp
    rcases List.mem_append.1 hx with hx | hx
    · simp [hx]
    · exact (hM x hx).imp (fun q => by simp [q]) id
  · have q := f.size
    rcases List.mem_cons.1 hx with rfl | hx
    · have := h.nl x (by simp); omega
    rcases List.mem_cons.1 hx with rfl | hx
    · have := h.nl x (by simp); omega
    rcases List.mem_append.1 hx with hx | hx
    · have := h.nl x (by simp [hx]); omega
    · exact hl x hx
  · rcases hM x hx with q | q
    · exact h.ap x q
    · refine ⟨fun e => by have := h.nl r (by simp); omega, fun e => by have := h.nl rt (by simp); omega, fun e => by have := h.nl x (by simp [e]); omega⟩
theorem RTrk.fr0 (h : RTrk w M r rt base P v s) (f : Fr [] w w') : RTrk w' M r rt base P v s := h.turn f (by simp) (fun x hx => Or.inl hx) (fun x hx => Nat.lt_of_lt_of_le (h.ml x hx) f.size)
set_option maxHeartbeats 1000000 in
theorem rs_may (st size life deg blk : Int) (w : World) : Calls Try.prog 15 #[.int .i64 st, .int .i64 size, .int .i64 life, .int .i64 deg, .int .i64 blk] w fun e w' => e = .returned (.bool (snewB st size life deg blk)) ∧ w = w' := by
  have HM := rt_may size life
  have HB : Hid (snewB st size life deg blk = (decide (1 ≤ st ∧ st ≤ 16) && decide (1 ≤ size ∧ size ≤ 32 ∧ 1 ≤ life ∧ life ≤ 64) && decide (1 ≤ deg ∧ deg ≤ 16 ∧ 1 ≤ blk ∧ blk ≤ 256))) := rfl
  generalize snewB st size life deg blk = R at *
  generalize decide (1 ≤ size ∧ size ≤ 32 ∧ 1 ≤ life ∧ life ≤ 64) = β at *
  have HM := Lib.hid HM
  cases β
  all_goals
    go_enter Try.func15, Try.ntmps15
    go_wp2_with (go_at_call 47; refine (HM.out _).mono ?_; rintro e w1 ⟨rfl, rfl⟩)
    all_goals (go_ret; refine ⟨?_, rfl⟩; refine ret_bool ?_; rw [HB.out])
    all_goals (first | (simp; done) | (simp; omega) | (rw [Bool.eq_iff_iff]; simp; omega) | trace_state)
set_option maxHeartbeats 1000000 in
theorem rs_new (hP : P.Ok) (hM : ∀ m ∈ M, m < w.heap.size) : Calls Try.prog 16 #[.int .i64 P.most, .int .i64 P.size, .int .i64 P.life, .int .i64 P.deg, .int .i64 P.blk] w fun e w' => (∃ r rt base, e = .returned (.pointer (some ⟨r, 0, none⟩)) ∧ RTrk w' M r rt base P (.slice none 0 0) ⟨[], 0, 0, 0, []⟩) ∧ Fr [] w w' := by
  have HH := Lib.hid hM
  clear hM
  go_enter Try.func16, Try.ntmps16
  go_wp2_with fail
  with_reducible refine (rt_new P.size P.life w M HH.out).mono ?_
  rintro e w2 ⟨rfl, R2, f2, z2⟩
  have HR := Lib.hid R2
  obtain ⟨q, hq⟩ : ∃ q, q = w.heap.size := ⟨_, rfl⟩
  rw [← hq] at z2 HR ⊢
  have HQ := Lib.hid hq
  have HZ := Lib.hid z2
  clear R2 hq z2
  go_wp2_with fail
  go_ret
  have z2 := HZ.out
  have F3 : Fr [] w2 (w2.alloc (.cells #[.slice none 0 0, .pointer (some ⟨q, 0, none⟩), .int .i64 0, .int .i64 0, .int .i64 P.most, .int .i64 P.deg, .int .i64 P.blk] 48)) := (by repeat' (first | (with_reducible exact Fr.refl _ _) | (with_reducible assumption) | (with_reducible refine Fr.drew ?_) | (with_reducible refine Fr.drewN ?_ _) | (with_reducible refine Fr.alloc ?_ _) | ((with_reducible refine Fr.setNew ?_ _ ?_ _); rotate_left; (focus (first | (with_reducible assumption) | exact Nat.le_of_lt (by with_reducible assumption) | (focus (simp +arith; done)) | exact Nat.le_trans (by with_reducible assumption) (by simp +arith; done) | (simp; done)))) | ((with_reducible refine Fr.setOld ?_ _ ?_ _); rotate_left; (focus (simp; done)))))
  have z3 : (w2.alloc (.cells #[.slice none 0 0, .pointer (some ⟨q, 0, none⟩), .int .i64 0, .int .i64 0, .int .i64 P.most, .int .i64 P.deg, .int .i64 P.blk] 48)).heap.size = w2.heap.size + 1 := by simp
  refine ⟨⟨_, _, w2.heap.size + 1, rfl, ⟨by (apply heap_eq_of; (focus (repeat (first | (with_reducible assumption) | ((with_reducible refine heap_alloc_at ?_ _); first | (with_reducible rfl) | (focus (simp; done))) | (with_reducible apply heap_alloc_old) | ((with_reducible apply heap_set_other); (case hne => (first | (with_reducible assumption) | exact Nat.ne_of_lt (by with_reducible assumption) | exact Nat.ne_of_gt (by with_reducible assumption) | (focus (simp +arith; done)) | (simp; done)))) | (with_reducible apply heap_set_eq) | (with_reducible apply heap_drew_of) | (with_reducible apply heap_drewN_of)))); (focus (first | (simp; done) | rfl))), El.Own.nil _ _ _, HR.out.turn F3 (by simp) (fun x hx => ?_) (fun x hx => ?_) (by simp), ⟨by omega, by omega, by omega, by omega⟩, fun x hx => ?_⟩⟩, f2.trans F3⟩
  · simp [Value.ownBlock] at hx
    rcases hx with rfl | rfl | hx
    · simp
    · simp
    · simp [hx]
  · have h9 := HH.out
    have h8 := HQ.out
    simp [Value.ownBlock] at hx
    rcases hx with rfl | rfl | hx
    · omega
    · omega
    · have := h9 x hx; omega
  · have h9 := HH.out x hx
    have h8 := HQ.out
    simp [Value.ownBlock]
    omega
set_option maxHeartbeats 2000000 in
theorem rs_same (va vb : Value) (xs : List Str) (hl : xs.length ≤ 100000) (Ma Mb : List Nat) (w : World) (ha : eS.Sl Ma w va xs) (hb : eS.Sl Mb w vb xs) :
    Calls Try.prog 22 #[va, vb] w fun e w' => e = .returned (.bool true) ∧ Fr [] w w' := by
  obtain ⟨A, ca, rfl, _, hA⟩ := ha
  obtain ⟨B, cb, rfl, _, hB⟩ := hb
  have HA := Lib.hid hA
  have HB := Lib.hid hB
  have hl' : (xs.length : Int) ≤ 100000 := by omega
  have heq := eq_str
  clear hA hB
  go_enter Try.func22, Try.ntmps22
  go_wp2_with fail
  go_loopw [5] (fun v wr => ∃ i : Nat, v = .int .i64 i ∧ i ≤ xs.length ∧ Fr [] w wr) (fun v _ => xs.length - (intOf v).toNat)
  case atStart => exact ⟨0, rfl, by omega, Fr.refl _ _⟩
  case round =>
    obtain ⟨i, rfl, i1, F⟩ := hrel
    by_cases hlt : i < xs.length
    · rcases HA.out with rfl | ⟨b, off, rfl, hb, _, hcl⟩
      · simp at hlt
      rcases HB.out with rfl | ⟨b2, off2, rfl, hb2, _, hcl2⟩
      · simp at hlt
      obtain ⟨c0, c1, c2, c3, c4, c5⟩ := esat hcl (List.getElem?_eq_getElem hlt)
      obtain ⟨e0, e1, e2, e3, e4, e5⟩ := esat hcl2 (List.getElem?_eq_getElem hlt)
      generalize xs[i] = x at *
      have a0 := (F.cell (off := off + i * 6) hb).trans c0
      have a1 := (F.cell (off := off + i * 6 + 1) hb).trans c1
      have a2 := (F.cell (off := off + i * 6 + 2) hb).trans c2
      have a3 := (F.cell (off := off + i * 6 + 3) hb).trans c3
      have a4 := (F.cell (off := off + i * 6 + 4) hb).trans c4
      have a5 := (F.cell (off := off + i * 6 + 5) hb).trans c5
      have d0 := (F.cell (off := off2 + i * 6) hb2).trans e0
      have d1 := (F.cell (off := off2 + i * 6 + 1) hb2).trans e1
      have d2 := (F.cell (off := off2 + i * 6 + 2) hb2).trans e2
      have d3 := (F.cell (off := off2 + i * 6 + 3) hb2).trans e3
      have d4 := (F.cell (off := off2 + i * 6 + 4) hb2).trans e4
      have d5 := (F.cell (off := off2 + i * 6 + 5) hb2).trans e5
      clear hcl hcl2 c0 c1 c2 c3 c4 c5 e0 e1 e2 e3 e4 e5
      go_wp2_with fail
      go_region
      go_wp2_with fail
      go_roundw
      case rel => exact ⟨i + 1, by go_num, by omega, (by repeat' (first | (with_reducible exact Fr.refl _ _) | (with_reducible assumption) | (with_reducible refine Fr.drew ?_) | (with_reducible refine Fr.drewN ?_ _) | (with_reducible refine Fr.alloc ?_ _) | ((with_reducible refine Fr.setNew ?_ _ ?_ _); rotate_left; (focus (first | (with_reducible assumption) | exact Nat.le_of_lt (by with_reducible assumption) | (focus (simp +arith; done)) | exact Nat.le_trans (by with_reducible assumption) (by simp +arith; done) | (simp; done)))) | ((with_reducible refine Fr.setOld ?_ _ ?_ _); rotate_left; (focus (simp; done)))))⟩
      case measure => simp [intOf]; omega
    · have : i = xs.length := by omega
      subst this
      go_wp2
      go_ret
      exact ⟨rfl, F⟩

set_option maxRecDepth 100000 in
set_option maxHeartbeats 4000000 in
theorem rs_late (hP : P.Ok) (hs : SOk P s) (id : Int) (H : RTrk w M r rt base P v s) :
    Calls Try.prog 20 #[.pointer (some ⟨r, 0, none⟩), .int .i64 id, .bool true] w fun e w' => e = .returned (.bool (decide (0 ≤ idxS id s.xs))) ∧ RTrk w' M r rt base P v (tuneS true id s) ∧ Fr (rN r rt v) w w' := by
  have fol : Try.prog.follows .mixedOrders = true := by kernel_rfl
  obtain ⟨A0, c0, rfl⟩ := H.ow.shape
  have HH := Lib.hid H
  have HX := H.hr
  have HO := Lib.hid H.ow
  have hxl : Hid (s.xs.length ≤ 16) := by have := hs.len; have := hP.mo; unfold Hid; omega
  have HPP : Hid (∀ x ∈ s.xs, x.pp ≤ 16) := fun x hx => amay_pp (hs.may x hx) hP.dg.2
  have hx' : (s.xs.length : Int) ≤ 16 := by have := hxl.out; omega
  have HTU : Hid (∀ (i : Nat) (x : Str), idxS id s.xs = i → s.xs[i]? = some x → tuneS true id s = ⟨s.xs.set i ⟨x.id, x.nx, x.ah, x.pp, alateG x.pp x.gg, x.us⟩, s.us, s.la, s.L, s.E⟩) := by
    intro i x hi hx
    unfold tuneS tunLate
    simp only [eq_self_iff_true, Bool.false_eq_true, if_true, if_false]
    rw [hi, if_pos (by omega), Int.toNat_natCast, modify_set _ _ _ _ hx]
  have HTN : Hid (idxS id s.xs = -1 → tuneS true id s = s) := by
    intro hi
    unfold tuneS tunLate
    simp only [eq_self_iff_true, Bool.false_eq_true, if_true, if_false]
    rw [hi, if_neg (by omega)]
  clear H
  generalize tuneS true id s = S2 at *
  go_enter Try.func20, Try.ntmps20
  go_wp2_with fail
  go_loopw [7] (fun u wr => ∃ i : Nat, u = .int .i64 i ∧ i ≤ s.xs.length ∧ (∀ (j : Nat) (y : Str), j < i → s.xs[j]? = some y → y.id ≠ id) ∧ Fr [] w wr) (fun u _ => s.xs.length - (intOf u).toNat)
  case atStart => exact ⟨0, rfl, by omega, fun j y hj => by omega, Fr.refl _ _⟩
  case round =>
    obtain ⟨i, rfl, i1, hno, F⟩ := hrel
    have HN := Lib.hid hno
    have hx2 := F.heap HX (by simp)
    apply blk_use hx2; intro hg1 hc1 hz1 _ _ _ _ _
    clear hno
    by_cases hlt : i < s.xs.length
    · have hX : s.xs[i]? = some s.xs[i] := List.getElem?_eq_getElem hlt
      have hpp := HPP.out s.xs[i] (List.getElem_mem _)
      generalize s.xs[i] = X at *
      rcases HO.out.2 with ⟨_, hz0⟩ | ⟨g, cap, cur, hsl, hg, hb, hc, hm, hz, ht⟩
      · omega
      injection hsl with e1 e2 e3
      subst e1 e3
      have hb' : w.heap[g]? = some (.cells cur 59 (0, 0)) := hb
      have ht' : cur.toList.take (s.xs.length * 6) = eS.cs s.xs := ht
      have hz' : cur.size = c0 * 6 := hz
      have hcell : ∀ j u, j < 6 → (eS.f X)[j]? = some u → cur[i * 6 + j]? = some u := by
        intro j u hj hu
        have h1 := eSok.cs_get s.xs i j X hX hj
        have h1' : (eS.cs s.xs)[i * 6 + j]? = (eS.f X)[j]? := h1
        rw [← ht', List.getElem?_take, if_pos (by omega), Array.getElem?_toList] at h1'
        rw [h1', hu]
      have k0 := hcell 0 _ (by decide) rfl
      have k1 := hcell 1 _ (by decide) rfl
      have k2 := hcell 2 _ (by decide) rfl
      have k3 := hcell 3 _ (by decide) rfl
      have k4 := hcell 4 _ (by decide) rfl
      simp only [Nat.add_zero] at k0
      have HCELL := Lib.hid hcell
      have B2 := F.heap hb' (by simp)
      have hcap : s.xs.length ≤ c0 := hc
      have HD := Lib.hid (And.intro ht' (And.intro hz' (And.intro hg (And.intro hc hm))))
      have HXX := Lib.hid hX
      clear hb ht hz hb' ht' hz' hg hc hm hcell e2 hX
      apply blk_use B2; intro hg2 hc2 hz2 _ _ _ _ _
      by_cases hid : X.id = id
      · have hY := Lib.hid (HTU.out i X (idxS_at HXX.out hid HN.out) HXX.out)
        have hI : Hid (decide (0 ≤ idxS id s.xs) = true) := by unfold Hid; rw [idxS_at HXX.out hid HN.out]; simp
        clear k0
        have k0 : cur[i * 6]? = some (.int .i64 id) := by rw [← hid]; exact HCELL.out 0 _ (by decide) rfl
        go_wp2_with fail
        refine wp_region_seqV_lit (FinS 16 (Fr [] wr) (fun w' => w'.heap[g]? = some (.cells ((((cur.setIfInBounds (i * 6 + 1) (.int .i64 X.nx)).setIfInBounds (i * 6 + 2) (.int .i64 X.ah)).setIfInBounds (i * 6 + 3) (.int .i64 (X.pp))).setIfInBounds (i * 6 + 4) (.int .i64 (alateG X.pp X.gg))) 59) ∧ Fr [g] wr w')) fol (by kernel_rfl) (FinS.start (Fr.refl _ _).drew) ?_
        (repeat (apply SeqV.cons; (focus (intro Vv bv wv hbv hdv hsh hSv; have bst := shut_no hsh hbv 16 (by kernel_rfl); have s0 := FinS.pre hSv bst; clear hsh hdv; (have hx2 := s0.heap hx2 (by simp)); apply blk_use hx2; intro hg21 hc21 hz21 _ _ _ _ _; (have hx3 := s0.heap B2 (by simp)); apply blk_use hx3; intro hg22 hc22 hz22 _ _ _ _ _; go_wp2_with fail; exact StepPost.mk rfl (FinS.plain (by decide) bst (Fr.trans s0 (by repeat' (first | (with_reducible exact Fr.refl _ _) | (with_reducible assumption) | (with_reducible refine Fr.drew ?_) | (with_reducible refine Fr.drewN ?_ _) | (with_reducible refine Fr.alloc ?_ _) | ((with_reducible refine Fr.setNew ?_ _ ?_ _); rotate_left; (focus (first | (with_reducible assumption) | exact Nat.le_of_lt (by with_reducible assumption) | (focus (simp +arith; done)) | exact Nat.le_trans (by with_reducible assumption) (by simp +arith; done) | (simp; done)))) | ((with_reducible refine Fr.setOld ?_ _ ?_ _); rotate_left; (focus (simp; done))))))))); (try simp only [Act.put, List.setIfInBounds_toArray, List.set_cons_zero, List.set_cons_succ, Nat.reduceAdd, Nat.zero_add])))
        apply SeqV.cons (v := .agg #[.int .i64 X.nx, .int .i64 X.ah, .int .i64 (X.pp), .int .i64 (alateG X.pp X.gg)]); (focus (intro Vv bv wv hbv hdv hsh hSv; have bst := shut_no hsh hbv 16 (by kernel_rfl); have s0 := FinS.pre hSv bst; go_wp2_with fail; with_reducible refine ((by rw [alateG_eq (by omega)]; exact rlate_any X.nx X.ah X.pp X.gg (by omega) _ : Calls _ _ _ _ fun e w9 => e = .returned (.agg #[.int .i64 X.nx, .int .i64 X.ah, .int .i64 X.pp, .int .i64 (alateG X.pp X.gg)]) ∧ Fr [] _ w9)).mono ?_; rintro e ww ⟨rfl, ff⟩; go_wp2_with fail; exact StepPost.mk rfl (FinS.plain (by decide) bst (s0.trans ff)))); (try simp only [Act.put, List.setIfInBounds_toArray, List.set_cons_zero, List.set_cons_succ, Nat.reduceAdd, Nat.zero_add])
        (repeat (apply SeqV.cons; (focus (intro Vv bv wv hbv hdv hsh hSv; have bst := shut_no hsh hbv 16 (by kernel_rfl); have s0 := FinS.pre hSv bst; clear hsh hdv; skip; go_wp2_with fail; exact StepPost.mk rfl (FinS.plain (by decide) bst (Fr.trans s0 (by repeat' (first | (with_reducible exact Fr.refl _ _) | (with_reducible assumption) | (with_reducible refine Fr.drew ?_) | (with_reducible refine Fr.drewN ?_ _) | (with_reducible refine Fr.alloc ?_ _) | ((with_reducible refine Fr.setNew ?_ _ ?_ _); rotate_left; (focus (first | (with_reducible assumption) | exact Nat.le_of_lt (by with_reducible assumption) | (focus (simp +arith; done)) | exact Nat.le_trans (by with_reducible assumption) (by simp +arith; done) | (simp; done)))) | ((with_reducible refine Fr.setOld ?_ _ ?_ _); rotate_left; (focus (simp; done))))))))); (try simp only [Act.put, List.setIfInBounds_toArray, List.set_cons_zero, List.set_cons_succ, Nat.reduceAdd, Nat.zero_add])))
        apply SeqV.cons (v := undef); (focus (intro Vv bv wv hbv hdv hsh hSv; have s0 := FinS.pre hSv hbv; (have hx3 := s0.heap B2 (by simp)); apply blk_use hx3; intro hg22 hc22 hz22 _ _ _ _ _; go_wp2_with fail; exact StepPost.mk rfl (FinS.fin ⟨by (apply heap_eq_of; (focus (repeat (first | (with_reducible assumption) | ((with_reducible refine heap_alloc_at ?_ _); first | (with_reducible rfl) | (focus (simp; done))) | (with_reducible apply heap_alloc_old) | ((with_reducible apply heap_set_other); (case hne => (first | (with_reducible assumption) | exact Nat.ne_of_lt (by with_reducible assumption) | exact Nat.ne_of_gt (by with_reducible assumption) | (focus (simp +arith; done)) | (simp; done)))) | (with_reducible apply heap_set_eq) | (with_reducible apply heap_drew_of) | (with_reducible apply heap_drewN_of)))); (focus (first | (simp; done) | rfl))), (s0.mono (by simp)).trans (by repeat' (first | (with_reducible exact Fr.refl _ _) | (with_reducible assumption) | (with_reducible refine Fr.drew ?_) | (with_reducible refine Fr.drewN ?_ _) | (with_reducible refine Fr.alloc ?_ _) | ((with_reducible refine Fr.setNew ?_ _ ?_ _); rotate_left; (focus (first | (with_reducible assumption) | exact Nat.le_of_lt (by with_reducible assumption) | (focus (simp +arith; done)) | exact Nat.le_trans (by with_reducible assumption) (by simp +arith; done) | (simp; done)))) | ((with_reducible refine Fr.setOld ?_ _ ?_ _); rotate_left; (focus (simp; done)))))⟩))); (try simp only [Act.put, List.setIfInBounds_toArray, List.set_cons_zero, List.set_cons_succ, Nat.reduceAdd, Nat.zero_add])
        refine SeqV.nil ?_
        intro Vv bv w5 hb5 hSv
        obtain ⟨B5, F5⟩ := FinS.end_ hSv (hb5 16 (by decide))
        clear hSv hb5
        go_wp2_with fail
        go_ret
        have F9 : Fr [g] w w5 := (F.mono (by simp)).trans F5
        obtain ⟨d1, d2, d3, d4, d5⟩ := HD.out
        have hgb : base ≤ g := d3
        have hlt9 := HH.out.lt
        rw [hY.out]
        refine ⟨ret_bool hI.out.symm, ⟨F9.heap HX (by simp; omega), ?_, HH.out.tp.turn F9 (fun x hx => ?_) (fun x hx => Or.inl hx) (fun x hx => Nat.lt_of_lt_of_le (HH.out.tp.2.1 x hx) F9.size) (by simp), ⟨hlt9.1, hlt9.2.1, hlt9.2.2.1, Nat.le_trans hlt9.2.2.2 F9.size⟩, HH.out.ap⟩, F9.mono (fun x hx => by simp at hx; subst hx; simp [Value.ownBlock])⟩
        · have hsz : i * 6 + 5 < cur.size := by omega
          refine own_upd rfl d1 d2 d3 d4 d5 hlt B5 (by simp) (fun j hj => ?_) (fun k hk => ?_)
          · simp only [Array.getElem?_setIfInBounds, Array.size_setIfInBounds]
            rcases (by omega : j = 0 ∨ j = 1 ∨ j = 2 ∨ j = 3 ∨ j = 4 ∨ j = 5) with rfl | rfl | rfl | rfl | rfl | rfl
            all_goals
              (repeat (first | rw [if_pos (by omega)] | rw [if_neg (by omega)]))
              first | rfl | (exact HCELL.out 0 _ (by decide) rfl) | (exact HCELL.out 5 _ (by decide) rfl)
          · simp only [Array.getElem?_setIfInBounds, Array.size_setIfInBounds]
            (repeat (first | rw [if_neg (by omega)]))
        · simp at hx; subst hx
          exact ⟨Or.inl (by simp [Value.ownBlock]), by omega⟩
      · go_wp2_with fail
        go_roundw
        case rel => exact ⟨i + 1, by go_num, by omega, fun j y hj hy => by
          rcases Nat.lt_succ_iff_lt_or_eq.1 hj with q | rfl
          · exact HN.out j y q hy
          · have e := HXX.out.symm.trans hy
            injection e with e
            subst e; exact hid, F⟩
        case measure => simp [intOf]; omega
    · obtain rfl : i = s.xs.length := by omega
      have hn := idxS_no (id := id) (xs := s.xs) (fun j y hy => HN.out j y (List.getElem?_eq_some_iff.1 hy).1 hy)
      have hY := Lib.hid (HTN.out hn)
      have hI : Hid (decide (0 ≤ idxS id s.xs) = false) := by unfold Hid; rw [hn]; decide
      clear hn
      go_wp2_with fail
      go_ret
      exact ⟨ret_bool hI.out.symm, by rw [hY.out]; exact HH.out.fr0 F, F.mono (by simp)⟩

set_option maxRecDepth 100000 in
set_option maxHeartbeats 4000000 in
theorem rs_waste (hP : P.Ok) (hs : SOk P s) (id : Int) (H : RTrk w M r rt base P v s) :
    Calls Try.prog 20 #[.pointer (some ⟨r, 0, none⟩), .int .i64 id, .bool false] w fun e w' => e = .returned (.bool (decide (0 ≤ idxS id s.xs))) ∧ RTrk w' M r rt base P v (tuneS false id s) ∧ Fr (rN r rt v) w w' := by
  have fol : Try.prog.follows .mixedOrders = true := by kernel_rfl
  obtain ⟨A0, c0, rfl⟩ := H.ow.shape
  have HH := Lib.hid H
  have HX := H.hr
  have HO := Lib.hid H.ow
  have hxl : Hid (s.xs.length ≤ 16) := by have := hs.len; have := hP.mo; unfold Hid; omega
  have HPP : Hid (∀ x ∈ s.xs, x.pp ≤ 16) := fun x hx => amay_pp (hs.may x hx) hP.dg.2
  have hx' : (s.xs.length : Int) ≤ 16 := by have := hxl.out; omega
  have HTU : Hid (∀ (i : Nat) (x : Str), idxS id s.xs = i → s.xs[i]? = some x → tuneS false id s = ⟨s.xs.set i ⟨x.id, x.nx, x.ah, awasteP x.pp x.gg, awasteG x.pp x.gg, x.us⟩, s.us, s.la, s.L, s.E⟩) := by
    intro i x hi hx
    unfold tuneS tunWaste
    simp only [eq_self_iff_true, Bool.false_eq_true, if_true, if_false]
    rw [hi, if_pos (by omega), Int.toNat_natCast, modify_set _ _ _ _ hx]
  have HTN : Hid (idxS id s.xs = -1 → tuneS false id s = s) := by
    intro hi
    unfold tuneS tunWaste
    simp only [eq_self_iff_true, Bool.false_eq_true, if_true, if_false]
    rw [hi, if_neg (by omega)]
  clear H
  generalize tuneS false id s = S2 at *
  go_enter Try.func20, Try.ntmps20
  go_wp2_with fail
  go_loopw [7] (fun u wr => ∃ i : Nat, u = .int .i64 i ∧ i ≤ s.xs.length ∧ (∀ (j : Nat) (y : Str), j < i → s.xs[j]? = some y → y.id ≠ id) ∧ Fr [] w wr) (fun u _ => s.xs.length - (intOf u).toNat)
  case atStart => exact ⟨0, rfl, by omega, fun j y hj => by omega, Fr.refl _ _⟩
  case round =>
    obtain ⟨i, rfl, i1, hno, F⟩ := hrel
    have HN := Lib.hid hno
    have hx2 := F.heap HX (by simp)
    apply blk_use hx2; intro hg1 hc1 hz1 _ _ _ _ _
    clear hno
    by_cases hlt : i < s.xs.length
    · have hX : s.xs[i]? = some s.xs[i] := List.getElem?_eq_getElem hlt
      have hpp := HPP.out s.xs[i] (List.getElem_mem _)
      generalize s.xs[i] = X at *
      rcases HO.out.2 with ⟨_, hz0⟩ | ⟨g, cap, cur, hsl, hg, hb, hc, hm, hz, ht⟩
      · omega
      injection hsl with e1 e2 e3
      subst e1 e3
      have hb' : w.heap[g]? = some (.cells cur 59 (0, 0)) := hb
      have ht' : cur.toList.take (s.xs.length * 6) = eS.cs s.xs := ht
      have hz' : cur.size = c0 * 6 := hz
      have hcell : ∀ j u, j < 6 → (eS.f X)[j]? = some u → cur[i * 6 + j]? = some u := by
        intro j u hj hu
        have h1 := eSok.cs_get s.xs i j X hX hj
        have h1' : (eS.cs s.xs)[i * 6 + j]? = (eS.f X)[j]? := h1
        rw [← ht', List.getElem?_take, if_pos (by omega), Array.getElem?_toList] at h1'
        rw [h1', hu]
      have k0 := hcell 0 _ (by decide) rfl
      have k1 := hcell 1 _ (by decide) rfl
      have k2 := hcell 2 _ (by decide) rfl
      have k3 := hcell 3 _ (by decide) rfl
      have k4 := hcell 4 _ (by decide) rfl
      simp only [Nat.add_zero] at k0
      have HCELL := Lib.hid hcell
      have B2 := F.heap hb' (by simp)
      have hcap : s.xs.length ≤ c0 := hc
      have HD := Lib.hid (And.intro ht' (And.intro hz' (And.intro hg (And.intro hc hm))))
      have HXX := Lib.hid hX
      clear hb ht hz hb' ht' hz' hg hc hm hcell e2 hX
      apply blk_use B2; intro hg2 hc2 hz2 _ _ _ _ _
      by_cases hid : X.id = id
      · have hY := Lib.hid (HTU.out i X (idxS_at HXX.out hid HN.out) HXX.out)
        have hI : Hid (decide (0 ≤ idxS id s.xs) = true) := by unfold Hid; rw [idxS_at HXX.out hid HN.out]; simp
        clear k0
        have k0 : cur[i * 6]? = some (.int .i64 id) := by rw [← hid]; exact HCELL.out 0 _ (by decide) rfl
        go_wp2_with fail
        refine wp_region_seqV_lit (FinS 16 (Fr [] wr) (fun w' => w'.heap[g]? = some (.cells ((((cur.setIfInBounds (i * 6 + 1) (.int .i64 X.nx)).setIfInBounds (i * 6 + 2) (.int .i64 X.ah)).setIfInBounds (i * 6 + 3) (.int .i64 (awasteP X.pp X.gg))).setIfInBounds (i * 6 + 4) (.int .i64 (awasteG X.pp X.gg))) 59) ∧ Fr [g] wr w')) fol (by kernel_rfl) (FinS.start (Fr.refl _ _).drew) ?_
        (repeat (apply SeqV.cons; (focus (intro Vv bv wv hbv hdv hsh hSv; have bst := shut_no hsh hbv 16 (by kernel_rfl); have s0 := FinS.pre hSv bst; clear hsh hdv; (have hx2 := s0.heap hx2 (by simp)); apply blk_use hx2; intro hg21 hc21 hz21 _ _ _ _ _; (have hx3 := s0.heap B2 (by simp)); apply blk_use hx3; intro hg22 hc22 hz22 _ _ _ _ _; go_wp2_with fail; exact StepPost.mk rfl (FinS.plain (by decide) bst (Fr.trans s0 (by repeat' (first | (with_reducible exact Fr.refl _ _) | (with_reducible assumption) | (with_reducible refine Fr.drew ?_) | (with_reducible refine Fr.drewN ?_ _) | (with_reducible refine Fr.alloc ?_ _) | ((with_reducible refine Fr.setNew ?_ _ ?_ _); rotate_left; (focus (first | (with_reducible assumption) | exact Nat.le_of_lt (by with_reducible assumption) | (focus (simp +arith; done)) | exact Nat.le_trans (by with_reducible assumption) (by simp +arith; done) | (simp; done)))) | ((with_reducible refine Fr.setOld ?_ _ ?_ _); rotate_left; (focus (simp; done))))))))); (try simp only [Act.put, List.setIfInBounds_toArray, List.set_cons_zero, List.set_cons_succ, Nat.reduceAdd, Nat.zero_add])))
        apply SeqV.cons (v := .agg #[.int .i64 X.nx, .int .i64 X.ah, .int .i64 (awasteP X.pp X.gg), .int .i64 (awasteG X.pp X.gg)]); (focus (intro Vv bv wv hbv hdv hsh hSv; have bst := shut_no hsh hbv 16 (by kernel_rfl); have s0 := FinS.pre hSv bst; go_wp2_with fail; with_reducible refine (rwaste_any X.nx X.ah X.pp X.gg (by omega) _).mono ?_; rintro e ww ⟨rfl, ff⟩; go_wp2_with fail; exact StepPost.mk rfl (FinS.plain (by decide) bst (s0.trans ff)))); (try simp only [Act.put, List.setIfInBounds_toArray, List.set_cons_zero, List.set_cons_succ, Nat.reduceAdd, Nat.zero_add])
        (repeat (apply SeqV.cons; (focus (intro Vv bv wv hbv hdv hsh hSv; have bst := shut_no hsh hbv 16 (by kernel_rfl); have s0 := FinS.pre hSv bst; clear hsh hdv; skip; go_wp2_with fail; exact StepPost.mk rfl (FinS.plain (by decide) bst (Fr.trans s0 (by repeat' (first | (with_reducible exact Fr.refl _ _) | (with_reducible assumption) | (with_reducible refine Fr.drew ?_) | (with_reducible refine Fr.drewN ?_ _) | (with_reducible refine Fr.alloc ?_ _) | ((with_reducible refine Fr.setNew ?_ _ ?_ _); rotate_left; (focus (first | (with_reducible assumption) | exact Nat.le_of_lt (by with_reducible assumption) | (focus (simp +arith; done)) | exact Nat.le_trans (by with_reducible assumption) (by simp +arith; done) | (simp; done)))) | ((with_reducible refine Fr.setOld ?_ _ ?_ _); rotate_left; (focus (simp; done))))))))); (try simp only [Act.put, List.setIfInBounds_toArray, List.set_cons_zero, List.set_cons_succ, Nat.reduceAdd, Nat.zero_add])))
        apply SeqV.cons (v := undef); (focus (intro Vv bv wv hbv hdv hsh hSv; have s0 := FinS.pre hSv hbv; (have hx3 := s0.heap B2 (by simp)); apply blk_use hx3; intro hg22 hc22 hz22 _ _ _ _ _; go_wp2_with fail; exact StepPost.mk rfl (FinS.fin ⟨by (apply heap_eq_of; (focus (repeat (first | (with_reducible assumption) | ((with_reducible refine heap_alloc_at ?_ _); first | (with_reducible rfl) | (focus (simp; done))) | (with_reducible apply heap_alloc_old) | ((with_reducible apply heap_set_other); (case hne => (first | (with_reducible assumption) | exact Nat.ne_of_lt (by with_reducible assumption) | exact Nat.ne_of_gt (by with_reducible assumption) | (focus (simp +arith; done)) | (simp; done)))) | (with_reducible apply heap_set_eq) | (with_reducible apply heap_drew_of) | (with_reducible apply heap_drewN_of)))); (focus (first | (simp; done) | rfl))), (s0.mono (by simp)).trans (by repeat' (first | (with_reducible exact Fr.refl _ _) | (with_reducible assumption) | (with_reducible refine Fr.drew ?_) | (with_reducible refine Fr.drewN ?_ _) | (with_reducible refine Fr.alloc ?_ _) | ((with_reducible refine Fr.setNew ?_ _ ?_ _); rotate_left; (focus (first | (with_reducible assumption) | exact Nat.le_of_lt (by with_reducible assumption) | (focus (simp +arith; done)) | exact Nat.le_trans (by with_reducible assumption) (by simp +arith; done) | (simp; done)))) | ((with_reducible refine Fr.setOld ?_ _ ?_ _); rotate_left; (focus (simp; done)))))⟩))); (try simp only [Act.put, List.setIfInBounds_toArray, List.set_cons_zero, List.set_cons_succ, Nat.reduceAdd, Nat.zero_add])
        refine SeqV.nil ?_
        intro Vv bv w5 hb5 hSv
        obtain ⟨B5, F5⟩ := FinS.end_ hSv (hb5 16 (by decide))
        clear hSv hb5
        go_wp2_with fail
        go_ret
        have F9 : Fr [g] w w5 := (F.mono (by simp)).trans F5
        obtain ⟨d1, d2, d3, d4, d5⟩ := HD.out
        have hgb : base ≤ g := d3
        have hlt9 := HH.out.lt
        rw [hY.out]
        refine ⟨ret_bool hI.out.symm, ⟨F9.heap HX (by simp; omega), ?_, HH.out.tp.turn F9 (fun x hx => ?_) (fun x hx => Or.inl hx) (fun x hx => Nat.lt_of_lt_of_le (HH.out.tp.2.1 x hx) F9.size) (by simp), ⟨hlt9.1, hlt9.2.1, hlt9.2.2.1, Nat.le_trans hlt9.2.2.2 F9.size⟩, HH.out.ap⟩, F9.mono (fun x hx => by simp at hx; subst hx; simp [Value.ownBlock])⟩
        · have hsz : i * 6 + 5 < cur.size := by omega
          refine own_upd rfl d1 d2 d3 d4 d5 hlt B5 (by simp) (fun j hj => ?_) (fun k hk => ?_)
          · simp only [Array.getElem?_setIfInBounds, Array.size_setIfInBounds]
            rcases (by omega : j = 0 ∨ j = 1 ∨ j = 2 ∨ j = 3 ∨ j = 4 ∨ j = 5) with rfl | rfl | rfl | rfl | rfl | rfl
            all_goals
              (repeat (first | rw [if_pos (by omega)] | rw [if_neg (by omega)]))
              first | rfl | (exact HCELL.out 0 _ (by decide) rfl) | (exact HCELL.out 5 _ (by decide) rfl)
          · simp only [Array.getElem?_setIfInBounds, Array.size_setIfInBounds]
            (repeat (first | rw [if_neg (by omega)]))
        · simp at hx; subst hx
          exact ⟨Or.inl (by simp [Value.ownBlock]), by omega⟩
      · go_wp2_with fail
        go_roundw
        case rel => exact ⟨i + 1, by go_num, by omega, fun j y hj hy => by
          rcases Nat.lt_succ_iff_lt_or_eq.1 hj with q | rfl
          · exact HN.out j y q hy
          · have e := HXX.out.symm.trans hy
            injection e with e
            subst e; exact hid, F⟩
        case measure => simp [intOf]; omega
    · obtain rfl : i = s.xs.length := by omega
      have hn := idxS_no (id := id) (xs := s.xs) (fun j y hy => HN.out j y (List.getElem?_eq_some_iff.1 hy).1 hy)
      have hY := Lib.hid (HTN.out hn)
      have hI : Hid (decide (0 ≤ idxS id s.xs) = false) := by unfold Hid; rw [hn]; decide
      clear hn
      go_wp2_with fail
      go_ret
      exact ⟨ret_bool hI.out.symm, by rw [hY.out]; exact HH.out.fr0 F, F.mono (by simp)⟩
end
end Go.Proofs.Ytoapobhdpgcmbaa
