/- When the reference of layer 24 calls bytes, operations and answers the same. -/
import Derived.Test.YtoebfpimojkamaaDoorWireScr2
namespace Go.Proofs.YtoebfpimojkamaaDoor
open Go.RowKit

/-- A test's answer. -/
structure IffPost (p : Prop) (w : World) (e : Ending) (w' : World) : Prop where
  val : ∃ β : Bool, e = .returned (.bool β) ∧ (β = true ↔ p)
  fr : Fr [] w w'

set_option maxRecDepth 100000 in
set_option maxHeartbeats 4000000 in
theorem rBytes (va vb : Value) (xs ys : List Int) (hx : xs.length ≤ 1000000) (w : World) (ha : SlB w va xs) (hb : SlB w vb ys) :
    Calls Tryd.prog 12 #[va, vb] w fun e w' => IffPost (xs = ys) w e w' := by
  have fol : Tryd.prog.follows .mixedOrders = true := by kernel_rfl
  obtain ⟨A, ca, rfl, NA, hca⟩ := ha
  obtain ⟨B, cb, rfl, NB, hcb⟩ := hb
  have hx' : (xs.length : Int) ≤ 1000000 := by omega
  have HA := Lib.hid NA
  have HB := Lib.hid NB
  clear NA NB
  by_cases hl : xs.length = ys.length
  · have hl' : ((xs.length : Int) != ys.length) = false := by simp [hl]
    have HL := Lib.hid hl
    clear hl
    go_enter Tryd.func12, Tryd.ntmps12
    go_wp2_with fail
    go_loopw [5] (fun i w' => ∃ k : Nat, i = .int .i64 k ∧ k ≤ xs.length ∧ xs.take k = ys.take k ∧ Fr [] w w') (fun i _ => xs.length - (intOf i).toNat)
    case atStart => exact ⟨0, rfl, by omega, by simp, Fr.refl _ _⟩
    case round =>
      obtain ⟨k, rfl, k1, ht, F1⟩ := hrel
      have HT := Lib.hid ht
      clear ht
      by_cases hk : k < xs.length
      · have hk2 : k < ys.length := by have := HL.out; omega
        have hk2' : (k : Int) < ys.length := by omega
        rcases HA.out with hz | ⟨b1, o1, rfl, hb1, hc1⟩
        · simp [hz] at hk
        rcases HB.out with hz | ⟨b2, o2, rfl, hb2, hc2⟩
        · simp [hz] at hk2
        obtain ⟨q1, v0, v1⟩ := hc1 k xs[k] (by simp [hk])
        obtain ⟨q2, u0, u1⟩ := hc2 k ys[k] (by simp [hk2])
        have HS : Hid (xs[k] = ys[k] → xs.take (k + 1) = ys.take (k + 1)) := fun e => by
          rw [List.take_succ_eq_append_getElem hk, List.take_succ_eq_append_getElem hk2, HT.out, e]
        have HNE : Hid (xs[k] ≠ ys[k] → xs ≠ ys) := fun e h => by subst h; exact e rfl
        generalize xs[k] = x at *
        generalize ys[k] = y at *
        clear hc1 hc2
        go_wp2_with fail
        refine wp_region_seqV_lit (fun _ _ w' => Fr [] w w') fol (by kernel_rfl) F1.drew ?_
        apply SeqV.cons; (focus (intro Vv bv wv hbv hdv hSv; skip; go_wp2_with fail; exact StepPost.mk rfl (Fr.trans (S := []) hSv (by repeat' (first | (with_reducible exact Fr.refl _ _) | (with_reducible assumption) | (with_reducible refine Fr.drew ?_) | (with_reducible refine Fr.drewN ?_ _) | (with_reducible refine Fr.alloc ?_ _) | ((with_reducible refine Fr.setNew ?_ _ ?_ _); rotate_left; (focus (first | (with_reducible assumption) | exact Nat.le_of_lt (by with_reducible assumption) | (focus (simp +arith; done)) | exact Nat.le_trans (by with_reducible assumption) (by simp +arith; done) | (simp; done)))) | ((with_reducible refine Fr.setOld ?_ _ ?_ _); rotate_left; (focus (simp; done)))))))); (try simp only [Act.put, List.setIfInBounds_toArray, List.set_cons_zero, List.set_cons_succ, Nat.reduceAdd, Nat.zero_add])
        apply SeqV.cons; (focus (intro Vv bv wv hbv hdv hSv; skip; go_wp2_with fail; exact StepPost.mk rfl (Fr.trans (S := []) hSv (by repeat' (first | (with_reducible exact Fr.refl _ _) | (with_reducible assumption) | (with_reducible refine Fr.drew ?_) | (with_reducible refine Fr.drewN ?_ _) | (with_reducible refine Fr.alloc ?_ _) | ((with_reducible refine Fr.setNew ?_ _ ?_ _); rotate_left; (focus (first | (with_reducible assumption) | exact Nat.le_of_lt (by with_reducible assumption) | (focus (simp +arith; done)) | exact Nat.le_trans (by with_reducible assumption) (by simp +arith; done) | (simp; done)))) | ((with_reducible refine Fr.setOld ?_ _ ?_ _); rotate_left; (focus (simp; done)))))))); (try simp only [Act.put, List.setIfInBounds_toArray, List.set_cons_zero, List.set_cons_succ, Nat.reduceAdd, Nat.zero_add])
        apply SeqV.cons; (focus (intro Vv bv wv hbv hdv hSv; skip; go_wp2_with fail; exact StepPost.mk rfl (Fr.trans (S := []) hSv (by repeat' (first | (with_reducible exact Fr.refl _ _) | (with_reducible assumption) | (with_reducible refine Fr.drew ?_) | (with_reducible refine Fr.drewN ?_ _) | (with_reducible refine Fr.alloc ?_ _) | ((with_reducible refine Fr.setNew ?_ _ ?_ _); rotate_left; (focus (first | (with_reducible assumption) | exact Nat.le_of_lt (by with_reducible assumption) | (focus (simp +arith; done)) | exact Nat.le_trans (by with_reducible assumption) (by simp +arith; done) | (simp; done)))) | ((with_reducible refine Fr.setOld ?_ _ ?_ _); rotate_left; (focus (simp; done)))))))); (try simp only [Act.put, List.setIfInBounds_toArray, List.set_cons_zero, List.set_cons_succ, Nat.reduceAdd, Nat.zero_add])
        apply SeqV.cons; (focus (intro Vv bv wv hbv hdv hSv; have c1 := (hSv.cell (off := o1 + k) hb1).trans q1; go_wp2_with fail; exact StepPost.mk rfl (Fr.trans (S := []) hSv (by repeat' (first | (with_reducible exact Fr.refl _ _) | (with_reducible assumption) | (with_reducible refine Fr.drew ?_) | (with_reducible refine Fr.drewN ?_ _) | (with_reducible refine Fr.alloc ?_ _) | ((with_reducible refine Fr.setNew ?_ _ ?_ _); rotate_left; (focus (first | (with_reducible assumption) | exact Nat.le_of_lt (by with_reducible assumption) | (focus (simp +arith; done)) | exact Nat.le_trans (by with_reducible assumption) (by simp +arith; done) | (simp; done)))) | ((with_reducible refine Fr.setOld ?_ _ ?_ _); rotate_left; (focus (simp; done)))))))); (try simp only [Act.put, List.setIfInBounds_toArray, List.set_cons_zero, List.set_cons_succ, Nat.reduceAdd, Nat.zero_add])
        apply SeqV.cons; (focus (intro Vv bv wv hbv hdv hSv; skip; go_wp2_with fail; exact StepPost.mk rfl (Fr.trans (S := []) hSv (by repeat' (first | (with_reducible exact Fr.refl _ _) | (with_reducible assumption) | (with_reducible refine Fr.drew ?_) | (with_reducible refine Fr.drewN ?_ _) | (with_reducible refine Fr.alloc ?_ _) | ((with_reducible refine Fr.setNew ?_ _ ?_ _); rotate_left; (focus (first | (with_reducible assumption) | exact Nat.le_of_lt (by with_reducible assumption) | (focus (simp +arith; done)) | exact Nat.le_trans (by with_reducible assumption) (by simp +arith; done) | (simp; done)))) | ((with_reducible refine Fr.setOld ?_ _ ?_ _); rotate_left; (focus (simp; done)))))))); (try simp only [Act.put, List.setIfInBounds_toArray, List.set_cons_zero, List.set_cons_succ, Nat.reduceAdd, Nat.zero_add])
        apply SeqV.cons; (focus (intro Vv bv wv hbv hdv hSv; skip; go_wp2_with fail; exact StepPost.mk rfl (Fr.trans (S := []) hSv (by repeat' (first | (with_reducible exact Fr.refl _ _) | (with_reducible assumption) | (with_reducible refine Fr.drew ?_) | (with_reducible refine Fr.drewN ?_ _) | (with_reducible refine Fr.alloc ?_ _) | ((with_reducible refine Fr.setNew ?_ _ ?_ _); rotate_left; (focus (first | (with_reducible assumption) | exact Nat.le_of_lt (by with_reducible assumption) | (focus (simp +arith; done)) | exact Nat.le_trans (by with_reducible assumption) (by simp +arith; done) | (simp; done)))) | ((with_reducible refine Fr.setOld ?_ _ ?_ _); rotate_left; (focus (simp; done)))))))); (try simp only [Act.put, List.setIfInBounds_toArray, List.set_cons_zero, List.set_cons_succ, Nat.reduceAdd, Nat.zero_add])
        apply SeqV.cons; (focus (intro Vv bv wv hbv hdv hSv; skip; go_wp2_with fail; exact StepPost.mk rfl (Fr.trans (S := []) hSv (by repeat' (first | (with_reducible exact Fr.refl _ _) | (with_reducible assumption) | (with_reducible refine Fr.drew ?_) | (with_reducible refine Fr.drewN ?_ _) | (with_reducible refine Fr.alloc ?_ _) | ((with_reducible refine Fr.setNew ?_ _ ?_ _); rotate_left; (focus (first | (with_reducible assumption) | exact Nat.le_of_lt (by with_reducible assumption) | (focus (simp +arith; done)) | exact Nat.le_trans (by with_reducible assumption) (by simp +arith; done) | (simp; done)))) | ((with_reducible refine Fr.setOld ?_ _ ?_ _); rotate_left; (focus (simp; done)))))))); (try simp only [Act.put, List.setIfInBounds_toArray, List.set_cons_zero, List.set_cons_succ, Nat.reduceAdd, Nat.zero_add])
        apply SeqV.cons; (focus (intro Vv bv wv hbv hdv hSv; have c1 := (hSv.cell (off := o2 + k) hb2).trans q2; go_wp2_with fail; exact StepPost.mk rfl (Fr.trans (S := []) hSv (by repeat' (first | (with_reducible exact Fr.refl _ _) | (with_reducible assumption) | (with_reducible refine Fr.drew ?_) | (with_reducible refine Fr.drewN ?_ _) | (with_reducible refine Fr.alloc ?_ _) | ((with_reducible refine Fr.setNew ?_ _ ?_ _); rotate_left; (focus (first | (with_reducible assumption) | exact Nat.le_of_lt (by with_reducible assumption) | (focus (simp +arith; done)) | exact Nat.le_trans (by with_reducible assumption) (by simp +arith; done) | (simp; done)))) | ((with_reducible refine Fr.setOld ?_ _ ?_ _); rotate_left; (focus (simp; done)))))))); (try simp only [Act.put, List.setIfInBounds_toArray, List.set_cons_zero, List.set_cons_succ, Nat.reduceAdd, Nat.zero_add])
        apply SeqV.cons; (focus (intro Vv bv wv hbv hdv hSv; skip; go_wp2_with fail; exact StepPost.mk rfl (Fr.trans (S := []) hSv (by repeat' (first | (with_reducible exact Fr.refl _ _) | (with_reducible assumption) | (with_reducible refine Fr.drew ?_) | (with_reducible refine Fr.drewN ?_ _) | (with_reducible refine Fr.alloc ?_ _) | ((with_reducible refine Fr.setNew ?_ _ ?_ _); rotate_left; (focus (first | (with_reducible assumption) | exact Nat.le_of_lt (by with_reducible assumption) | (focus (simp +arith; done)) | exact Nat.le_trans (by with_reducible assumption) (by simp +arith; done) | (simp; done)))) | ((with_reducible refine Fr.setOld ?_ _ ?_ _); rotate_left; (focus (simp; done)))))))); (try simp only [Act.put, List.setIfInBounds_toArray, List.set_cons_zero, List.set_cons_succ, Nat.reduceAdd, Nat.zero_add])
        refine SeqV.nil ?_
        intro Vv bv w5 hb5 F5
        clear hb5
        by_cases hxy : x = y
        · have hxy' : (x != y) = false := by simp [hxy]
          have HX := Lib.hid (HS.out hxy)
          clear hxy
          go_wp2
          go_roundw
          case rel => exact ⟨k + 1, by go_num, by omega, HX.out, F5⟩
          case measure => simp [intOf]; omega
        · have hxy' : (x != y) = true := by simp [hxy]
          have HX := Lib.hid (HNE.out hxy)
          clear hxy
          go_wp2
          go_ret
          exact ⟨⟨false, rfl, by simpa using HX.out⟩, F5⟩
      · have hk' : k = xs.length := by omega
        have ht := HT.out
        rw [List.take_of_length_le (by omega), List.take_of_length_le (by have := HL.out; omega)] at ht
        have HX := Lib.hid ht
        clear ht
        subst hk'
        go_wp2
        go_ret
        exact ⟨⟨true, rfl, by simpa using HX.out⟩, F1⟩
  · have hl' : ((xs.length : Int) != ys.length) = true := by simp; omega
    have HL : Hid (xs ≠ ys) := fun h => hl (by rw [h])
    clear hl
    go_enter Tryd.func12, Tryd.ntmps12
    go_wp2_with fail
    go_ret
    exact ⟨⟨false, rfl, by simpa using HL.out⟩, Fr.refl _ _⟩

set_option maxRecDepth 100000 in
set_option maxHeartbeats 8000000 in
theorem rSame (p q : OpD) (A B : Option Addr) (ca cb : Nat) (hx : p.vs.length ≤ 1000000) (hy : q.vs.length ≤ 1000000) (w : World) (ha : ValsIn w A p.vs) (hb : ValsIn w B q.vs) :
    Calls Tryd.prog 13 #[opv p.k p.id p.f p.c A p.vs.length ca p.wl, opv q.k q.id q.f q.c B q.vs.length cb q.wl] w fun e w' => IffPost (p = q) w e w' := by
  have fol : Tryd.prog.follows .mixedOrders = true := by kernel_rfl
  obtain ⟨k, id, f, c, xs, wl⟩ := p
  obtain ⟨k', id', f', c', ys, wl'⟩ := q
  simp only at hx hy ha hb ⊢
  have hx' : (xs.length : Int) ≤ 1000000 := by omega
  have hy' : (ys.length : Int) ≤ 1000000 := by omega
  have HA := Lib.hid ha
  have HB := Lib.hid hb
  clear ha hb
  by_cases hh : k = k' ∧ id = id' ∧ f = f' ∧ c = c' ∧ wl = wl' ∧ xs.length = ys.length
  · obtain ⟨rfl, rfl, rfl, rfl, rfl, hl⟩ := hh
    have hl' : ((xs.length : Int) != ys.length) = false := by simp [hl]
    have HL := Lib.hid hl
    clear hl
    go_enter Tryd.func13, Tryd.ntmps13
    go_wp2_with fail
    refine wp_name (fun w5 f5 => ?_)
    apply f5.use (k := w.heap.size); (focus (repeat (first | (with_reducible assumption) | ((with_reducible refine heap_alloc_at ?_ _); first | (with_reducible rfl) | (focus (simp; done))) | (with_reducible apply heap_alloc_old) | ((with_reducible apply heap_set_other); (case hne => (first | (with_reducible assumption) | exact Nat.ne_of_lt (by with_reducible assumption) | exact Nat.ne_of_gt (by with_reducible assumption) | (focus (simp +arith; done)) | (simp; done)))) | (with_reducible apply heap_set_eq) | (with_reducible apply heap_drew_of) | (with_reducible apply heap_drewN_of)))); (focus (first | (simp; done) | (simp; assumption))); intro hg1 hc1 hz1 _ _ _ _ _; (try simp only [List.setIfInBounds_toArray, List.set_cons_zero, List.set_cons_succ] at hg1 hc1)
    apply f5.use (k := w.heap.size+1); (focus (repeat (first | (with_reducible assumption) | ((with_reducible refine heap_alloc_at ?_ _); first | (with_reducible rfl) | (focus (simp; done))) | (with_reducible apply heap_alloc_old) | ((with_reducible apply heap_set_other); (case hne => (first | (with_reducible assumption) | exact Nat.ne_of_lt (by with_reducible assumption) | exact Nat.ne_of_gt (by with_reducible assumption) | (focus (simp +arith; done)) | (simp; done)))) | (with_reducible apply heap_set_eq) | (with_reducible apply heap_drew_of) | (with_reducible apply heap_drewN_of)))); (focus (first | (simp; done) | (simp; assumption))); intro hg2 hc2 hz2 _ _ _ _ _; (try simp only [List.setIfInBounds_toArray, List.set_cons_zero, List.set_cons_succ] at hg2 hc2)
    have F5 : Fr [] w w5 := Fr.trans (S := []) (by repeat' (first | (with_reducible exact Fr.refl _ _) | (with_reducible assumption) | (with_reducible refine Fr.drew ?_) | (with_reducible refine Fr.drewN ?_ _) | (with_reducible refine Fr.alloc ?_ _) | ((with_reducible refine Fr.setNew ?_ _ ?_ _); rotate_left; (focus (first | (with_reducible assumption) | exact Nat.le_of_lt (by with_reducible assumption) | (focus (simp +arith; done)) | exact Nat.le_trans (by with_reducible assumption) (by simp +arith; done) | (simp; done)))) | ((with_reducible refine Fr.setOld ?_ _ ?_ _); rotate_left; (focus (simp; done))))) f5
    have hgp := Lib.hid hg1
    have hgq := Lib.hid hg2
    clear f5 hg1 hc1 hz1 hg2 hc2 hz2
    go_loopw [5] (fun i w' => ∃ j : Nat, i = .int .i64 j ∧ j ≤ xs.length ∧ xs.take j = ys.take j ∧ Fr [] w5 w') (fun i _ => xs.length - (intOf i).toNat)
    case atStart => exact ⟨0, rfl, by omega, by simp, Fr.refl _ _⟩
    case round =>
      obtain ⟨j, rfl, k1, ht, F1⟩ := hrel
      have HT := Lib.hid ht
      have gp := F1.heap hgp.out (by simp)
      have gq := F1.heap hgq.out (by simp)
      have F6 : Fr [] w wr := F5.trans F1
      clear ht
      by_cases hk : j < xs.length
      · have hk2 : j < ys.length := by have := HL.out; omega
        have hk2' : (j : Int) < ys.length := by omega
        rcases HA.out with hz | ⟨b1, o1, rfl, hb1, hc1⟩
        · simp [hz] at hk
        rcases HB.out with hz | ⟨b2, o2, rfl, hb2, hc2⟩
        · simp [hz] at hk2
        obtain ⟨q1, v0, v1⟩ := hc1 j xs[j] (by simp [hk])
        obtain ⟨q2, u0, u1⟩ := hc2 j ys[j] (by simp [hk2])
        have HS : Hid (xs[j] = ys[j] → xs.take (j + 1) = ys.take (j + 1)) := fun e => by
          rw [List.take_succ_eq_append_getElem hk, List.take_succ_eq_append_getElem hk2, HT.out, e]
        have HNE : Hid (xs[j] ≠ ys[j] → xs ≠ ys) := fun e h => by subst h; exact e rfl
        have Q1 := Lib.hid q1
        have Q2 := Lib.hid q2
        generalize xs[j] = x at *
        generalize ys[j] = y at *
        clear hc1 hc2 q1 q2
        apply blk_use gp; intro hg3 hc3 hz3 _ _ _ _ _
        apply blk_use gq; intro hg4 hc4 hz4 _ _ _ _ _
        go_wp2_with fail
        refine wp_region_seqV_lit (fun _ _ w' => Fr [] w5 w') fol (by kernel_rfl) F1.drew ?_
        apply SeqV.cons; (focus (intro Vv bv wv hbv hdv hSv; skip; go_wp2_with fail; exact StepPost.mk rfl (Fr.trans (S := []) hSv (by repeat' (first | (with_reducible exact Fr.refl _ _) | (with_reducible assumption) | (with_reducible refine Fr.drew ?_) | (with_reducible refine Fr.drewN ?_ _) | (with_reducible refine Fr.alloc ?_ _) | ((with_reducible refine Fr.setNew ?_ _ ?_ _); rotate_left; (focus (first | (with_reducible assumption) | exact Nat.le_of_lt (by with_reducible assumption) | (focus (simp +arith; done)) | exact Nat.le_trans (by with_reducible assumption) (by simp +arith; done) | (simp; done)))) | ((with_reducible refine Fr.setOld ?_ _ ?_ _); rotate_left; (focus (simp; done)))))))); (try simp only [Act.put, List.setIfInBounds_toArray, List.set_cons_zero, List.set_cons_succ, Nat.reduceAdd, Nat.zero_add])
        apply SeqV.cons; (focus (intro Vv bv wv hbv hdv hSv; have g1 := hSv.heap hgp.out (by simp); apply blk_use g1; intro hg21 hc21 hz21 _ _ _ _ _; go_wp2_with fail; exact StepPost.mk rfl (Fr.trans (S := []) hSv (by repeat' (first | (with_reducible exact Fr.refl _ _) | (with_reducible assumption) | (with_reducible refine Fr.drew ?_) | (with_reducible refine Fr.drewN ?_ _) | (with_reducible refine Fr.alloc ?_ _) | ((with_reducible refine Fr.setNew ?_ _ ?_ _); rotate_left; (focus (first | (with_reducible assumption) | exact Nat.le_of_lt (by with_reducible assumption) | (focus (simp +arith; done)) | exact Nat.le_trans (by with_reducible assumption) (by simp +arith; done) | (simp; done)))) | ((with_reducible refine Fr.setOld ?_ _ ?_ _); rotate_left; (focus (simp; done)))))))); (try simp only [Act.put, List.setIfInBounds_toArray, List.set_cons_zero, List.set_cons_succ, Nat.reduceAdd, Nat.zero_add])
        apply SeqV.cons; (focus (intro Vv bv wv hbv hdv hSv; skip; go_wp2_with fail; exact StepPost.mk rfl (Fr.trans (S := []) hSv (by repeat' (first | (with_reducible exact Fr.refl _ _) | (with_reducible assumption) | (with_reducible refine Fr.drew ?_) | (with_reducible refine Fr.drewN ?_ _) | (with_reducible refine Fr.alloc ?_ _) | ((with_reducible refine Fr.setNew ?_ _ ?_ _); rotate_left; (focus (first | (with_reducible assumption) | exact Nat.le_of_lt (by with_reducible assumption) | (focus (simp +arith; done)) | exact Nat.le_trans (by with_reducible assumption) (by simp +arith; done) | (simp; done)))) | ((with_reducible refine Fr.setOld ?_ _ ?_ _); rotate_left; (focus (simp; done)))))))); (try simp only [Act.put, List.setIfInBounds_toArray, List.set_cons_zero, List.set_cons_succ, Nat.reduceAdd, Nat.zero_add])
        apply SeqV.cons; (focus (intro Vv bv wv hbv hdv hSv; skip; go_wp2_with fail; exact StepPost.mk rfl (Fr.trans (S := []) hSv (by repeat' (first | (with_reducible exact Fr.refl _ _) | (with_reducible assumption) | (with_reducible refine Fr.drew ?_) | (with_reducible refine Fr.drewN ?_ _) | (with_reducible refine Fr.alloc ?_ _) | ((with_reducible refine Fr.setNew ?_ _ ?_ _); rotate_left; (focus (first | (with_reducible assumption) | exact Nat.le_of_lt (by with_reducible assumption) | (focus (simp +arith; done)) | exact Nat.le_trans (by with_reducible assumption) (by simp +arith; done) | (simp; done)))) | ((with_reducible refine Fr.setOld ?_ _ ?_ _); rotate_left; (focus (simp; done)))))))); (try simp only [Act.put, List.setIfInBounds_toArray, List.set_cons_zero, List.set_cons_succ, Nat.reduceAdd, Nat.zero_add])
        apply SeqV.cons; (focus (intro Vv bv wv hbv hdv hSv; have c1 := ((F5.trans hSv).cell (off := o1 + j) hb1).trans Q1.out; go_wp2_with fail; exact StepPost.mk rfl (Fr.trans (S := []) hSv (by repeat' (first | (with_reducible exact Fr.refl _ _) | (with_reducible assumption) | (with_reducible refine Fr.drew ?_) | (with_reducible refine Fr.drewN ?_ _) | (with_reducible refine Fr.alloc ?_ _) | ((with_reducible refine Fr.setNew ?_ _ ?_ _); rotate_left; (focus (first | (with_reducible assumption) | exact Nat.le_of_lt (by with_reducible assumption) | (focus (simp +arith; done)) | exact Nat.le_trans (by with_reducible assumption) (by simp +arith; done) | (simp; done)))) | ((with_reducible refine Fr.setOld ?_ _ ?_ _); rotate_left; (focus (simp; done)))))))); (try simp only [Act.put, List.setIfInBounds_toArray, List.set_cons_zero, List.set_cons_succ, Nat.reduceAdd, Nat.zero_add])
        apply SeqV.cons; (focus (intro Vv bv wv hbv hdv hSv; skip; go_wp2_with fail; exact StepPost.mk rfl (Fr.trans (S := []) hSv (by repeat' (first | (with_reducible exact Fr.refl _ _) | (with_reducible assumption) | (with_reducible refine Fr.drew ?_) | (with_reducible refine Fr.drewN ?_ _) | (with_reducible refine Fr.alloc ?_ _) | ((with_reducible refine Fr.setNew ?_ _ ?_ _); rotate_left; (focus (first | (with_reducible assumption) | exact Nat.le_of_lt (by with_reducible assumption) | (focus (simp +arith; done)) | exact Nat.le_trans (by with_reducible assumption) (by simp +arith; done) | (simp; done)))) | ((with_reducible refine Fr.setOld ?_ _ ?_ _); rotate_left; (focus (simp; done)))))))); (try simp only [Act.put, List.setIfInBounds_toArray, List.set_cons_zero, List.set_cons_succ, Nat.reduceAdd, Nat.zero_add])
        apply SeqV.cons; (focus (intro Vv bv wv hbv hdv hSv; have g1 := hSv.heap hgq.out (by simp); apply blk_use g1; intro hg21 hc21 hz21 _ _ _ _ _; go_wp2_with fail; exact StepPost.mk rfl (Fr.trans (S := []) hSv (by repeat' (first | (with_reducible exact Fr.refl _ _) | (with_reducible assumption) | (with_reducible refine Fr.drew ?_) | (with_reducible refine Fr.drewN ?_ _) | (with_reducible refine Fr.alloc ?_ _) | ((with_reducible refine Fr.setNew ?_ _ ?_ _); rotate_left; (focus (first | (with_reducible assumption) | exact Nat.le_of_lt (by with_reducible assumption) | (focus (simp +arith; done)) | exact Nat.le_trans (by with_reducible assumption) (by simp +arith; done) | (simp; done)))) | ((with_reducible refine Fr.setOld ?_ _ ?_ _); rotate_left; (focus (simp; done)))))))); (try simp only [Act.put, List.setIfInBounds_toArray, List.set_cons_zero, List.set_cons_succ, Nat.reduceAdd, Nat.zero_add])
        apply SeqV.cons; (focus (intro Vv bv wv hbv hdv hSv; skip; go_wp2_with fail; exact StepPost.mk rfl (Fr.trans (S := []) hSv (by repeat' (first | (with_reducible exact Fr.refl _ _) | (with_reducible assumption) | (with_reducible refine Fr.drew ?_) | (with_reducible refine Fr.drewN ?_ _) | (with_reducible refine Fr.alloc ?_ _) | ((with_reducible refine Fr.setNew ?_ _ ?_ _); rotate_left; (focus (first | (with_reducible assumption) | exact Nat.le_of_lt (by with_reducible assumption) | (focus (simp +arith; done)) | exact Nat.le_trans (by with_reducible assumption) (by simp +arith; done) | (simp; done)))) | ((with_reducible refine Fr.setOld ?_ _ ?_ _); rotate_left; (focus (simp; done)))))))); (try simp only [Act.put, List.setIfInBounds_toArray, List.set_cons_zero, List.set_cons_succ, Nat.reduceAdd, Nat.zero_add])
        apply SeqV.cons; (focus (intro Vv bv wv hbv hdv hSv; skip; go_wp2_with fail; exact StepPost.mk rfl (Fr.trans (S := []) hSv (by repeat' (first | (with_reducible exact Fr.refl _ _) | (with_reducible assumption) | (with_reducible refine Fr.drew ?_) | (with_reducible refine Fr.drewN ?_ _) | (with_reducible refine Fr.alloc ?_ _) | ((with_reducible refine Fr.setNew ?_ _ ?_ _); rotate_left; (focus (first | (with_reducible assumption) | exact Nat.le_of_lt (by with_reducible assumption) | (focus (simp +arith; done)) | exact Nat.le_trans (by with_reducible assumption) (by simp +arith; done) | (simp; done)))) | ((with_reducible refine Fr.setOld ?_ _ ?_ _); rotate_left; (focus (simp; done)))))))); (try simp only [Act.put, List.setIfInBounds_toArray, List.set_cons_zero, List.set_cons_succ, Nat.reduceAdd, Nat.zero_add])
        apply SeqV.cons; (focus (intro Vv bv wv hbv hdv hSv; have c1 := ((F5.trans hSv).cell (off := o2 + j) hb2).trans Q2.out; go_wp2_with fail; exact StepPost.mk rfl (Fr.trans (S := []) hSv (by repeat' (first | (with_reducible exact Fr.refl _ _) | (with_reducible assumption) | (with_reducible refine Fr.drew ?_) | (with_reducible refine Fr.drewN ?_ _) | (with_reducible refine Fr.alloc ?_ _) | ((with_reducible refine Fr.setNew ?_ _ ?_ _); rotate_left; (focus (first | (with_reducible assumption) | exact Nat.le_of_lt (by with_reducible assumption) | (focus (simp +arith; done)) | exact Nat.le_trans (by with_reducible assumption) (by simp +arith; done) | (simp; done)))) | ((with_reducible refine Fr.setOld ?_ _ ?_ _); rotate_left; (focus (simp; done)))))))); (try simp only [Act.put, List.setIfInBounds_toArray, List.set_cons_zero, List.set_cons_succ, Nat.reduceAdd, Nat.zero_add])
        apply SeqV.cons; (focus (intro Vv bv wv hbv hdv hSv; skip; go_wp2_with fail; exact StepPost.mk rfl (Fr.trans (S := []) hSv (by repeat' (first | (with_reducible exact Fr.refl _ _) | (with_reducible assumption) | (with_reducible refine Fr.drew ?_) | (with_reducible refine Fr.drewN ?_ _) | (with_reducible refine Fr.alloc ?_ _) | ((with_reducible refine Fr.setNew ?_ _ ?_ _); rotate_left; (focus (first | (with_reducible assumption) | exact Nat.le_of_lt (by with_reducible assumption) | (focus (simp +arith; done)) | exact Nat.le_trans (by with_reducible assumption) (by simp +arith; done) | (simp; done)))) | ((with_reducible refine Fr.setOld ?_ _ ?_ _); rotate_left; (focus (simp; done)))))))); (try simp only [Act.put, List.setIfInBounds_toArray, List.set_cons_zero, List.set_cons_succ, Nat.reduceAdd, Nat.zero_add])
        refine SeqV.nil ?_
        intro Vv bv w7 hb5 F7
        clear hb5
        by_cases hxy : x = y
        · have hxy' : (x != y) = false := by simp [hxy]
          have HX := Lib.hid (HS.out hxy)
          clear hxy
          go_wp2
          go_roundw
          case rel => exact ⟨j + 1, by go_num, by omega, HX.out, F7⟩
          case measure => simp [intOf]; omega
        · have hxy' : (x != y) = true := by simp [hxy]
          have HX := Lib.hid (HNE.out hxy)
          clear hxy
          go_wp2
          go_ret
          exact ⟨⟨false, rfl, by simpa using HX.out⟩, F5.trans F7⟩
      · have hk' : j = xs.length := by omega
        have ht := HT.out
        rw [List.take_of_length_le (by omega), List.take_of_length_le (by have := HL.out; omega)] at ht
        have HX := Lib.hid ht
        clear ht
        subst hk'
        apply blk_use gp; intro hg3 hc3 hz3 _ _ _ _ _
        apply blk_use gq; intro hg4 hc4 hz4 _ _ _ _ _
        go_wp2
        go_ret
        exact ⟨⟨true, rfl, by simpa using HX.out⟩, F6⟩
  · have HH := Lib.hid hh
    clear hh
    go_enter Tryd.func13, Tryd.ntmps13
    go_wp2_with fail
    all_goals
      first
      | (go_ret; exact ⟨⟨false, rfl, by simp only [OpD.mk.injEq, Bool.false_eq_true, false_iff]; intro h; obtain ⟨h1, h2, h3, h4, h5, h6⟩ := h; exact HH.out ⟨h1, h2, h3, h4, h6, by rw [h5]⟩⟩, (by repeat' (first | (with_reducible exact Fr.refl _ _) | (with_reducible assumption) | (with_reducible refine Fr.drew ?_) | (with_reducible refine Fr.drewN ?_ _) | (with_reducible refine Fr.alloc ?_ _) | ((with_reducible refine Fr.setNew ?_ _ ?_ _); rotate_left; (focus (first | (with_reducible assumption) | exact Nat.le_of_lt (by with_reducible assumption) | (focus (simp +arith; done)) | exact Nat.le_trans (by with_reducible assumption) (by simp +arith; done) | (simp; done)))) | ((with_reducible refine Fr.setOld ?_ _ ?_ _); rotate_left; (focus (simp; done)))))⟩)
      | (exfalso; exact HH.out ⟨by assumption, by assumption, by assumption, by assumption, by assumption, by have h := (by assumption : (((xs.length : Int) != ys.length) = false)); simp at h; omega⟩)

set_option maxRecDepth 100000 in
set_option maxHeartbeats 8000000 in
theorem rAnswer (p q : AnD) (A B : Option Addr) (ca cb : Nat) (hx : p.vs.length ≤ 1000000) (hy : q.vs.length ≤ 1000000) (w : World) (ha : ValsIn w A p.vs) (hb : ValsIn w B q.vs) :
    Calls Tryd.prog 25 #[anv p.id p.c A p.vs.length ca, anv q.id q.c B q.vs.length cb] w fun e w' => IffPost (p = q) w e w' := by
  have fol : Tryd.prog.follows .mixedOrders = true := by kernel_rfl
  obtain ⟨id, c, xs⟩ := p
  obtain ⟨id', c', ys⟩ := q
  simp only at hx hy ha hb ⊢
  have hx' : (xs.length : Int) ≤ 1000000 := by omega
  have hy' : (ys.length : Int) ≤ 1000000 := by omega
  have HA := Lib.hid ha
  have HB := Lib.hid hb
  clear ha hb
  by_cases hh : id = id' ∧ c = c' ∧ xs.length = ys.length
  · obtain ⟨rfl, rfl, hl⟩ := hh
    have hl' : ((xs.length : Int) != ys.length) = false := by simp [hl]
    have HL := Lib.hid hl
    clear hl
    go_enter Tryd.func25, Tryd.ntmps25
    go_wp2_with fail
    refine wp_name (fun w5 f5 => ?_)
    apply f5.use (k := w.heap.size); (focus (repeat (first | (with_reducible assumption) | ((with_reducible refine heap_alloc_at ?_ _); first | (with_reducible rfl) | (focus (simp; done))) | (with_reducible apply heap_alloc_old) | ((with_reducible apply heap_set_other); (case hne => (first | (with_reducible assumption) | exact Nat.ne_of_lt (by with_reducible assumption) | exact Nat.ne_of_gt (by with_reducible assumption) | (focus (simp +arith; done)) | (simp; done)))) | (with_reducible apply heap_set_eq) | (with_reducible apply heap_drew_of) | (with_reducible apply heap_drewN_of)))); (focus (first | (simp; done) | (simp; assumption))); intro hg1 hc1 hz1 _ _ _ _ _; (try simp only [List.setIfInBounds_toArray, List.set_cons_zero, List.set_cons_succ] at hg1 hc1)
    apply f5.use (k := w.heap.size+1); (focus (repeat (first | (with_reducible assumption) | ((with_reducible refine heap_alloc_at ?_ _); first | (with_reducible rfl) | (focus (simp; done))) | (with_reducible apply heap_alloc_old) | ((with_reducible apply heap_set_other); (case hne => (first | (with_reducible assumption) | exact Nat.ne_of_lt (by with_reducible assumption) | exact Nat.ne_of_gt (by with_reducible assumption) | (focus (simp +arith; done)) | (simp; done)))) | (with_reducible apply heap_set_eq) | (with_reducible apply heap_drew_of) | (with_reducible apply heap_drewN_of)))); (focus (first | (simp; done) | (simp; assumption))); intro hg2 hc2 hz2 _ _ _ _ _; (try simp only [List.setIfInBounds_toArray, List.set_cons_zero, List.set_cons_succ] at hg2 hc2)
    have F5 : Fr [] w w5 := Fr.trans (S := []) (by repeat' (first | (with_reducible exact Fr.refl _ _) | (with_reducible assumption) | (with_reducible refine Fr.drew ?_) | (with_reducible refine Fr.drewN ?_ _) | (with_reducible refine Fr.alloc ?_ _) | ((with_reducible refine Fr.setNew ?_ _ ?_ _); rotate_left; (focus (first | (with_reducible assumption) | exact Nat.le_of_lt (by with_reducible assumption) | (focus (simp +arith; done)) | exact Nat.le_trans (by with_reducible assumption) (by simp +arith; done) | (simp; done)))) | ((with_reducible refine Fr.setOld ?_ _ ?_ _); rotate_left; (focus (simp; done))))) f5
    have hgp := Lib.hid hg1
    have hgq := Lib.hid hg2
    clear f5 hg1 hc1 hz1 hg2 hc2 hz2
    go_loopw [5] (fun i w' => ∃ j : Nat, i = .int .i64 j ∧ j ≤ xs.length ∧ xs.take j = ys.take j ∧ Fr [] w5 w') (fun i _ => xs.length - (intOf i).toNat)
    case atStart => exact ⟨0, rfl, by omega, by simp, Fr.refl _ _⟩
    case round =>
      obtain ⟨j, rfl, k1, ht, F1⟩ := hrel
      have HT := Lib.hid ht
      have gp := F1.heap hgp.out (by simp)
      have gq := F1.heap hgq.out (by simp)
      have F6 : Fr [] w wr := F5.trans F1
      clear ht
      by_cases hk : j < xs.length
      · have hk2 : j < ys.length := by have := HL.out; omega
        have hk2' : (j : Int) < ys.length := by omega
        rcases HA.out with hz | ⟨b1, o1, rfl, hb1, hc1⟩
        · simp [hz] at hk
        rcases HB.out with hz | ⟨b2, o2, rfl, hb2, hc2⟩
        · simp [hz] at hk2
        obtain ⟨q1, v0, v1⟩ := hc1 j xs[j] (by simp [hk])
        obtain ⟨q2, u0, u1⟩ := hc2 j ys[j] (by simp [hk2])
        have HS : Hid (xs[j] = ys[j] → xs.take (j + 1) = ys.take (j + 1)) := fun e => by
          rw [List.take_succ_eq_append_getElem hk, List.take_succ_eq_append_getElem hk2, HT.out, e]
        have HNE : Hid (xs[j] ≠ ys[j] → xs ≠ ys) := fun e h => by subst h; exact e rfl
        have Q1 := Lib.hid q1
        have Q2 := Lib.hid q2
        generalize xs[j] = x at *
        generalize ys[j] = y at *
        clear hc1 hc2 q1 q2
        apply blk_use gp; intro hg3 hc3 hz3 _ _ _ _ _
        apply blk_use gq; intro hg4 hc4 hz4 _ _ _ _ _
        go_wp2_with fail
        refine wp_region_seqV_lit (fun _ _ w' => Fr [] w5 w') fol (by kernel_rfl) F1.drew ?_
        apply SeqV.cons; (focus (intro Vv bv wv hbv hdv hSv; skip; go_wp2_with fail; exact StepPost.mk rfl (Fr.trans (S := []) hSv (by repeat' (first | (with_reducible exact Fr.refl _ _) | (with_reducible assumption) | (with_reducible refine Fr.drew ?_) | (with_reducible refine Fr.drewN ?_ _) | (with_reducible refine Fr.alloc ?_ _) | ((with_reducible refine Fr.setNew ?_ _ ?_ _); rotate_left; (focus (first | (with_reducible assumption) | exact Nat.le_of_lt (by with_reducible assumption) | (focus (simp +arith; done)) | exact Nat.le_trans (by with_reducible assumption) (by simp +arith; done) | (simp; done)))) | ((with_reducible refine Fr.setOld ?_ _ ?_ _); rotate_left; (focus (simp; done)))))))); (try simp only [Act.put, List.setIfInBounds_toArray, List.set_cons_zero, List.set_cons_succ, Nat.reduceAdd, Nat.zero_add])
        apply SeqV.cons; (focus (intro Vv bv wv hbv hdv hSv; have g1 := hSv.heap hgp.out (by simp); apply blk_use g1; intro hg21 hc21 hz21 _ _ _ _ _; go_wp2_with fail; exact StepPost.mk rfl (Fr.trans (S := []) hSv (by repeat' (first | (with_reducible exact Fr.refl _ _) | (with_reducible assumption) | (with_reducible refine Fr.drew ?_) | (with_reducible refine Fr.drewN ?_ _) | (with_reducible refine Fr.alloc ?_ _) | ((with_reducible refine Fr.setNew ?_ _ ?_ _); rotate_left; (focus (first | (with_reducible assumption) | exact Nat.le_of_lt (by with_reducible assumption) | (focus (simp +arith; done)) | exact Nat.le_trans (by with_reducible assumption) (by simp +arith; done) | (simp; done)))) | ((with_reducible refine Fr.setOld ?_ _ ?_ _); rotate_left; (focus (simp; done)))))))); (try simp only [Act.put, List.setIfInBounds_toArray, List.set_cons_zero, List.set_cons_succ, Nat.reduceAdd, Nat.zero_add])
        apply SeqV.cons; (focus (intro Vv bv wv hbv hdv hSv; skip; go_wp2_with fail; exact StepPost.mk rfl (Fr.trans (S := []) hSv (by repeat' (first | (with_reducible exact Fr.refl _ _) | (with_reducible assumption) | (with_reducible refine Fr.drew ?_) | (with_reducible refine Fr.drewN ?_ _) | (with_reducible refine Fr.alloc ?_ _) | ((with_reducible refine Fr.setNew ?_ _ ?_ _); rotate_left; (focus (first | (with_reducible assumption) | exact Nat.le_of_lt (by with_reducible assumption) | (focus (simp +arith; done)) | exact Nat.le_trans (by with_reducible assumption) (by simp +arith; done) | (simp; done)))) | ((with_reducible refine Fr.setOld ?_ _ ?_ _); rotate_left; (focus (simp; done)))))))); (try simp only [Act.put, List.setIfInBounds_toArray, List.set_cons_zero, List.set_cons_succ, Nat.reduceAdd, Nat.zero_add])
        apply SeqV.cons; (focus (intro Vv bv wv hbv hdv hSv; skip; go_wp2_with fail; exact StepPost.mk rfl (Fr.trans (S := []) hSv (by repeat' (first | (with_reducible exact Fr.refl _ _) | (with_reducible assumption) | (with_reducible refine Fr.drew ?_) | (with_reducible refine Fr.drewN ?_ _) | (with_reducible refine Fr.alloc ?_ _) | ((with_reducible refine Fr.setNew ?_ _ ?_ _); rotate_left; (focus (first | (with_reducible assumption) | exact Nat.le_of_lt (by with_reducible assumption) | (focus (simp +arith; done)) | exact Nat.le_trans (by with_reducible assumption) (by simp +arith; done) | (simp; done)))) | ((with_reducible refine Fr.setOld ?_ _ ?_ _); rotate_left; (focus (simp; done)))))))); (try simp only [Act.put, List.setIfInBounds_toArray, List.set_cons_zero, List.set_cons_succ, Nat.reduceAdd, Nat.zero_add])
        apply SeqV.cons; (focus (intro Vv bv wv hbv hdv hSv; have c1 := ((F5.trans hSv).cell (off := o1 + j) hb1).trans Q1.out; go_wp2_with fail; exact StepPost.mk rfl (Fr.trans (S := []) hSv (by repeat' (first | (with_reducible exact Fr.refl _ _) | (with_reducible assumption) | (with_reducible refine Fr.drew ?_) | (with_reducible refine Fr.drewN ?_ _) | (with_reducible refine Fr.alloc ?_ _) | ((with_reducible refine Fr.setNew ?_ _ ?_ _); rotate_left; (focus (first | (with_reducible assumption) | exact Nat.le_of_lt (by with_reducible assumption) | (focus (simp +arith; done)) | exact Nat.le_trans (by with_reducible assumption) (by simp +arith; done) | (simp; done)))) | ((with_reducible refine Fr.setOld ?_ _ ?_ _); rotate_left; (focus (simp; done)))))))); (try simp only [Act.put, List.setIfInBounds_toArray, List.set_cons_zero, List.set_cons_succ, Nat.reduceAdd, Nat.zero_add])
        apply SeqV.cons; (focus (intro Vv bv wv hbv hdv hSv; skip; go_wp2_with fail; exact StepPost.mk rfl (Fr.trans (S := []) hSv (by repeat' (first | (with_reducible exact Fr.refl _ _) | (with_reducible assumption) | (with_reducible refine Fr.drew ?_) | (with_reducible refine Fr.drewN ?_ _) | (with_reducible refine Fr.alloc ?_ _) | ((with_reducible refine Fr.setNew ?_ _ ?_ _); rotate_left; (focus (first | (with_reducible assumption) | exact Nat.le_of_lt (by with_reducible assumption) | (focus (simp +arith; done)) | exact Nat.le_trans (by with_reducible assumption) (by simp +arith; done) | (simp; done)))) | ((with_reducible refine Fr.setOld ?_ _ ?_ _); rotate_left; (focus (simp; done)))))))); (try simp only [Act.put, List.setIfInBounds_toArray, List.set_cons_zero, List.set_cons_succ, Nat.reduceAdd, Nat.zero_add])
        apply SeqV.cons; (focus (intro Vv bv wv hbv hdv hSv; have g1 := hSv.heap hgq.out (by simp); apply blk_use g1; intro hg21 hc21 hz21 _ _ _ _ _; go_wp2_with fail; exact StepPost.mk rfl (Fr.trans (S := []) hSv (by repeat' (first | (with_reducible exact Fr.refl _ _) | (with_reducible assumption) | (with_reducible refine Fr.drew ?_) | (with_reducible refine Fr.drewN ?_ _) | (with_reducible refine Fr.alloc ?_ _) | ((with_reducible refine Fr.setNew ?_ _ ?_ _); rotate_left; (focus (first | (with_reducible assumption) | exact Nat.le_of_lt (by with_reducible assumption) | (focus (simp +arith; done)) | exact Nat.le_trans (by with_reducible assumption) (by simp +arith; done) | (simp; done)))) | ((with_reducible refine Fr.setOld ?_ _ ?_ _); rotate_left; (focus (simp; done)))))))); (try simp only [Act.put, List.setIfInBounds_toArray, List.set_cons_zero, List.set_cons_succ, Nat.reduceAdd, Nat.zero_add])
        apply SeqV.cons; (focus (intro Vv bv wv hbv hdv hSv; skip; go_wp2_with fail; exact StepPost.mk rfl (Fr.trans (S := []) hSv (by repeat' (first | (with_reducible exact Fr.refl _ _) | (with_reducible assumption) | (with_reducible refine Fr.drew ?_) | (with_reducible refine Fr.drewN ?_ _) | (with_reducible refine Fr.alloc ?_ _) | ((with_reducible refine Fr.setNew ?_ _ ?_ _); rotate_left; (focus (first | (with_reducible assumption) | exact Nat.le_of_lt (by with_reducible assumption) | (focus (simp +arith; done)) | exact Nat.le_trans (by with_reducible assumption) (by simp +arith; done) | (simp; done)))) | ((with_reducible refine Fr.setOld ?_ _ ?_ _); rotate_left; (focus (simp; done)))))))); (try simp only [Act.put, List.setIfInBounds_toArray, List.set_cons_zero, List.set_cons_succ, Nat.reduceAdd, Nat.zero_add])
        apply SeqV.cons; (focus (intro Vv bv wv hbv hdv hSv; skip; go_wp2_with fail; exact StepPost.mk rfl (Fr.trans (S := []) hSv (by repeat' (first | (with_reducible exact Fr.refl _ _) | (with_reducible assumption) | (with_reducible refine Fr.drew ?_) | (with_reducible refine Fr.drewN ?_ _) | (with_reducible refine Fr.alloc ?_ _) | ((with_reducible refine Fr.setNew ?_ _ ?_ _); rotate_left; (focus (first | (with_reducible assumption) | exact Nat.le_of_lt (by with_reducible assumption) | (focus (simp +arith; done)) | exact Nat.le_trans (by with_reducible assumption) (by simp +arith; done) | (simp; done)))) | ((with_reducible refine Fr.setOld ?_ _ ?_ _); rotate_left; (focus (simp; done)))))))); (try simp only [Act.put, List.setIfInBounds_toArray, List.set_cons_zero, List.set_cons_succ, Nat.reduceAdd, Nat.zero_add])
        apply SeqV.cons; (focus (intro Vv bv wv hbv hdv hSv; have c1 := ((F5.trans hSv).cell (off := o2 + j) hb2).trans Q2.out; go_wp2_with fail; exact StepPost.mk rfl (Fr.trans (S := []) hSv (by repeat' (first | (with_reducible exact Fr.refl _ _) | (with_reducible assumption) | (with_reducible refine Fr.drew ?_) | (with_reducible refine Fr.drewN ?_ _) | (with_reducible refine Fr.alloc ?_ _) | ((with_reducible refine Fr.setNew ?_ _ ?_ _); rotate_left; (focus (first | (with_reducible assumption) | exact Nat.le_of_lt (by with_reducible assumption) | (focus (simp +arith; done)) | exact Nat.le_trans (by with_reducible assumption) (by simp +arith; done) | (simp; done)))) | ((with_reducible refine Fr.setOld ?_ _ ?_ _); rotate_left; (focus (simp; done)))))))); (try simp only [Act.put, List.setIfInBounds_toArray, List.set_cons_zero, List.set_cons_succ, Nat.reduceAdd, Nat.zero_add])
        apply SeqV.cons; (focus (intro Vv bv wv hbv hdv hSv; skip; go_wp2_with fail; exact StepPost.mk rfl (Fr.trans (S := []) hSv (by repeat' (first | (with_reducible exact Fr.refl _ _) | (with_reducible assumption) | (with_reducible refine Fr.drew ?_) | (with_reducible refine Fr.drewN ?_ _) | (with_reducible refine Fr.alloc ?_ _) | ((with_reducible refine Fr.setNew ?_ _ ?_ _); rotate_left; (focus (first | (with_reducible assumption) | exact Nat.le_of_lt (by with_reducible assumption) | (focus (simp +arith; done)) | exact Nat.le_trans (by with_reducible assumption) (by simp +arith; done) | (simp; done)))) | ((with_reducible refine Fr.setOld ?_ _ ?_ _); rotate_left; (focus (simp; done)))))))); (try simp only [Act.put, List.setIfInBounds_toArray, List.set_cons_zero, List.set_cons_succ, Nat.reduceAdd, Nat.zero_add])
        refine SeqV.nil ?_
        intro Vv bv w7 hb5 F7
        clear hb5
        by_cases hxy : x = y
        · have hxy' : (x != y) = false := by simp [hxy]
          have HX := Lib.hid (HS.out hxy)
          clear hxy
          go_wp2
          go_roundw
          case rel => exact ⟨j + 1, by go_num, by omega, HX.out, F7⟩
          case measure => simp [intOf]; omega
        · have hxy' : (x != y) = true := by simp [hxy]
          have HX := Lib.hid (HNE.out hxy)
          clear hxy
          go_wp2
          go_ret
          exact ⟨⟨false, rfl, by simpa using HX.out⟩, F5.trans F7⟩
      · have hk' : j = xs.length := by omega
        have ht := HT.out
        rw [List.take_of_length_le (by omega), List.take_of_length_le (by have := HL.out; omega)] at ht
        have HX := Lib.hid ht
        clear ht
        subst hk'
        apply blk_use gp; intro hg3 hc3 hz3 _ _ _ _ _
        apply blk_use gq; intro hg4 hc4 hz4 _ _ _ _ _
        go_wp2
        go_ret
        exact ⟨⟨true, rfl, by simpa using HX.out⟩, F6⟩
  · have HH := Lib.hid hh
    clear hh
    go_enter Tryd.func25, Tryd.ntmps25
    go_wp2_with fail
    all_goals
      first
      | (go_ret; exact ⟨⟨false, rfl, by simp only [AnD.mk.injEq, Bool.false_eq_true, false_iff]; intro h; obtain ⟨h1, h2, h3⟩ := h; exact HH.out ⟨h1, h2, by rw [h3]⟩⟩, (by repeat' (first | (with_reducible exact Fr.refl _ _) | (with_reducible assumption) | (with_reducible refine Fr.drew ?_) | (with_reducible refine Fr.drewN ?_ _) | (with_reducible refine Fr.alloc ?_ _) | ((with_reducible refine Fr.setNew ?_ _ ?_ _); rotate_left; (focus (first | (with_reducible assumption) | exact Nat.le_of_lt (by with_reducible assumption) | (focus (simp +arith; done)) | exact Nat.le_trans (by with_reducible assumption) (by simp +arith; done) | (simp; done)))) | ((with_reducible refine Fr.setOld ?_ _ ?_ _); rotate_left; (focus (simp; done)))))⟩)
      | (exfalso; exact HH.out ⟨by assumption, by assumption, by have h := (by assumption : (((xs.length : Int) != ys.length) = false)); simp at h; omega⟩)

set_option maxRecDepth 100000 in
set_option maxHeartbeats 8000000 in
theorem rOps (va vb : Value) (xs ys : List OpD) (hx : xs.length ≤ 1000000) (hvx : ∀ o ∈ xs, o.vs.length ≤ 1000000) (hvy : ∀ o ∈ ys, o.vs.length ≤ 1000000) (w : World) (ha : OpsR w va xs) (hb : OpsR w vb ys) :
    Calls Tryd.prog 20 #[va, vb] w fun e w' => IffPost (xs = ys) w e w' := by
  have fol : Tryd.prog.follows .mixedOrders = true := by kernel_rfl
  obtain ⟨A, ca, rfl, hca, NA⟩ := ha
  obtain ⟨B, cb, rfl, hcb, NB⟩ := hb
  have hx' : (xs.length : Int) ≤ 1000000 := by omega
  have HA := Lib.hid NA
  have HB := Lib.hid NB
  have HVX := Lib.hid hvx
  have HVY := Lib.hid hvy
  clear NA NB hvx hvy
  by_cases hl : xs.length = ys.length
  · have hl' : ((xs.length : Int) != ys.length) = false := by simp [hl]
    have HL := Lib.hid hl
    clear hl
    go_enter Tryd.func20, Tryd.ntmps20
    go_wp2_with fail
    go_loopw [5] (fun i w' => ∃ k : Nat, i = .int .i64 k ∧ k ≤ xs.length ∧ xs.take k = ys.take k ∧ Fr [] w w') (fun i _ => xs.length - (intOf i).toNat)
    case atStart => exact ⟨0, rfl, by omega, by simp, Fr.refl _ _⟩
    case round =>
      obtain ⟨k, rfl, k1, ht, F1⟩ := hrel
      have HT := Lib.hid ht
      clear ht
      by_cases hk : k < xs.length
      · have hk2 : k < ys.length := by have := HL.out; omega
        have hk2' : (k : Int) < ys.length := by omega
        rcases HA.out with hz | ⟨b1, o1, rfl, hb1, hc1⟩
        · simp [hz] at hk
        rcases HB.out with hz | ⟨b2, o2, rfl, hb2, hc2⟩
        · simp [hz] at hk2
        obtain ⟨x1, q1, n1⟩ := hc1 k xs[k] (by simp [hk])
        obtain ⟨x2, q2, n2⟩ := hc2 k ys[k] (by simp [hk2])
        have HS : Hid (xs[k] = ys[k] → xs.take (k + 1) = ys.take (k + 1)) := fun e => by
          rw [List.take_succ_eq_append_getElem hk, List.take_succ_eq_append_getElem hk2, HT.out, e]
        have HNE : Hid (xs[k] ≠ ys[k] → xs ≠ ys) := fun e h => by subst h; exact e rfl
        have l1 := HVX.out xs[k] (List.getElem_mem hk)
        have l2 := HVY.out ys[k] (List.getElem_mem hk2)
        have Q1 := Lib.hid q1
        have Q2 := Lib.hid q2
        have N1 := Lib.hid n1
        have N2 := Lib.hid n2
        generalize xs[k] = x at *
        generalize ys[k] = y at *
        clear hc1 hc2 q1 q2 n1 n2
        go_wp2_with fail
        obtain ⟨β, hβ⟩ : ∃ β : Bool, (β = true ↔ x = y) := by
          by_cases h : x = y
          · exact ⟨true, by simp [h]⟩
          · exact ⟨false, by simp [h]⟩
        have HBT := Lib.hid hβ
        clear hβ
        refine wp_region_seqV_lit (fun b V w' => Fr [] w w') fol (by kernel_rfl) F1.drew ?_
        apply SeqV.cons; (focus (intro Vv bv wv hbv hdv hSv; skip; go_wp2_with fail; exact StepPost.mk rfl (Fr.trans (S := []) hSv (by repeat' (first | (with_reducible exact Fr.refl _ _) | (with_reducible assumption) | (with_reducible refine Fr.drew ?_) | (with_reducible refine Fr.drewN ?_ _) | (with_reducible refine Fr.alloc ?_ _) | ((with_reducible refine Fr.setNew ?_ _ ?_ _); rotate_left; (focus (first | (with_reducible assumption) | exact Nat.le_of_lt (by with_reducible assumption) | (focus (simp +arith; done)) | exact Nat.le_trans (by with_reducible assumption) (by simp +arith; done) | (simp; done)))) | ((with_reducible refine Fr.setOld ?_ _ ?_ _); rotate_left; (focus (simp; done)))))))); (try simp only [Act.put, List.setIfInBounds_toArray, List.set_cons_zero, List.set_cons_succ, Nat.reduceAdd, Nat.zero_add])
        apply SeqV.cons; (focus (intro Vv bv wv hbv hdv hSv; skip; go_wp2_with fail; exact StepPost.mk rfl (Fr.trans (S := []) hSv (by repeat' (first | (with_reducible exact Fr.refl _ _) | (with_reducible assumption) | (with_reducible refine Fr.drew ?_) | (with_reducible refine Fr.drewN ?_ _) | (with_reducible refine Fr.alloc ?_ _) | ((with_reducible refine Fr.setNew ?_ _ ?_ _); rotate_left; (focus (first | (with_reducible assumption) | exact Nat.le_of_lt (by with_reducible assumption) | (focus (simp +arith; done)) | exact Nat.le_trans (by with_reducible assumption) (by simp +arith; done) | (simp; done)))) | ((with_reducible refine Fr.setOld ?_ _ ?_ _); rotate_left; (focus (simp; done)))))))); (try simp only [Act.put, List.setIfInBounds_toArray, List.set_cons_zero, List.set_cons_succ, Nat.reduceAdd, Nat.zero_add])
        apply SeqV.cons; (focus (intro Vv bv wv hbv hdv hSv; skip; go_wp2_with fail; exact StepPost.mk rfl (Fr.trans (S := []) hSv (by repeat' (first | (with_reducible exact Fr.refl _ _) | (with_reducible assumption) | (with_reducible refine Fr.drew ?_) | (with_reducible refine Fr.drewN ?_ _) | (with_reducible refine Fr.alloc ?_ _) | ((with_reducible refine Fr.setNew ?_ _ ?_ _); rotate_left; (focus (first | (with_reducible assumption) | exact Nat.le_of_lt (by with_reducible assumption) | (focus (simp +arith; done)) | exact Nat.le_trans (by with_reducible assumption) (by simp +arith; done) | (simp; done)))) | ((with_reducible refine Fr.setOld ?_ _ ?_ _); rotate_left; (focus (simp; done)))))))); (try simp only [Act.put, List.setIfInBounds_toArray, List.set_cons_zero, List.set_cons_succ, Nat.reduceAdd, Nat.zero_add])
        apply SeqV.cons; (focus (intro Vv bv wv hbv hdv hSv; have c0 := (hSv.cell (off := o1 + k * 6 + 0) hb1).trans (Q1.out 0 _ rfl); have c1 := (hSv.cell (off := o1 + k * 6 + 1) hb1).trans (Q1.out 1 _ rfl); have c2 := (hSv.cell (off := o1 + k * 6 + 2) hb1).trans (Q1.out 2 _ rfl); have c3 := (hSv.cell (off := o1 + k * 6 + 3) hb1).trans (Q1.out 3 _ rfl); have c4 := (hSv.cell (off := o1 + k * 6 + 4) hb1).trans (Q1.out 4 _ rfl); have c5 := (hSv.cell (off := o1 + k * 6 + 5) hb1).trans (Q1.out 5 _ rfl); simp only [Nat.add_zero] at c0; go_wp2_with fail; exact StepPost.mk rfl (Fr.trans (S := []) hSv (by repeat' (first | (with_reducible exact Fr.refl _ _) | (with_reducible assumption) | (with_reducible refine Fr.drew ?_) | (with_reducible refine Fr.drewN ?_ _) | (with_reducible refine Fr.alloc ?_ _) | ((with_reducible refine Fr.setNew ?_ _ ?_ _); rotate_left; (focus (first | (with_reducible assumption) | exact Nat.le_of_lt (by with_reducible assumption) | (focus (simp +arith; done)) | exact Nat.le_trans (by with_reducible assumption) (by simp +arith; done) | (simp; done)))) | ((with_reducible refine Fr.setOld ?_ _ ?_ _); rotate_left; (focus (simp; done)))))))); (try simp only [Act.put, List.setIfInBounds_toArray, List.set_cons_zero, List.set_cons_succ, Nat.reduceAdd, Nat.zero_add])
        apply SeqV.cons; (focus (intro Vv bv wv hbv hdv hSv; skip; go_wp2_with fail; exact StepPost.mk rfl (Fr.trans (S := []) hSv (by repeat' (first | (with_reducible exact Fr.refl _ _) | (with_reducible assumption) | (with_reducible refine Fr.drew ?_) | (with_reducible refine Fr.drewN ?_ _) | (with_reducible refine Fr.alloc ?_ _) | ((with_reducible refine Fr.setNew ?_ _ ?_ _); rotate_left; (focus (first | (with_reducible assumption) | exact Nat.le_of_lt (by with_reducible assumption) | (focus (simp +arith; done)) | exact Nat.le_trans (by with_reducible assumption) (by simp +arith; done) | (simp; done)))) | ((with_reducible refine Fr.setOld ?_ _ ?_ _); rotate_left; (focus (simp; done)))))))); (try simp only [Act.put, List.setIfInBounds_toArray, List.set_cons_zero, List.set_cons_succ, Nat.reduceAdd, Nat.zero_add])
        apply SeqV.cons; (focus (intro Vv bv wv hbv hdv hSv; skip; go_wp2_with fail; exact StepPost.mk rfl (Fr.trans (S := []) hSv (by repeat' (first | (with_reducible exact Fr.refl _ _) | (with_reducible assumption) | (with_reducible refine Fr.drew ?_) | (with_reducible refine Fr.drewN ?_ _) | (with_reducible refine Fr.alloc ?_ _) | ((with_reducible refine Fr.setNew ?_ _ ?_ _); rotate_left; (focus (first | (with_reducible assumption) | exact Nat.le_of_lt (by with_reducible assumption) | (focus (simp +arith; done)) | exact Nat.le_trans (by with_reducible assumption) (by simp +arith; done) | (simp; done)))) | ((with_reducible refine Fr.setOld ?_ _ ?_ _); rotate_left; (focus (simp; done)))))))); (try simp only [Act.put, List.setIfInBounds_toArray, List.set_cons_zero, List.set_cons_succ, Nat.reduceAdd, Nat.zero_add])
        apply SeqV.cons; (focus (intro Vv bv wv hbv hdv hSv; skip; go_wp2_with fail; exact StepPost.mk rfl (Fr.trans (S := []) hSv (by repeat' (first | (with_reducible exact Fr.refl _ _) | (with_reducible assumption) | (with_reducible refine Fr.drew ?_) | (with_reducible refine Fr.drewN ?_ _) | (with_reducible refine Fr.alloc ?_ _) | ((with_reducible refine Fr.setNew ?_ _ ?_ _); rotate_left; (focus (first | (with_reducible assumption) | exact Nat.le_of_lt (by with_reducible assumption) | (focus (simp +arith; done)) | exact Nat.le_trans (by with_reducible assumption) (by simp +arith; done) | (simp; done)))) | ((with_reducible refine Fr.setOld ?_ _ ?_ _); rotate_left; (focus (simp; done)))))))); (try simp only [Act.put, List.setIfInBounds_toArray, List.set_cons_zero, List.set_cons_succ, Nat.reduceAdd, Nat.zero_add])
        apply SeqV.cons; (focus (intro Vv bv wv hbv hdv hSv; have c0 := (hSv.cell (off := o2 + k * 6 + 0) hb2).trans (Q2.out 0 _ rfl); have c1 := (hSv.cell (off := o2 + k * 6 + 1) hb2).trans (Q2.out 1 _ rfl); have c2 := (hSv.cell (off := o2 + k * 6 + 2) hb2).trans (Q2.out 2 _ rfl); have c3 := (hSv.cell (off := o2 + k * 6 + 3) hb2).trans (Q2.out 3 _ rfl); have c4 := (hSv.cell (off := o2 + k * 6 + 4) hb2).trans (Q2.out 4 _ rfl); have c5 := (hSv.cell (off := o2 + k * 6 + 5) hb2).trans (Q2.out 5 _ rfl); simp only [Nat.add_zero] at c0; go_wp2_with fail; exact StepPost.mk rfl (Fr.trans (S := []) hSv (by repeat' (first | (with_reducible exact Fr.refl _ _) | (with_reducible assumption) | (with_reducible refine Fr.drew ?_) | (with_reducible refine Fr.drewN ?_ _) | (with_reducible refine Fr.alloc ?_ _) | ((with_reducible refine Fr.setNew ?_ _ ?_ _); rotate_left; (focus (first | (with_reducible assumption) | exact Nat.le_of_lt (by with_reducible assumption) | (focus (simp +arith; done)) | exact Nat.le_trans (by with_reducible assumption) (by simp +arith; done) | (simp; done)))) | ((with_reducible refine Fr.setOld ?_ _ ?_ _); rotate_left; (focus (simp; done)))))))); (try simp only [Act.put, List.setIfInBounds_toArray, List.set_cons_zero, List.set_cons_succ, Nat.reduceAdd, Nat.zero_add])
        apply SeqV.cons (v := .bool β)
        focus
          intro Vv bv wv hbv hdv hSv
          go_wp2_with fail
          refine (rSame x y x1.1 x2.1 x1.2 x2.2 l1 l2 _ ((N1.out.fr hSv (Nat.le_refl _) (by simp)).up hSv.size) ((N2.out.fr hSv (Nat.le_refl _) (by simp)).up hSv.size)).mono ?_
          rintro e w9 ⟨⟨β', rfl, hβ'⟩, f9⟩
          obtain rfl : β' = β := by
            have h2 := HBT.out
            cases β <;> cases β' <;> simp_all
          clear hβ'
          go_wp2_with fail
          exact StepPost.mk rfl (hSv.trans f9)
        (try simp only [Act.put, List.setIfInBounds_toArray, List.set_cons_zero, List.set_cons_succ, Nat.reduceAdd, Nat.zero_add])
        apply SeqV.cons; (focus (intro Vv bv wv hbv hdv hSv; skip; go_wp2_with fail; exact StepPost.mk rfl (Fr.trans (S := []) hSv (by repeat' (first | (with_reducible exact Fr.refl _ _) | (with_reducible assumption) | (with_reducible refine Fr.drew ?_) | (with_reducible refine Fr.drewN ?_ _) | (with_reducible refine Fr.alloc ?_ _) | ((with_reducible refine Fr.setNew ?_ _ ?_ _); rotate_left; (focus (first | (with_reducible assumption) | exact Nat.le_of_lt (by with_reducible assumption) | (focus (simp +arith; done)) | exact Nat.le_trans (by with_reducible assumption) (by simp +arith; done) | (simp; done)))) | ((with_reducible refine Fr.setOld ?_ _ ?_ _); rotate_left; (focus (simp; done)))))))); (try simp only [Act.put, List.setIfInBounds_toArray, List.set_cons_zero, List.set_cons_succ, Nat.reduceAdd, Nat.zero_add])
        refine SeqV.nil ?_
        intro Vv bv w5 hb5 F5
        clear hb5
        cases β
        · have hne : x ≠ y := by have := HBT.out; simpa using this
          have HX := Lib.hid (HNE.out hne)
          clear hne HBT
          go_wp2
          go_ret
          exact ⟨⟨false, rfl, by simpa using HX.out⟩, F5⟩
        · have heq : x = y := HBT.out.1 rfl
          have HX := Lib.hid (HS.out heq)
          clear heq HBT
          go_wp2
          go_roundw
          case rel => exact ⟨k + 1, by go_num, by omega, HX.out, F5⟩
          case measure => simp [intOf]; omega
      · have hk' : k = xs.length := by omega
        have ht := HT.out
        rw [List.take_of_length_le (by omega), List.take_of_length_le (by have := HL.out; omega)] at ht
        have HX := Lib.hid ht
        clear ht
        subst hk'
        go_wp2
        go_ret
        exact ⟨⟨true, rfl, by simpa using HX.out⟩, F1⟩
  · have hl' : ((xs.length : Int) != ys.length) = true := by simp; omega
    have HL : Hid (xs ≠ ys) := fun h => hl (by rw [h])
    clear hl
    go_enter Tryd.func20, Tryd.ntmps20
    go_wp2_with fail
    go_ret
    exact ⟨⟨false, rfl, by simpa using HL.out⟩, Fr.refl _ _⟩

end Go.Proofs.YtoebfpimojkamaaDoor
