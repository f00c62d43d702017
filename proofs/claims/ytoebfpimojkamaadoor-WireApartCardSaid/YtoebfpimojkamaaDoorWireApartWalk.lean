/- WireApart answers true at every two operations, and changes nothing that was there. -/
import Derived.Test.YtoebfpimojkamaaDoorWireReadsWalk
import Derived.Test.YtoebfpimojkamaaDoorReg6
namespace Go.Proofs.YtoebfpimojkamaaDoor
open Go.RowKit

theorem putO_inj {x y : OpD} {xs ys : List Int} (hx : putO x = some xs) (hy : putO y = some ys) (vx : valOk x.vs) (vy : valOk y.vs) : (xs = ys) ↔ (x = y) := by
  constructor
  · rintro rfl
    have h1 := readS_put hx vx []
    have h2 := readS_put hy vy []
    rw [h1] at h2
    exact (Prod.mk.inj (Option.some.inj h2)).1
  · rintro rfl
    rw [hx] at hy
    exact Option.some.inj hy

set_option maxRecDepth 100000 in
set_option maxHeartbeats 16000000 in
theorem wireApart_walk (g : Addr) (x y : OpD) (A B : Option Addr) (ca cb : Nat) (hvm : x.vs.length ≤ maxLen) (hum : y.vs.length ≤ maxLen) (w : World) (hv : ValsAt w A x.vs) (hu : ValsAt w B y.vs) (hG : Gl w g) :
    Calls Tryd.prog 3 #[opv x.k x.id x.f x.c A x.vs.length ca x.wl, opv y.k y.id y.f y.c B y.vs.length cb y.wl] w fun e w' => e = .returned (.bool true) ∧ Fr [] w w' := by
  have hvm' : (x.vs.length : Int) ≤ 9223372036854775807 := by simp [maxLen] at hvm; omega
  have hum' : (y.vs.length : Int) ≤ 9223372036854775807 := by simp [maxLen] at hum; omega
  have fol : Tryd.prog.follows .mixedOrders = true := by kernel_rfl
  have HG := Lib.hid hG
  have HV := Lib.hid hv
  have HU := Lib.hid hu
  clear hvm hum hG hv hu
  go_enter Tryd.func3, Tryd.ntmps3
  go_wp2_with fail
  refine (wawake g _ (Gl.fr (S := []) HG.out (by repeat' (first | (with_reducible exact Fr.refl _ _) | (with_reducible assumption) | (with_reducible refine Fr.drew ?_) | (with_reducible refine Fr.drewN ?_ _) | (with_reducible refine Fr.alloc ?_ _) | ((with_reducible refine Fr.setNew ?_ _ ?_ _); rotate_left; (focus (first | (with_reducible assumption) | exact Nat.le_of_lt (by with_reducible assumption) | (focus (simp +arith; done)) | exact Nat.le_trans (by with_reducible assumption) (by simp +arith; done) | (simp; done)))) | ((with_reducible refine Fr.setOld ?_ _ ?_ _); rotate_left; (focus (simp; done))))) (by simp))).mono ?_
  rintro e w1 ⟨rfl, f1⟩
  apply f1.use (k := w.heap.size); (focus (repeat (first | (with_reducible assumption) | ((with_reducible refine heap_alloc_at ?_ _); first | (with_reducible rfl) | (focus (simp; done))) | (with_reducible apply heap_alloc_old) | ((with_reducible apply heap_set_other); (case hne => (first | (with_reducible assumption) | exact Nat.ne_of_lt (by with_reducible assumption) | exact Nat.ne_of_gt (by with_reducible assumption) | (focus (simp +arith; done)) | (simp; done)))) | (with_reducible apply heap_set_eq) | (with_reducible apply heap_drew_of) | (with_reducible apply heap_drewN_of)))); (focus (first | (simp; done) | (simp; assumption))); intro hg1 hc1 hz1 _ _ _ _ _; (try simp only [List.setIfInBounds_toArray, List.set_cons_zero, List.set_cons_succ] at hg1 hc1)
  apply f1.use (k := w.heap.size+1); (focus (repeat (first | (with_reducible assumption) | ((with_reducible refine heap_alloc_at ?_ _); first | (with_reducible rfl) | (focus (simp; done))) | (with_reducible apply heap_alloc_old) | ((with_reducible apply heap_set_other); (case hne => (first | (with_reducible assumption) | exact Nat.ne_of_lt (by with_reducible assumption) | exact Nat.ne_of_gt (by with_reducible assumption) | (focus (simp +arith; done)) | (simp; done)))) | (with_reducible apply heap_set_eq) | (with_reducible apply heap_drew_of) | (with_reducible apply heap_drewN_of)))); (focus (first | (simp; done) | (simp; assumption))); intro hg2 hc2 hz2 _ _ _ _ _; (try simp only [List.setIfInBounds_toArray, List.set_cons_zero, List.set_cons_succ] at hg2 hc2)
  have F1 : Fr [] w w1 := Fr.trans (S := []) (by repeat' (first | (with_reducible exact Fr.refl _ _) | (with_reducible assumption) | (with_reducible refine Fr.drew ?_) | (with_reducible refine Fr.drewN ?_ _) | (with_reducible refine Fr.alloc ?_ _) | ((with_reducible refine Fr.setNew ?_ _ ?_ _); rotate_left; (focus (first | (with_reducible assumption) | exact Nat.le_of_lt (by with_reducible assumption) | (focus (simp +arith; done)) | exact Nat.le_trans (by with_reducible assumption) (by simp +arith; done) | (simp; done)))) | ((with_reducible refine Fr.setOld ?_ _ ?_ _); rotate_left; (focus (simp; done))))) f1
  clear f1
  by_cases h1 : x.vs.length ≤ 100 ∧ y.vs.length ≤ 100
  · obtain ⟨h1, h2⟩ := h1
    have h1' : ¬ 100 < (x.vs.length : Int) := by omega
    have h2' : ¬ 100 < (y.vs.length : Int) := by omega
    go_wp2_with fail
    refine (wputop x.k x.id x.f x.c A ca x.vs x.wl (by omega) _ (HV.out.fr F1)).mono ?_
    rintro e w2 h2
    obtain ⟨v2, rfl, S2⟩ := h2.sl (fun ys h => (putS_bytes h).1)
    have F2 := F1.trans h2.fr
    apply h2.fr.use (k := w.heap.size); (focus (repeat (first | (with_reducible assumption) | ((with_reducible refine heap_alloc_at ?_ _); first | (with_reducible rfl) | (focus (simp; done))) | (with_reducible apply heap_alloc_old) | ((with_reducible apply heap_set_other); (case hne => (first | (with_reducible assumption) | exact Nat.ne_of_lt (by with_reducible assumption) | exact Nat.ne_of_gt (by with_reducible assumption) | (focus (simp +arith; done)) | (simp; done)))) | (with_reducible apply heap_set_eq) | (with_reducible apply heap_drew_of) | (with_reducible apply heap_drewN_of)))); (focus (first | (simp; done) | (simp; assumption))); intro hg3 hc3 hz3 _ _ _ _ _; (try simp only [List.setIfInBounds_toArray, List.set_cons_zero, List.set_cons_succ] at hg3 hc3)
    apply h2.fr.use (k := w.heap.size+1); (focus (repeat (first | (with_reducible assumption) | ((with_reducible refine heap_alloc_at ?_ _); first | (with_reducible rfl) | (focus (simp; done))) | (with_reducible apply heap_alloc_old) | ((with_reducible apply heap_set_other); (case hne => (first | (with_reducible assumption) | exact Nat.ne_of_lt (by with_reducible assumption) | exact Nat.ne_of_gt (by with_reducible assumption) | (focus (simp +arith; done)) | (simp; done)))) | (with_reducible apply heap_set_eq) | (with_reducible apply heap_drew_of) | (with_reducible apply heap_drewN_of)))); (focus (first | (simp; done) | (simp; assumption))); intro hg4 hc4 hz4 _ _ _ _ _; (try simp only [List.setIfInBounds_toArray, List.set_cons_zero, List.set_cons_succ] at hg4 hc4)
    have S2 := Lib.hid S2
    clear h2
    go_wp2_with fail
    refine (wputop y.k y.id y.f y.c B cb y.vs y.wl (by omega) _ (HU.out.fr F2)).mono ?_
    rintro e w3 h3
    obtain ⟨v3, rfl, S3⟩ := h3.sl (fun ys h => (putS_bytes h).1)
    have F3 := F2.trans h3.fr
    apply h3.fr.use (k := w.heap.size); (focus (repeat (first | (with_reducible assumption) | ((with_reducible refine heap_alloc_at ?_ _); first | (with_reducible rfl) | (focus (simp; done))) | (with_reducible apply heap_alloc_old) | ((with_reducible apply heap_set_other); (case hne => (first | (with_reducible assumption) | exact Nat.ne_of_lt (by with_reducible assumption) | exact Nat.ne_of_gt (by with_reducible assumption) | (focus (simp +arith; done)) | (simp; done)))) | (with_reducible apply heap_set_eq) | (with_reducible apply heap_drew_of) | (with_reducible apply heap_drewN_of)))); (focus (first | (simp; done) | (simp; assumption))); intro hg5 hc5 hz5 _ _ _ _ _; (try simp only [List.setIfInBounds_toArray, List.set_cons_zero, List.set_cons_succ] at hg5 hc5)
    apply h3.fr.use (k := w.heap.size+1); (focus (repeat (first | (with_reducible assumption) | ((with_reducible refine heap_alloc_at ?_ _); first | (with_reducible rfl) | (focus (simp; done))) | (with_reducible apply heap_alloc_old) | ((with_reducible apply heap_set_other); (case hne => (first | (with_reducible assumption) | exact Nat.ne_of_lt (by with_reducible assumption) | exact Nat.ne_of_gt (by with_reducible assumption) | (focus (simp +arith; done)) | (simp; done)))) | (with_reducible apply heap_set_eq) | (with_reducible apply heap_drew_of) | (with_reducible apply heap_drewN_of)))); (focus (first | (simp; done) | (simp; assumption))); intro hg6 hc6 hz6 _ _ _ _ _; (try simp only [List.setIfInBounds_toArray, List.set_cons_zero, List.set_cons_succ] at hg6 hc6)
    have S2 := Lib.hid (S2.out.fr h3.fr (by simp))
    have S3 := Lib.hid S3
    clear h3
    cases hX : putS x.k x.id x.f x.c x.vs x.wl with
    | none =>
      have hno : decide (canP x.k x.id x.f x.c x.vs.length x.wl) = false := by
        unfold putS at hX
        split at hX
        · cases hX
        · exact decide_eq_false ‹_›
      have HC := Lib.hid (rcan x.k x.id x.f x.c A x.vs.length ca x.wl (by omega))
      rw [hno] at HC
      clear hno
      rw [hX] at S2
      obtain ⟨A4, c4, rfl, _, _⟩ := S2.out
      generalize codeOf (putS y.k y.id y.f y.c y.vs y.wl) = cy at *
      simp only [codeOf, Option.getD_none, List.length_nil]
      clear hX S2
      go_wp2_with fail
      refine (HC.out _).mono ?_
      rintro e w4 ⟨rfl, f4⟩
      have F4 := F3.trans f4
      go_wp2_with fail
      go_ret
      exact ⟨rfl, F4⟩
    | some xs =>
      cases hY : putS y.k y.id y.f y.c y.vs y.wl with
      | none =>
        simp only [codeOf]
        clear hX hY
        go_wp2_with fail
        go_ret
        exact ⟨rfl, F3⟩
      | some ys =>
        have hiff := putO_inj (x := x) (y := y) hX hY (fun v hv => HV.out.mem v hv) (fun v hv => HU.out.mem v hv)
        obtain ⟨β, hβ⟩ : ∃ β : Bool, (β = true ↔ xs = ys) := by
          by_cases h : xs = ys
          · exact ⟨true, by simp [h]⟩
          · exact ⟨false, by simp [h]⟩
        have HB1 := Lib.hid hβ
        have HB2 := Lib.hid (hβ.trans hiff)
        have HXL := Lib.hid (putS_bytes hX).2
        rw [hX] at S2
        rw [hY] at S3
        simp only [codeOf]
        simp only [Option.getD_some] at S2 S3
        clear hX hY hiff hβ
        have HA := Lib.hid (HV.out.fr F3)
        have HBv := Lib.hid (HU.out.fr F3)
        have g5 := Lib.hid hg5
        have g6 := Lib.hid hg6
        go_wp2_with fail
        refine wp_region_seqV_lit (fun _ _ w' => Fr [] w3 w') fol (by kernel_rfl) (Fr.refl _ _).drew ?_
        apply SeqV.cons; (focus (intro Vv bv wv hbv hdv hSv; skip; go_wp2_with fail; exact StepPost.mk rfl (Fr.trans (S := []) hSv (by repeat' (first | (with_reducible exact Fr.refl _ _) | (with_reducible assumption) | (with_reducible refine Fr.drew ?_) | (with_reducible refine Fr.drewN ?_ _) | (with_reducible refine Fr.alloc ?_ _) | ((with_reducible refine Fr.setNew ?_ _ ?_ _); rotate_left; (focus (first | (with_reducible assumption) | exact Nat.le_of_lt (by with_reducible assumption) | (focus (simp +arith; done)) | exact Nat.le_trans (by with_reducible assumption) (by simp +arith; done) | (simp; done)))) | ((with_reducible refine Fr.setOld ?_ _ ?_ _); rotate_left; (focus (simp; done)))))))); (try simp only [Act.put, List.setIfInBounds_toArray, List.set_cons_zero, List.set_cons_succ, Nat.reduceAdd, Nat.zero_add])
        apply SeqV.cons; (focus (intro Vv bv wv hbv hdv hSv; skip; go_wp2_with fail; exact StepPost.mk rfl (Fr.trans (S := []) hSv (by repeat' (first | (with_reducible exact Fr.refl _ _) | (with_reducible assumption) | (with_reducible refine Fr.drew ?_) | (with_reducible refine Fr.drewN ?_ _) | (with_reducible refine Fr.alloc ?_ _) | ((with_reducible refine Fr.setNew ?_ _ ?_ _); rotate_left; (focus (first | (with_reducible assumption) | exact Nat.le_of_lt (by with_reducible assumption) | (focus (simp +arith; done)) | exact Nat.le_trans (by with_reducible assumption) (by simp +arith; done) | (simp; done)))) | ((with_reducible refine Fr.setOld ?_ _ ?_ _); rotate_left; (focus (simp; done)))))))); (try simp only [Act.put, List.setIfInBounds_toArray, List.set_cons_zero, List.set_cons_succ, Nat.reduceAdd, Nat.zero_add])
        apply SeqV.cons (v := .bool β)
        focus
          intro Vv bv wv hbv hdv hSv
          go_wp2_with fail
          refine (rBytes _ _ xs ys (by have := HXL.out; omega) _ (S2.out.fr hSv (by simp)) (S3.out.fr hSv (by simp))).mono ?_
          rintro e w9 ⟨⟨β', rfl, hβ'⟩, f9⟩
          obtain rfl : β' = β := by
            have h2 := HB1.out
            cases β <;> cases β' <;> simp_all
          clear hβ'
          go_wp2_with fail
          exact StepPost.mk rfl (hSv.trans f9)
        (try simp only [Act.put, List.setIfInBounds_toArray, List.set_cons_zero, List.set_cons_succ, Nat.reduceAdd, Nat.zero_add])
        apply SeqV.cons; (focus (intro Vv bv wv hbv hdv hSv; have g1 := hSv.heap g5.out (by simp); apply blk_use g1; intro hg21 hc21 hz21 _ _ _ _ _; go_wp2_with fail; exact StepPost.mk rfl (Fr.trans (S := []) hSv (by repeat' (first | (with_reducible exact Fr.refl _ _) | (with_reducible assumption) | (with_reducible refine Fr.drew ?_) | (with_reducible refine Fr.drewN ?_ _) | (with_reducible refine Fr.alloc ?_ _) | ((with_reducible refine Fr.setNew ?_ _ ?_ _); rotate_left; (focus (first | (with_reducible assumption) | exact Nat.le_of_lt (by with_reducible assumption) | (focus (simp +arith; done)) | exact Nat.le_trans (by with_reducible assumption) (by simp +arith; done) | (simp; done)))) | ((with_reducible refine Fr.setOld ?_ _ ?_ _); rotate_left; (focus (simp; done)))))))); (try simp only [Act.put, List.setIfInBounds_toArray, List.set_cons_zero, List.set_cons_succ, Nat.reduceAdd, Nat.zero_add])
        apply SeqV.cons; (focus (intro Vv bv wv hbv hdv hSv; have g1 := hSv.heap g6.out (by simp); apply blk_use g1; intro hg21 hc21 hz21 _ _ _ _ _; go_wp2_with fail; exact StepPost.mk rfl (Fr.trans (S := []) hSv (by repeat' (first | (with_reducible exact Fr.refl _ _) | (with_reducible assumption) | (with_reducible refine Fr.drew ?_) | (with_reducible refine Fr.drewN ?_ _) | (with_reducible refine Fr.alloc ?_ _) | ((with_reducible refine Fr.setNew ?_ _ ?_ _); rotate_left; (focus (first | (with_reducible assumption) | exact Nat.le_of_lt (by with_reducible assumption) | (focus (simp +arith; done)) | exact Nat.le_trans (by with_reducible assumption) (by simp +arith; done) | (simp; done)))) | ((with_reducible refine Fr.setOld ?_ _ ?_ _); rotate_left; (focus (simp; done)))))))); (try simp only [Act.put, List.setIfInBounds_toArray, List.set_cons_zero, List.set_cons_succ, Nat.reduceAdd, Nat.zero_add])
        apply SeqV.cons (v := .bool β)
        focus
          intro Vv bv wv hbv hdv hSv
          go_wp2_with fail
          refine (rSame x y A B ca cb (by omega) (by omega) _ (HA.out.fr hSv) (HBv.out.fr hSv)).mono ?_
          rintro e w9 ⟨⟨β', rfl, hβ'⟩, f9⟩
          obtain rfl : β' = β := by
            have h2 := HB2.out
            cases β <;> cases β' <;> simp_all
          clear hβ'
          go_wp2_with fail
          exact StepPost.mk rfl (hSv.trans f9)
        (try simp only [Act.put, List.setIfInBounds_toArray, List.set_cons_zero, List.set_cons_succ, Nat.reduceAdd, Nat.zero_add])
        apply SeqV.cons; (focus (intro Vv bv wv hbv hdv hSv; skip; go_wp2_with fail; exact StepPost.mk rfl (Fr.trans (S := []) hSv (by repeat' (first | (with_reducible exact Fr.refl _ _) | (with_reducible assumption) | (with_reducible refine Fr.drew ?_) | (with_reducible refine Fr.drewN ?_ _) | (with_reducible refine Fr.alloc ?_ _) | ((with_reducible refine Fr.setNew ?_ _ ?_ _); rotate_left; (focus (first | (with_reducible assumption) | exact Nat.le_of_lt (by with_reducible assumption) | (focus (simp +arith; done)) | exact Nat.le_trans (by with_reducible assumption) (by simp +arith; done) | (simp; done)))) | ((with_reducible refine Fr.setOld ?_ _ ?_ _); rotate_left; (focus (simp; done)))))))); (try simp only [Act.put, List.setIfInBounds_toArray, List.set_cons_zero, List.set_cons_succ, Nat.reduceAdd, Nat.zero_add])
        apply SeqV.cons; (focus (intro Vv bv wv hbv hdv hSv; skip; go_wp2_with fail; exact StepPost.mk rfl (Fr.trans (S := []) hSv (by repeat' (first | (with_reducible exact Fr.refl _ _) | (with_reducible assumption) | (with_reducible refine Fr.drew ?_) | (with_reducible refine Fr.drewN ?_ _) | (with_reducible refine Fr.alloc ?_ _) | ((with_reducible refine Fr.setNew ?_ _ ?_ _); rotate_left; (focus (first | (with_reducible assumption) | exact Nat.le_of_lt (by with_reducible assumption) | (focus (simp +arith; done)) | exact Nat.le_trans (by with_reducible assumption) (by simp +arith; done) | (simp; done)))) | ((with_reducible refine Fr.setOld ?_ _ ?_ _); rotate_left; (focus (simp; done)))))))); (try simp only [Act.put, List.setIfInBounds_toArray, List.set_cons_zero, List.set_cons_succ, Nat.reduceAdd, Nat.zero_add])
        refine SeqV.nil ?_
        intro Vv bv w5 hb5 F5
        clear hb5
        have F6 := F3.trans F5
        go_wp2_with fail
        go_ret
        exact ⟨ret_bool (by cases β <;> rfl), F6⟩
  · by_cases h2 : 100 < (x.vs.length : Int)
    · clear h1
      go_wp2_with fail
      go_ret
      exact ⟨rfl, F1⟩
    · have h3 : 100 < (y.vs.length : Int) := by omega
      clear h1
      go_wp2_with fail
      go_ret
      exact ⟨rfl, F1⟩

theorem wireApart_row (g : Addr) (k id f c : Int) (A : Option Addr) (vs : List Int) (ca : Nat) (wl : Bool) (k2 id2 f2 c2 : Int) (B : Option Addr) (us : List Int) (cb : Nat) (wl2 : Bool)
    (_ : (Lit.int .i64 k).wf = true) (_ : (Lit.int .i64 id).wf = true) (_ : (Lit.int .i64 f).wf = true) (_ : (Lit.int .i64 c).wf = true) (hvm : vs.length ≤ maxLen) (_ : vs.length ≤ ca)
    (_ : (Lit.int .i64 k2).wf = true) (_ : (Lit.int .i64 id2).wf = true) (_ : (Lit.int .i64 f2).wf = true) (_ : (Lit.int .i64 c2).wf = true) (hum : us.length ≤ maxLen) (_ : us.length ≤ cb) (w : World) (hv : ValsAt w A vs) (hu : ValsAt w B us) (hG : Gl w g) :
    Calls Tryd.prog 3 #[opv k id f c A vs.length ca wl, opv k2 id2 f2 c2 B us.length cb wl2] w fun e w' => e = .returned (.bool true) ∧ Fr [] w w' :=
  wireApart_walk g ⟨k, id, f, c, vs, wl⟩ ⟨k2, id2, f2, c2, us, wl2⟩ A B ca cb hvm hum w hv hu hG

end Go.Proofs.YtoebfpimojkamaaDoor
