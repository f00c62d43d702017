/- WireBack answers true at every operation, answer and bytes behind, and changes nothing that was there. -/
import Derived.Test.YtoebfpimojkamaaDoorWireReadsWalk
namespace Go.Proofs.YtoebfpimojkamaaDoor
open Go.RowKit

theorem codeOf_can (k id f c : Int) (vs : List Int) (wl : Bool) : (decide (canP k id f c vs.length wl) == (codeOf (putS k id f c vs wl) == 0)) = true := by
  unfold putS
  split
  · rename_i h; simp [codeOf, h]
  · rename_i h; simp [codeOf, h]

set_option maxRecDepth 100000 in
set_option maxHeartbeats 16000000 in
theorem wireBack_walk (g : Addr) (x : OpD) (y : AnD) (A B C : Option Addr) (ca cb cc : Nat) (zs : List Int) (hvm : x.vs.length ≤ maxLen) (hum : y.vs.length ≤ maxLen) (hzm : zs.length ≤ maxLen) (hzc : zs.length ≤ cc) (w : World) (hv : ValsAt w A x.vs) (hu : ValsAt w B y.vs) (hz : NAt w .u8 255 w.heap.size C zs) (hG : Gl w g) :
    Calls Tryd.prog 8 #[opv x.k x.id x.f x.c A x.vs.length ca x.wl, anv y.id y.c B y.vs.length cb, .slice C zs.length cc] w fun e w' => e = .returned (.bool true) ∧ Fr [] w w' := by
  have hvm' : (x.vs.length : Int) ≤ 9223372036854775807 := by simp [maxLen] at hvm; omega
  have hum' : (y.vs.length : Int) ≤ 9223372036854775807 := by simp [maxLen] at hum; omega
  have hzm' : (zs.length : Int) ≤ 9223372036854775807 := by simp [maxLen] at hzm; omega
  have HG := Lib.hid hG
  have HV := Lib.hid hv
  have HU := Lib.hid hu
  have HZ : Hid (SlB w (.slice C zs.length cc) zs) := ⟨C, cc, rfl, hz, hzc⟩
  clear hvm hum hzm hG hv hu hz
  go_enter Tryd.func8, Tryd.ntmps8
  go_wp2_with fail
  refine (wawake g _ (Gl.fr (S := []) HG.out (by repeat' (first | (with_reducible exact Fr.refl _ _) | (with_reducible assumption) | (with_reducible refine Fr.drew ?_) | (with_reducible refine Fr.drewN ?_ _) | (with_reducible refine Fr.alloc ?_ _) | ((with_reducible refine Fr.setNew ?_ _ ?_ _); rotate_left; (focus (first | (with_reducible assumption) | exact Nat.le_of_lt (by with_reducible assumption) | (focus (simp +arith; done)) | exact Nat.le_trans (by with_reducible assumption) (by simp +arith; done) | (simp; done)))) | ((with_reducible refine Fr.setOld ?_ _ ?_ _); rotate_left; (focus (simp; done))))) (by simp))).mono ?_
  rintro e w1 ⟨rfl, f1⟩
  apply f1.use (k := w.heap.size); (focus (repeat (first | (with_reducible assumption) | ((with_reducible refine heap_alloc_at ?_ _); first | (with_reducible rfl) | (focus (simp; done))) | (with_reducible apply heap_alloc_old) | ((with_reducible apply heap_set_other); (case hne => (first | (with_reducible assumption) | exact Nat.ne_of_lt (by with_reducible assumption) | exact Nat.ne_of_gt (by with_reducible assumption) | (focus (simp +arith; done)) | (simp; done)))) | (with_reducible apply heap_set_eq) | (with_reducible apply heap_drew_of) | (with_reducible apply heap_drewN_of)))); (focus (first | (simp; done) | (simp; assumption))); intro hg1 hc1 hz1 _ _ _ _ _; (try simp only [List.setIfInBounds_toArray, List.set_cons_zero, List.set_cons_succ] at hg1 hc1)
  apply f1.use (k := w.heap.size+1); (focus (repeat (first | (with_reducible assumption) | ((with_reducible refine heap_alloc_at ?_ _); first | (with_reducible rfl) | (focus (simp; done))) | (with_reducible apply heap_alloc_old) | ((with_reducible apply heap_set_other); (case hne => (first | (with_reducible assumption) | exact Nat.ne_of_lt (by with_reducible assumption) | exact Nat.ne_of_gt (by with_reducible assumption) | (focus (simp +arith; done)) | (simp; done)))) | (with_reducible apply heap_set_eq) | (with_reducible apply heap_drew_of) | (with_reducible apply heap_drewN_of)))); (focus (first | (simp; done) | (simp; assumption))); intro hg2 hc2 hz2 _ _ _ _ _; (try simp only [List.setIfInBounds_toArray, List.set_cons_zero, List.set_cons_succ] at hg2 hc2)
  have F1 : Fr [] w w1 := Fr.trans (S := []) (by repeat' (first | (with_reducible exact Fr.refl _ _) | (with_reducible assumption) | (with_reducible refine Fr.drew ?_) | (with_reducible refine Fr.drewN ?_ _) | (with_reducible refine Fr.alloc ?_ _) | ((with_reducible refine Fr.setNew ?_ _ ?_ _); rotate_left; (focus (first | (with_reducible assumption) | exact Nat.le_of_lt (by with_reducible assumption) | (focus (simp +arith; done)) | exact Nat.le_trans (by with_reducible assumption) (by simp +arith; done) | (simp; done)))) | ((with_reducible refine Fr.setOld ?_ _ ?_ _); rotate_left; (focus (simp; done))))) f1
  clear f1
  by_cases h1 : x.vs.length ≤ 100 ∧ y.vs.length ≤ 100 ∧ zs.length ≤ 100
  · obtain ⟨h1, h2, h3⟩ := h1
    have h1' : ¬ 100 < (x.vs.length : Int) := by omega
    have h2' : ¬ 100 < (y.vs.length : Int) := by omega
    have h3' : ¬ 100 < (zs.length : Int) := by omega
    go_wp2_with fail
    refine (wputop x.k x.id x.f x.c A ca x.vs x.wl (by omega) _ (HV.out.fr F1)).mono ?_
    rintro e w2 h2
    obtain ⟨v2, rfl, S2⟩ := h2.sl (fun ys h => (putS_bytes h).1)
    have F2 := F1.trans h2.fr
    apply h2.fr.use (k := w.heap.size); (focus (repeat (first | (with_reducible assumption) | ((with_reducible refine heap_alloc_at ?_ _); first | (with_reducible rfl) | (focus (simp; done))) | (with_reducible apply heap_alloc_old) | ((with_reducible apply heap_set_other); (case hne => (first | (with_reducible assumption) | exact Nat.ne_of_lt (by with_reducible assumption) | exact Nat.ne_of_gt (by with_reducible assumption) | (focus (simp +arith; done)) | (simp; done)))) | (with_reducible apply heap_set_eq) | (with_reducible apply heap_drew_of) | (with_reducible apply heap_drewN_of)))); (focus (first | (simp; done) | (simp; assumption))); intro hg3 hc3 hz3 _ _ _ _ _; (try simp only [List.setIfInBounds_toArray, List.set_cons_zero, List.set_cons_succ] at hg3 hc3)
    apply h2.fr.use (k := w.heap.size+1); (focus (repeat (first | (with_reducible assumption) | ((with_reducible refine heap_alloc_at ?_ _); first | (with_reducible rfl) | (focus (simp; done))) | (with_reducible apply heap_alloc_old) | ((with_reducible apply heap_set_other); (case hne => (first | (with_reducible assumption) | exact Nat.ne_of_lt (by with_reducible assumption) | exact Nat.ne_of_gt (by with_reducible assumption) | (focus (simp +arith; done)) | (simp; done)))) | (with_reducible apply heap_set_eq) | (with_reducible apply heap_drew_of) | (with_reducible apply heap_drewN_of)))); (focus (first | (simp; done) | (simp; assumption))); intro hg4 hc4 hz4 _ _ _ _ _; (try simp only [List.setIfInBounds_toArray, List.set_cons_zero, List.set_cons_succ] at hg4 hc4)
    have S2 := Lib.hid S2
    clear h2 hg1 hc1 hz1 hg2 hc2 hz2
    have HCC := Lib.hid (codeOf_can x.k x.id x.f x.c x.vs x.wl)
    obtain ⟨cx, hcx⟩ : ∃ cx, cx = codeOf (putS x.k x.id x.f x.c x.vs x.wl) := ⟨_, rfl⟩
    have HCX := Lib.hid hcx
    rw [← hcx] at HCC ⊢
    clear hcx
    go_upto_if 40 with fail
    go_cut [] (fun wc => Fr [] w wc ∧ wc.heap[w.heap.size]? = some (opc x.k x.id x.f x.c A x.vs.length ca x.wl) ∧ wc.heap[w.heap.size+1]? = some (anc y.id y.c B y.vs.length cb))
    case first =>
      cases hX : putS x.k x.id x.f x.c x.vs x.wl with
      | none =>
        have h0 := HCX.out
        rw [hX] at h0
        simp only [codeOf] at h0
        subst h0
        clear hX
        go_wp2_with fail
        go_meet
        exact ⟨F2, hg3, hg4⟩
      | some ys =>
        have h0 := HCX.out
        rw [hX] at h0 S2
        simp only [codeOf] at h0
        simp only [Option.getD_some] at S2
        subst h0
        have HR := Lib.hid (fun t => readS_put (o := x) hX (fun v hv => HV.out.mem v hv) t)
        have HL := Lib.hid (putS_bytes hX)
        clear hX
        go_wp2_with (first
          | (at_builtin; refine wpList_appS _ rfl (.tmp 42) (.tmp 43) rfl rfl w2.heap.size (.slice (some ⟨w2.heap.size, 0, none⟩) 0 0) [] rfl (OwnB.lit [] (by (apply heap_eq_of; (focus (repeat (first | (with_reducible assumption) | ((with_reducible refine heap_alloc_at ?_ _); first | (with_reducible rfl) | (focus (simp; done))) | (with_reducible apply heap_alloc_old) | ((with_reducible apply heap_set_other); (case hne => (first | (with_reducible assumption) | exact Nat.ne_of_lt (by with_reducible assumption) | exact Nat.ne_of_gt (by with_reducible assumption) | (focus (simp +arith; done)) | (simp; done)))) | (with_reducible apply heap_set_eq) | (with_reducible apply heap_drew_of) | (with_reducible apply heap_drewN_of)))); (focus (first | (simp; done) | rfl)))) (Nat.le_refl _) (by simp) 0 rfl) v2 ys rfl (S2.out.fr (S := []) (by repeat' (first | (with_reducible exact Fr.refl _ _) | (with_reducible assumption) | (with_reducible refine Fr.drew ?_) | (with_reducible refine Fr.drewN ?_ _) | (with_reducible refine Fr.alloc ?_ _) | ((with_reducible refine Fr.setNew ?_ _ ?_ _); rotate_left; (focus (first | (with_reducible assumption) | exact Nat.le_of_lt (by with_reducible assumption) | (focus (simp +arith; done)) | exact Nat.le_trans (by with_reducible assumption) (by simp +arith; done) | (simp; done)))) | ((with_reducible refine Fr.setOld ?_ _ ?_ _); rotate_left; (focus (simp; done))))) (by simp)) (by have := HL.out.2; simp; omega) (by simp) ?_; intro v3 w3 O3 G3 U3; have G3' : Fr [] w2 w3 := Fr.trans' (S := []) (by repeat' (first | (with_reducible exact Fr.refl _ _) | (with_reducible assumption) | (with_reducible refine Fr.drew ?_) | (with_reducible refine Fr.drewN ?_ _) | (with_reducible refine Fr.alloc ?_ _) | ((with_reducible refine Fr.setNew ?_ _ ?_ _); rotate_left; (focus (first | (with_reducible assumption) | exact Nat.le_of_lt (by with_reducible assumption) | (focus (simp +arith; done)) | exact Nat.le_trans (by with_reducible assumption) (by simp +arith; done) | (simp; done)))) | ((with_reducible refine Fr.setOld ?_ _ ?_ _); rotate_left; (focus (simp; done))))) G3 (by simp [Value.ownBlock]); have HO3 := Lib.hid O3; have z3 := G3'.size; clear O3 G3 U3)
          | (at_builtin; refine wpList_appS _ rfl (.tmp 44) (.tmp 45) rfl rfl w2.heap.size _ ([] ++ ys) rfl HO3.out _ zs rfl (HZ.out.fr (F2.trans G3') (by simp)) (by have := HL.out.2; simp; omega) z3 ?_; intro v4 w4 O4 G4 U4; have G4' : Fr [] w2 w4 := Fr.trans' (S := []) G3' G4 (fun x hx => Or.inr (own_ge HO3.out x hx)); have S4 := Lib.hid (O4.sl ((byteOk.app (by decide) HL.out.1).app HZ.out.ok)); clear O4 G4 U4))
        have F4 := F2.trans G4'
        apply G4'.use (k := w.heap.size); (focus (repeat (first | (with_reducible assumption) | ((with_reducible refine heap_alloc_at ?_ _); first | (with_reducible rfl) | (focus (simp; done))) | (with_reducible apply heap_alloc_old) | ((with_reducible apply heap_set_other); (case hne => (first | (with_reducible assumption) | exact Nat.ne_of_lt (by with_reducible assumption) | exact Nat.ne_of_gt (by with_reducible assumption) | (focus (simp +arith; done)) | (simp; done)))) | (with_reducible apply heap_set_eq) | (with_reducible apply heap_drew_of) | (with_reducible apply heap_drewN_of)))); (focus (first | (simp; done) | (simp; assumption))); intro hg5 hc5 hz5 _ _ _ _ _; (try simp only [List.setIfInBounds_toArray, List.set_cons_zero, List.set_cons_succ] at hg5 hc5)
        apply G4'.use (k := w.heap.size+1); (focus (repeat (first | (with_reducible assumption) | ((with_reducible refine heap_alloc_at ?_ _); first | (with_reducible rfl) | (focus (simp; done))) | (with_reducible apply heap_alloc_old) | ((with_reducible apply heap_set_other); (case hne => (first | (with_reducible assumption) | exact Nat.ne_of_lt (by with_reducible assumption) | exact Nat.ne_of_gt (by with_reducible assumption) | (focus (simp +arith; done)) | (simp; done)))) | (with_reducible apply heap_set_eq) | (with_reducible apply heap_drew_of) | (with_reducible apply heap_drewN_of)))); (focus (first | (simp; done) | (simp; assumption))); intro hg6 hc6 hz6 _ _ _ _ _; (try simp only [List.setIfInBounds_toArray, List.set_cons_zero, List.set_cons_succ] at hg6 hc6)
        refine (wreadv _ _ g (by have := HL.out.2; simp; omega) _ S4.out (Gl.fr HG.out F4 (by simp))).mono ?_
        rintro e w5 ⟨⟨hr, rfl⟩ | ⟨o5, rest5, A5, c5, R5, hr, rfl, V5, O5, _⟩, f5⟩
        · rw [List.nil_append, HR.out] at hr; cases hr
        rw [List.nil_append, HR.out] at hr
        cases hr
        have F5 := F4.trans f5
        apply f5.use (k := w.heap.size); (focus (repeat (first | (with_reducible assumption) | ((with_reducible refine heap_alloc_at ?_ _); first | (with_reducible rfl) | (focus (simp; done))) | (with_reducible apply heap_alloc_old) | ((with_reducible apply heap_set_other); (case hne => (first | (with_reducible assumption) | exact Nat.ne_of_lt (by with_reducible assumption) | exact Nat.ne_of_gt (by with_reducible assumption) | (focus (simp +arith; done)) | (simp; done)))) | (with_reducible apply heap_set_eq) | (with_reducible apply heap_drew_of) | (with_reducible apply heap_drewN_of)))); (focus (first | (simp; done) | (simp; assumption))); intro hg7 hc7 hz7 _ _ _ _ _; (try simp only [List.setIfInBounds_toArray, List.set_cons_zero, List.set_cons_succ] at hg7 hc7)
        apply f5.use (k := w.heap.size+1); (focus (repeat (first | (with_reducible assumption) | ((with_reducible refine heap_alloc_at ?_ _); first | (with_reducible rfl) | (focus (simp; done))) | (with_reducible apply heap_alloc_old) | ((with_reducible apply heap_set_other); (case hne => (first | (with_reducible assumption) | exact Nat.ne_of_lt (by with_reducible assumption) | exact Nat.ne_of_gt (by with_reducible assumption) | (focus (simp +arith; done)) | (simp; done)))) | (with_reducible apply heap_set_eq) | (with_reducible apply heap_drew_of) | (with_reducible apply heap_drewN_of)))); (focus (first | (simp; done) | (simp; assumption))); intro hg8 hc8 hz8 _ _ _ _ _; (try simp only [List.setIfInBounds_toArray, List.set_cons_zero, List.set_cons_succ] at hg8 hc8)
        have V5 := Lib.hid V5
        have S5 := Lib.hid (O5.sl HZ.out.ok)
        clear O5 f5
        go_wp2_with fail
        refine (rSame x x A5 A c5 ca (by omega) (by omega) _ ((NAt.fr (S := []) V5.out (by repeat' (first | (with_reducible exact Fr.refl _ _) | (with_reducible assumption) | (with_reducible refine Fr.drew ?_) | (with_reducible refine Fr.drewN ?_ _) | (with_reducible refine Fr.alloc ?_ _) | ((with_reducible refine Fr.setNew ?_ _ ?_ _); rotate_left; (focus (first | (with_reducible assumption) | exact Nat.le_of_lt (by with_reducible assumption) | (focus (simp +arith; done)) | exact Nat.le_trans (by with_reducible assumption) (by simp +arith; done) | (simp; done)))) | ((with_reducible refine Fr.setOld ?_ _ ?_ _); rotate_left; (focus (simp; done))))) (Nat.le_refl _) (by simp)).up (by simp)) (HV.out.fr (Fr.trans (S := []) F5 (by repeat' (first | (with_reducible exact Fr.refl _ _) | (with_reducible assumption) | (with_reducible refine Fr.drew ?_) | (with_reducible refine Fr.drewN ?_ _) | (with_reducible refine Fr.alloc ?_ _) | ((with_reducible refine Fr.setNew ?_ _ ?_ _); rotate_left; (focus (first | (with_reducible assumption) | exact Nat.le_of_lt (by with_reducible assumption) | (focus (simp +arith; done)) | exact Nat.le_trans (by with_reducible assumption) (by simp +arith; done) | (simp; done)))) | ((with_reducible refine Fr.setOld ?_ _ ?_ _); rotate_left; (focus (simp; done)))))))).mono ?_
        rintro e w6 ⟨⟨β, rfl, hβ⟩, f6⟩
        obtain rfl : β = true := hβ.2 rfl
        clear hβ
        have f6' : Fr [] w5 w6 := Fr.trans (S := []) (by repeat' (first | (with_reducible exact Fr.refl _ _) | (with_reducible assumption) | (with_reducible refine Fr.drew ?_) | (with_reducible refine Fr.drewN ?_ _) | (with_reducible refine Fr.alloc ?_ _) | ((with_reducible refine Fr.setNew ?_ _ ?_ _); rotate_left; (focus (first | (with_reducible assumption) | exact Nat.le_of_lt (by with_reducible assumption) | (focus (simp +arith; done)) | exact Nat.le_trans (by with_reducible assumption) (by simp +arith; done) | (simp; done)))) | ((with_reducible refine Fr.setOld ?_ _ ?_ _); rotate_left; (focus (simp; done))))) f6
        have F6 := F5.trans f6'
        apply f6'.use (k := w.heap.size); (focus (repeat (first | (with_reducible assumption) | ((with_reducible refine heap_alloc_at ?_ _); first | (with_reducible rfl) | (focus (simp; done))) | (with_reducible apply heap_alloc_old) | ((with_reducible apply heap_set_other); (case hne => (first | (with_reducible assumption) | exact Nat.ne_of_lt (by with_reducible assumption) | exact Nat.ne_of_gt (by with_reducible assumption) | (focus (simp +arith; done)) | (simp; done)))) | (with_reducible apply heap_set_eq) | (with_reducible apply heap_drew_of) | (with_reducible apply heap_drewN_of)))); (focus (first | (simp; done) | (simp; assumption))); intro hg9 hc9 hz9 _ _ _ _ _; (try simp only [List.setIfInBounds_toArray, List.set_cons_zero, List.set_cons_succ] at hg9 hc9)
        apply f6'.use (k := w.heap.size+1); (focus (repeat (first | (with_reducible assumption) | ((with_reducible refine heap_alloc_at ?_ _); first | (with_reducible rfl) | (focus (simp; done))) | (with_reducible apply heap_alloc_old) | ((with_reducible apply heap_set_other); (case hne => (first | (with_reducible assumption) | exact Nat.ne_of_lt (by with_reducible assumption) | exact Nat.ne_of_gt (by with_reducible assumption) | (focus (simp +arith; done)) | (simp; done)))) | (with_reducible apply heap_set_eq) | (with_reducible apply heap_drew_of) | (with_reducible apply heap_drewN_of)))); (focus (first | (simp; done) | (simp; assumption))); intro hg10 hc10 hz10 _ _ _ _ _; (try simp only [List.setIfInBounds_toArray, List.set_cons_zero, List.set_cons_succ] at hg10 hc10)
        clear f6
        go_wp2_with fail
        refine (rBytes _ _ zs zs (by omega) _ (S5.out.fr f6' (by simp)) (HZ.out.fr F6 (by simp))).mono ?_
        rintro e w7 ⟨⟨β, rfl, hβ⟩, f7⟩
        obtain rfl : β = true := hβ.2 rfl
        clear hβ
        have F7 := F6.trans f7
        apply f7.use (k := w.heap.size); (focus (repeat (first | (with_reducible assumption) | ((with_reducible refine heap_alloc_at ?_ _); first | (with_reducible rfl) | (focus (simp; done))) | (with_reducible apply heap_alloc_old) | ((with_reducible apply heap_set_other); (case hne => (first | (with_reducible assumption) | exact Nat.ne_of_lt (by with_reducible assumption) | exact Nat.ne_of_gt (by with_reducible assumption) | (focus (simp +arith; done)) | (simp; done)))) | (with_reducible apply heap_set_eq) | (with_reducible apply heap_drew_of) | (with_reducible apply heap_drewN_of)))); (focus (first | (simp; done) | (simp; assumption))); intro hg11 hc11 hz11 _ _ _ _ _; (try simp only [List.setIfInBounds_toArray, List.set_cons_zero, List.set_cons_succ] at hg11 hc11)
        apply f7.use (k := w.heap.size+1); (focus (repeat (first | (with_reducible assumption) | ((with_reducible refine heap_alloc_at ?_ _); first | (with_reducible rfl) | (focus (simp; done))) | (with_reducible apply heap_alloc_old) | ((with_reducible apply heap_set_other); (case hne => (first | (with_reducible assumption) | exact Nat.ne_of_lt (by with_reducible assumption) | exact Nat.ne_of_gt (by with_reducible assumption) | (focus (simp +arith; done)) | (simp; done)))) | (with_reducible apply heap_set_eq) | (with_reducible apply heap_drew_of) | (with_reducible apply heap_drewN_of)))); (focus (first | (simp; done) | (simp; assumption))); intro hg12 hc12 hz12 _ _ _ _ _; (try simp only [List.setIfInBounds_toArray, List.set_cons_zero, List.set_cons_succ] at hg12 hc12)
        go_wp2_with fail
        go_meet
        exact ⟨F7, hg11, hg12⟩
    case rest =>
      obtain ⟨Fc, gc1, gc2⟩ := hcut
      clear hg3 hc3 hz3 hg4 hc4 hz4 S2
      apply blk_use gc1; intro hg1 hc1 hz1 _ _ _ _ _
      apply blk_use gc2; intro hg2 hc2 hz2 _ _ _ _ _
      go_wp2_with fail
      refine (wputans y.id y.c B cb y.vs (by omega) _ (HU.out.fr Fc)).mono ?_
      rintro e w2 h2
      obtain ⟨v2, rfl, S2⟩ := h2.sl (fun ys h => (ansS_bytes h).1)
      have F2 := Fc.trans h2.fr
      apply h2.fr.use (k := w.heap.size); (focus (repeat (first | (with_reducible assumption) | ((with_reducible refine heap_alloc_at ?_ _); first | (with_reducible rfl) | (focus (simp; done))) | (with_reducible apply heap_alloc_old) | ((with_reducible apply heap_set_other); (case hne => (first | (with_reducible assumption) | exact Nat.ne_of_lt (by with_reducible assumption) | exact Nat.ne_of_gt (by with_reducible assumption) | (focus (simp +arith; done)) | (simp; done)))) | (with_reducible apply heap_set_eq) | (with_reducible apply heap_drew_of) | (with_reducible apply heap_drewN_of)))); (focus (first | (simp; done) | (simp; assumption))); intro hg3 hc3 hz3 _ _ _ _ _; (try simp only [List.setIfInBounds_toArray, List.set_cons_zero, List.set_cons_succ] at hg3 hc3)
      apply h2.fr.use (k := w.heap.size+1); (focus (repeat (first | (with_reducible assumption) | ((with_reducible refine heap_alloc_at ?_ _); first | (with_reducible rfl) | (focus (simp; done))) | (with_reducible apply heap_alloc_old) | ((with_reducible apply heap_set_other); (case hne => (first | (with_reducible assumption) | exact Nat.ne_of_lt (by with_reducible assumption) | exact Nat.ne_of_gt (by with_reducible assumption) | (focus (simp +arith; done)) | (simp; done)))) | (with_reducible apply heap_set_eq) | (with_reducible apply heap_drew_of) | (with_reducible apply heap_drewN_of)))); (focus (first | (simp; done) | (simp; assumption))); intro hg4 hc4 hz4 _ _ _ _ _; (try simp only [List.setIfInBounds_toArray, List.set_cons_zero, List.set_cons_succ] at hg4 hc4)
      have S2 := Lib.hid S2
      clear h2 hg1 hc1 hz1 hg2 hc2 hz2
      obtain ⟨cy, hcy⟩ : ∃ cy, cy = codeOf (ansS y.id y.c y.vs) := ⟨_, rfl⟩
      have HCY := Lib.hid hcy
      rw [← hcy]
      clear hcy
      go_upto_if 71 with fail
      go_cut [] (fun wc => Fr [] w wc ∧ wc.heap[w.heap.size]? = some (opc x.k x.id x.f x.c A x.vs.length ca x.wl))
      case first =>
        cases hX : ansS y.id y.c y.vs with
        | none =>
          have h0 := HCY.out
          rw [hX] at h0
          simp only [codeOf] at h0
          subst h0
          clear hX
          go_wp2_with fail
          go_meet
          exact ⟨F2, hg3⟩
        | some ys =>
          have h0 := HCY.out
          rw [hX] at h0 S2
          simp only [codeOf] at h0
          simp only [Option.getD_some] at S2
          subst h0
          have HR := Lib.hid (fun t => ansRd_put hX (fun v hv => HU.out.mem v hv) t)
          have HL := Lib.hid (ansS_bytes hX)
          clear hX
          go_wp2_with (first
            | (at_builtin; refine wpList_appS _ rfl (.tmp 73) (.tmp 74) rfl rfl w2.heap.size (.slice (some ⟨w2.heap.size, 0, none⟩) 0 0) [] rfl (OwnB.lit [] (by (apply heap_eq_of; (focus (repeat (first | (with_reducible assumption) | ((with_reducible refine heap_alloc_at ?_ _); first | (with_reducible rfl) | (focus (simp; done))) | (with_reducible apply heap_alloc_old) | ((with_reducible apply heap_set_other); (case hne => (first | (with_reducible assumption) | exact Nat.ne_of_lt (by with_reducible assumption) | exact Nat.ne_of_gt (by with_reducible assumption) | (focus (simp +arith; done)) | (simp; done)))) | (with_reducible apply heap_set_eq) | (with_reducible apply heap_drew_of) | (with_reducible apply heap_drewN_of)))); (focus (first | (simp; done) | rfl)))) (Nat.le_refl _) (by simp) 0 rfl) v2 ys rfl (S2.out.fr (S := []) (by repeat' (first | (with_reducible exact Fr.refl _ _) | (with_reducible assumption) | (with_reducible refine Fr.drew ?_) | (with_reducible refine Fr.drewN ?_ _) | (with_reducible refine Fr.alloc ?_ _) | ((with_reducible refine Fr.setNew ?_ _ ?_ _); rotate_left; (focus (first | (with_reducible assumption) | exact Nat.le_of_lt (by with_reducible assumption) | (focus (simp +arith; done)) | exact Nat.le_trans (by with_reducible assumption) (by simp +arith; done) | (simp; done)))) | ((with_reducible refine Fr.setOld ?_ _ ?_ _); rotate_left; (focus (simp; done))))) (by simp)) (by have := HL.out.2; simp; omega) (by simp) ?_; intro v3 w3 O3 G3 U3; have G3' : Fr [] w2 w3 := Fr.trans' (S := []) (by repeat' (first | (with_reducible exact Fr.refl _ _) | (with_reducible assumption) | (with_reducible refine Fr.drew ?_) | (with_reducible refine Fr.drewN ?_ _) | (with_reducible refine Fr.alloc ?_ _) | ((with_reducible refine Fr.setNew ?_ _ ?_ _); rotate_left; (focus (first | (with_reducible assumption) | exact Nat.le_of_lt (by with_reducible assumption) | (focus (simp +arith; done)) | exact Nat.le_trans (by with_reducible assumption) (by simp +arith; done) | (simp; done)))) | ((with_reducible refine Fr.setOld ?_ _ ?_ _); rotate_left; (focus (simp; done))))) G3 (by simp [Value.ownBlock]); have HO3 := Lib.hid O3; have z3 := G3'.size; clear O3 G3 U3)
            | (at_builtin; refine wpList_appS _ rfl (.tmp 75) (.tmp 76) rfl rfl w2.heap.size _ ([] ++ ys) rfl HO3.out _ zs rfl (HZ.out.fr (F2.trans G3') (by simp)) (by have := HL.out.2; simp; omega) z3 ?_; intro v4 w4 O4 G4 U4; have G4' : Fr [] w2 w4 := Fr.trans' (S := []) G3' G4 (fun x hx => Or.inr (own_ge HO3.out x hx)); have S4 := Lib.hid (O4.sl ((byteOk.app (by decide) HL.out.1).app HZ.out.ok)); clear O4 G4 U4))
          have F4 := F2.trans G4'
          apply G4'.use (k := w.heap.size); (focus (repeat (first | (with_reducible assumption) | ((with_reducible refine heap_alloc_at ?_ _); first | (with_reducible rfl) | (focus (simp; done))) | (with_reducible apply heap_alloc_old) | ((with_reducible apply heap_set_other); (case hne => (first | (with_reducible assumption) | exact Nat.ne_of_lt (by with_reducible assumption) | exact Nat.ne_of_gt (by with_reducible assumption) | (focus (simp +arith; done)) | (simp; done)))) | (with_reducible apply heap_set_eq) | (with_reducible apply heap_drew_of) | (with_reducible apply heap_drewN_of)))); (focus (first | (simp; done) | (simp; assumption))); intro hg5 hc5 hz5 _ _ _ _ _; (try simp only [List.setIfInBounds_toArray, List.set_cons_zero, List.set_cons_succ] at hg5 hc5)
          apply G4'.use (k := w.heap.size+1); (focus (repeat (first | (with_reducible assumption) | ((with_reducible refine heap_alloc_at ?_ _); first | (with_reducible rfl) | (focus (simp; done))) | (with_reducible apply heap_alloc_old) | ((with_reducible apply heap_set_other); (case hne => (first | (with_reducible assumption) | exact Nat.ne_of_lt (by with_reducible assumption) | exact Nat.ne_of_gt (by with_reducible assumption) | (focus (simp +arith; done)) | (simp; done)))) | (with_reducible apply heap_set_eq) | (with_reducible apply heap_drew_of) | (with_reducible apply heap_drewN_of)))); (focus (first | (simp; done) | (simp; assumption))); intro hg6 hc6 hz6 _ _ _ _ _; (try simp only [List.setIfInBounds_toArray, List.set_cons_zero, List.set_cons_succ] at hg6 hc6)
          refine (wreadansv _ _ g (by have := HL.out.2; simp; omega) _ S4.out (Gl.fr HG.out F4 (by simp))).mono ?_
          rintro e w5 ⟨⟨hr, rfl⟩ | ⟨o5, rest5, A5, c5, R5, hr, rfl, V5, S5⟩, f5⟩
          · rw [List.nil_append, HR.out] at hr; cases hr
          rw [List.nil_append, HR.out] at hr
          cases hr
          have F5 := F4.trans f5
          apply f5.use (k := w.heap.size); (focus (repeat (first | (with_reducible assumption) | ((with_reducible refine heap_alloc_at ?_ _); first | (with_reducible rfl) | (focus (simp; done))) | (with_reducible apply heap_alloc_old) | ((with_reducible apply heap_set_other); (case hne => (first | (with_reducible assumption) | exact Nat.ne_of_lt (by with_reducible assumption) | exact Nat.ne_of_gt (by with_reducible assumption) | (focus (simp +arith; done)) | (simp; done)))) | (with_reducible apply heap_set_eq) | (with_reducible apply heap_drew_of) | (with_reducible apply heap_drewN_of)))); (focus (first | (simp; done) | (simp; assumption))); intro hg7 hc7 hz7 _ _ _ _ _; (try simp only [List.setIfInBounds_toArray, List.set_cons_zero, List.set_cons_succ] at hg7 hc7)
          apply f5.use (k := w.heap.size+1); (focus (repeat (first | (with_reducible assumption) | ((with_reducible refine heap_alloc_at ?_ _); first | (with_reducible rfl) | (focus (simp; done))) | (with_reducible apply heap_alloc_old) | ((with_reducible apply heap_set_other); (case hne => (first | (with_reducible assumption) | exact Nat.ne_of_lt (by with_reducible assumption) | exact Nat.ne_of_gt (by with_reducible assumption) | (focus (simp +arith; done)) | (simp; done)))) | (with_reducible apply heap_set_eq) | (with_reducible apply heap_drew_of) | (with_reducible apply heap_drewN_of)))); (focus (first | (simp; done) | (simp; assumption))); intro hg8 hc8 hz8 _ _ _ _ _; (try simp only [List.setIfInBounds_toArray, List.set_cons_zero, List.set_cons_succ] at hg8 hc8)
          have V5 := Lib.hid V5
          have S5 := Lib.hid S5
          clear f5
          go_wp2_with fail
          refine (rAnswer y y A5 B c5 cb (by omega) (by omega) _ ((NAt.fr (S := []) V5.out (by repeat' (first | (with_reducible exact Fr.refl _ _) | (with_reducible assumption) | (with_reducible refine Fr.drew ?_) | (with_reducible refine Fr.drewN ?_ _) | (with_reducible refine Fr.alloc ?_ _) | ((with_reducible refine Fr.setNew ?_ _ ?_ _); rotate_left; (focus (first | (with_reducible assumption) | exact Nat.le_of_lt (by with_reducible assumption) | (focus (simp +arith; done)) | exact Nat.le_trans (by with_reducible assumption) (by simp +arith; done) | (simp; done)))) | ((with_reducible refine Fr.setOld ?_ _ ?_ _); rotate_left; (focus (simp; done))))) (Nat.le_refl _) (by simp)).up (by simp)) (HU.out.fr (Fr.trans (S := []) F5 (by repeat' (first | (with_reducible exact Fr.refl _ _) | (with_reducible assumption) | (with_reducible refine Fr.drew ?_) | (with_reducible refine Fr.drewN ?_ _) | (with_reducible refine Fr.alloc ?_ _) | ((with_reducible refine Fr.setNew ?_ _ ?_ _); rotate_left; (focus (first | (with_reducible assumption) | exact Nat.le_of_lt (by with_reducible assumption) | (focus (simp +arith; done)) | exact Nat.le_trans (by with_reducible assumption) (by simp +arith; done) | (simp; done)))) | ((with_reducible refine Fr.setOld ?_ _ ?_ _); rotate_left; (focus (simp; done)))))))).mono ?_
          rintro e w6 ⟨⟨β, rfl, hβ⟩, f6⟩
          obtain rfl : β = true := hβ.2 rfl
          clear hβ
          have f6' : Fr [] w5 w6 := Fr.trans (S := []) (by repeat' (first | (with_reducible exact Fr.refl _ _) | (with_reducible assumption) | (with_reducible refine Fr.drew ?_) | (with_reducible refine Fr.drewN ?_ _) | (with_reducible refine Fr.alloc ?_ _) | ((with_reducible refine Fr.setNew ?_ _ ?_ _); rotate_left; (focus (first | (with_reducible assumption) | exact Nat.le_of_lt (by with_reducible assumption) | (focus (simp +arith; done)) | exact Nat.le_trans (by with_reducible assumption) (by simp +arith; done) | (simp; done)))) | ((with_reducible refine Fr.setOld ?_ _ ?_ _); rotate_left; (focus (simp; done))))) f6
          have F6 := F5.trans f6'
          apply f6'.use (k := w.heap.size); (focus (repeat (first | (with_reducible assumption) | ((with_reducible refine heap_alloc_at ?_ _); first | (with_reducible rfl) | (focus (simp; done))) | (with_reducible apply heap_alloc_old) | ((with_reducible apply heap_set_other); (case hne => (first | (with_reducible assumption) | exact Nat.ne_of_lt (by with_reducible assumption) | exact Nat.ne_of_gt (by with_reducible assumption) | (focus (simp +arith; done)) | (simp; done)))) | (with_reducible apply heap_set_eq) | (with_reducible apply heap_drew_of) | (with_reducible apply heap_drewN_of)))); (focus (first | (simp; done) | (simp; assumption))); intro hg9 hc9 hz9 _ _ _ _ _; (try simp only [List.setIfInBounds_toArray, List.set_cons_zero, List.set_cons_succ] at hg9 hc9)
          clear f6
          go_wp2_with fail
          refine (rBytes _ _ zs zs (by omega) _ (S5.out.fr f6' (by simp)) (HZ.out.fr F6 (by simp))).mono ?_
          rintro e w7 ⟨⟨β, rfl, hβ⟩, f7⟩
          obtain rfl : β = true := hβ.2 rfl
          clear hβ
          have F7 := F6.trans f7
          apply f7.use (k := w.heap.size); (focus (repeat (first | (with_reducible assumption) | ((with_reducible refine heap_alloc_at ?_ _); first | (with_reducible rfl) | (focus (simp; done))) | (with_reducible apply heap_alloc_old) | ((with_reducible apply heap_set_other); (case hne => (first | (with_reducible assumption) | exact Nat.ne_of_lt (by with_reducible assumption) | exact Nat.ne_of_gt (by with_reducible assumption) | (focus (simp +arith; done)) | (simp; done)))) | (with_reducible apply heap_set_eq) | (with_reducible apply heap_drew_of) | (with_reducible apply heap_drewN_of)))); (focus (first | (simp; done) | (simp; assumption))); intro hg11 hc11 hz11 _ _ _ _ _; (try simp only [List.setIfInBounds_toArray, List.set_cons_zero, List.set_cons_succ] at hg11 hc11)
          go_wp2_with fail
          go_meet
          exact ⟨F7, hg11⟩
      case rest =>
        obtain ⟨Fd, gd1⟩ := hcut
        clear hg3 hc3 hz3 hg4 hc4 hz4 S2 gc1 gc2
        apply blk_use gd1; intro hg1 hc1 hz1 _ _ _ _ _
        go_wp2_with fail
        refine (rcan x.k x.id x.f x.c A x.vs.length ca x.wl (by omega) _).mono ?_
        rintro e w8 ⟨rfl, f8⟩
        have F8 := Fd.trans f8
        go_wp2_with fail
        go_ret
        exact ⟨ret_bool HCC.out, F8⟩
  · by_cases h2 : 100 < (x.vs.length : Int)
    · clear h1
      go_wp2_with fail
      go_ret
      exact ⟨rfl, F1⟩
    · by_cases h3 : 100 < (y.vs.length : Int)
      · clear h1
        go_wp2_with fail
        go_ret
        exact ⟨rfl, F1⟩
      · have h4 : 100 < (zs.length : Int) := by omega
        clear h1
        go_wp2_with fail
        go_ret
        exact ⟨rfl, F1⟩

theorem wireBack_row (g : Addr) (k id f c : Int) (A : Option Addr) (vs : List Int) (ca : Nat) (wl : Bool) (id2 c2 : Int) (B : Option Addr) (us : List Int) (cb : Nat) (C : Option Addr) (zs : List Int) (cc : Nat)
    (_ : (Lit.int .i64 k).wf = true) (_ : (Lit.int .i64 id).wf = true) (_ : (Lit.int .i64 f).wf = true) (_ : (Lit.int .i64 c).wf = true) (hvm : vs.length ≤ maxLen) (_ : vs.length ≤ ca)
    (_ : (Lit.int .i64 id2).wf = true) (_ : (Lit.int .i64 c2).wf = true) (hum : us.length ≤ maxLen) (_ : us.length ≤ cb) (hzm : zs.length ≤ maxLen) (hzc : zs.length ≤ cc) (w : World) (hv : ValsAt w A vs) (hu : ValsAt w B us) (hz : NAt w .u8 255 w.heap.size C zs) (hG : Gl w g) :
    Calls Tryd.prog 8 #[opv k id f c A vs.length ca wl, anv id2 c2 B us.length cb, .slice C zs.length cc] w fun e w' => e = .returned (.bool true) ∧ Fr [] w w' :=
  wireBack_walk g ⟨k, id, f, c, vs, wl⟩ ⟨id2, c2, us⟩ A B C ca cb cc zs hvm hum hzm hzc w hv hu hz hG

end Go.Proofs.YtoebfpimojkamaaDoor
