/- WirePuts answers true at every operation and answer, and changes nothing that was there. -/
import Derived.Test.YtoebfpimojkamaaDoorWireAwake
namespace Go.Proofs.YtoebfpimojkamaaDoor
open Go.RowKit

def codeOf : Option (List Int) → Int
  | none => 1
  | some _ => 0
theorem RowCode.sl {xs : Option (List Int)} {w w' : World} {e : Ending} (h : RowCode xs w e w') (hok : ∀ ys, xs = some ys → byteOk ys) : ∃ v, e = .returned (.tuple #[v, .int .i64 (codeOf xs)]) ∧ SlB w' v (xs.getD []) := by
  rcases h.val with ⟨rfl, rfl⟩ | ⟨v, ys, rfl, rfl, O⟩
  · exact ⟨_, rfl, SlB.nil _⟩
  · exact ⟨v, rfl, O.sl (hok ys rfl)⟩
theorem ansS_bytes {id c : Int} {vs ys : List Int} (h : ansS id c vs = some ys) : byteOk ys ∧ ys.length ≤ 70 := by
  unfold ansS at h
  split at h
  case isFalse => cases h
  case isTrue hc =>
    cases h
    obtain ⟨⟨i0, i1⟩, ⟨c0, c1⟩, v8⟩ := hc
    have hl8 := les_len vs
    have hl : (ansTail id c vs).length = 4 + 8 * vs.length := by simp [ansTail, le_len, hl8]; omega
    rw [recB_small (by omega)]
    refine ⟨byteOk.cons (by omega) (by omega) ?_, by simp; omega⟩
    exact ((byteOk.app (by decide) (le_ok 2 id)).app (le_ok 1 c)).app (les_ok vs)
theorem putS_bytes {k id f c : Int} {vs ys : List Int} {wl : Bool} (h : putS k id f c vs wl = some ys) : byteOk ys ∧ ys.length ≤ 70 := putO_bytes (o := ⟨k, id, f, c, vs, wl⟩) h
theorem putS_len (k id f c : Int) (vs : List Int) (wl : Bool) : ((putS k id f c vs wl).getD []).length ≤ 70 := by
  cases h : putS k id f c vs wl with
  | none => simp
  | some ys => exact (putS_bytes h).2
theorem ansS_len (id c : Int) (vs : List Int) : ((ansS id c vs).getD []).length ≤ 70 := by
  cases h : ansS id c vs with
  | none => simp
  | some ys => exact (ansS_bytes h).2

set_option maxRecDepth 100000 in
set_option maxHeartbeats 8000000 in
theorem wirePuts_walk (g : Addr) (k id f c : Int) (A : Option Addr) (vs : List Int) (ca : Nat) (wl : Bool) (id2 c2 : Int) (B : Option Addr) (us : List Int) (cb : Nat) (hvm : vs.length ≤ maxLen) (hum : us.length ≤ maxLen) (w : World) (hv : ValsAt w A vs) (hu : ValsAt w B us) (hG : Gl w g) :
    Calls Tryd.prog 5 #[opv k id f c A vs.length ca wl, anv id2 c2 B us.length cb] w fun e w' => e = .returned (.bool true) ∧ Fr [] w w' := by
  have hvm' : (vs.length : Int) ≤ 9223372036854775807 := by simp [maxLen] at hvm; omega
  have hum' : (us.length : Int) ≤ 9223372036854775807 := by simp [maxLen] at hum; omega
  have HG := Lib.hid hG
  have HV := Lib.hid hv
  have HU := Lib.hid hu
  clear hvm hum hG hv hu
  go_enter Tryd.func5, Tryd.ntmps5
  go_wp2_with fail
  refine (wawake g _ (Gl.fr (S := []) HG.out (by repeat' (first | (with_reducible exact Fr.refl _ _) | (with_reducible assumption) | (with_reducible refine Fr.drew ?_) | (with_reducible refine Fr.drewN ?_ _) | (with_reducible refine Fr.alloc ?_ _) | ((with_reducible refine Fr.setNew ?_ _ ?_ _); rotate_left; (focus (first | (with_reducible assumption) | exact Nat.le_of_lt (by with_reducible assumption) | (focus (simp +arith; done)) | exact Nat.le_trans (by with_reducible assumption) (by simp +arith; done) | (simp; done)))) | ((with_reducible refine Fr.setOld ?_ _ ?_ _); rotate_left; (focus (simp; done))))) (by simp))).mono ?_
  rintro e w1 ⟨rfl, f1⟩
  apply f1.use (k := w.heap.size); (focus (repeat (first | (with_reducible assumption) | ((with_reducible refine heap_alloc_at ?_ _); first | (with_reducible rfl) | (focus (simp; done))) | (with_reducible apply heap_alloc_old) | ((with_reducible apply heap_set_other); (case hne => (first | (with_reducible assumption) | exact Nat.ne_of_lt (by with_reducible assumption) | exact Nat.ne_of_gt (by with_reducible assumption) | (focus (simp +arith; done)) | (simp; done)))) | (with_reducible apply heap_set_eq) | (with_reducible apply heap_drew_of) | (with_reducible apply heap_drewN_of)))); (focus (first | (simp; done) | (simp; assumption))); intro hg1 hc1 hz1 _ _ _ _ _; (try simp only [List.setIfInBounds_toArray, List.set_cons_zero, List.set_cons_succ] at hg1 hc1)
  apply f1.use (k := w.heap.size+1); (focus (repeat (first | (with_reducible assumption) | ((with_reducible refine heap_alloc_at ?_ _); first | (with_reducible rfl) | (focus (simp; done))) | (with_reducible apply heap_alloc_old) | ((with_reducible apply heap_set_other); (case hne => (first | (with_reducible assumption) | exact Nat.ne_of_lt (by with_reducible assumption) | exact Nat.ne_of_gt (by with_reducible assumption) | (focus (simp +arith; done)) | (simp; done)))) | (with_reducible apply heap_set_eq) | (with_reducible apply heap_drew_of) | (with_reducible apply heap_drewN_of)))); (focus (first | (simp; done) | (simp; assumption))); intro hg2 hc2 hz2 _ _ _ _ _; (try simp only [List.setIfInBounds_toArray, List.set_cons_zero, List.set_cons_succ] at hg2 hc2)
  have F1 : Fr [] w w1 := Fr.trans (S := []) (by repeat' (first | (with_reducible exact Fr.refl _ _) | (with_reducible assumption) | (with_reducible refine Fr.drew ?_) | (with_reducible refine Fr.drewN ?_ _) | (with_reducible refine Fr.alloc ?_ _) | ((with_reducible refine Fr.setNew ?_ _ ?_ _); rotate_left; (focus (first | (with_reducible assumption) | exact Nat.le_of_lt (by with_reducible assumption) | (focus (simp +arith; done)) | exact Nat.le_trans (by with_reducible assumption) (by simp +arith; done) | (simp; done)))) | ((with_reducible refine Fr.setOld ?_ _ ?_ _); rotate_left; (focus (simp; done))))) f1
  clear f1
  by_cases h1 : vs.length ≤ 100 ∧ us.length ≤ 100
  · obtain ⟨h1, h2⟩ := h1
    have h1' : ¬ 100 < (vs.length : Int) := by omega
    have h2' : ¬ 100 < (us.length : Int) := by omega
    have hb1 := fun ys => @putS_bytes k id f c vs ys wl
    have hb2 := fun ys => @ansS_bytes id2 c2 us ys
    have HB1 := Lib.hid hb1
    have HB2 := Lib.hid hb2
    have l1 := putS_len k id f c vs wl
    have l2 := ansS_len id2 c2 us
    clear hb1 hb2
    go_wp2_with fail
    refine (wputop k id f c A ca vs wl (by omega) _ (HV.out.fr F1)).mono ?_
    rintro e w2 h2
    obtain ⟨v2, rfl, S2⟩ := h2.sl (fun ys h => (HB1.out ys h).1)
    have F2 := F1.trans h2.fr
    apply h2.fr.use (k := w.heap.size); (focus (repeat (first | (with_reducible assumption) | ((with_reducible refine heap_alloc_at ?_ _); first | (with_reducible rfl) | (focus (simp; done))) | (with_reducible apply heap_alloc_old) | ((with_reducible apply heap_set_other); (case hne => (first | (with_reducible assumption) | exact Nat.ne_of_lt (by with_reducible assumption) | exact Nat.ne_of_gt (by with_reducible assumption) | (focus (simp +arith; done)) | (simp; done)))) | (with_reducible apply heap_set_eq) | (with_reducible apply heap_drew_of) | (with_reducible apply heap_drewN_of)))); (focus (first | (simp; done) | (simp; assumption))); intro hg3 hc3 hz3 _ _ _ _ _; (try simp only [List.setIfInBounds_toArray, List.set_cons_zero, List.set_cons_succ] at hg3 hc3)
    apply h2.fr.use (k := w.heap.size+1); (focus (repeat (first | (with_reducible assumption) | ((with_reducible refine heap_alloc_at ?_ _); first | (with_reducible rfl) | (focus (simp; done))) | (with_reducible apply heap_alloc_old) | ((with_reducible apply heap_set_other); (case hne => (first | (with_reducible assumption) | exact Nat.ne_of_lt (by with_reducible assumption) | exact Nat.ne_of_gt (by with_reducible assumption) | (focus (simp +arith; done)) | (simp; done)))) | (with_reducible apply heap_set_eq) | (with_reducible apply heap_drew_of) | (with_reducible apply heap_drewN_of)))); (focus (first | (simp; done) | (simp; assumption))); intro hg4 hc4 hz4 _ _ _ _ _; (try simp only [List.setIfInBounds_toArray, List.set_cons_zero, List.set_cons_succ] at hg4 hc4)
    have S2 := Lib.hid S2
    clear h2
    go_wp2_with fail
    refine (rputop k id f c A ca vs wl (by omega) _ (HV.out.fr F2)).mono ?_
    rintro e w3 h3
    obtain ⟨v3, rfl, S3⟩ := h3.sl (fun ys h => (HB1.out ys h).1)
    have F3 := F2.trans h3.fr
    apply h3.fr.use (k := w.heap.size); (focus (repeat (first | (with_reducible assumption) | ((with_reducible refine heap_alloc_at ?_ _); first | (with_reducible rfl) | (focus (simp; done))) | (with_reducible apply heap_alloc_old) | ((with_reducible apply heap_set_other); (case hne => (first | (with_reducible assumption) | exact Nat.ne_of_lt (by with_reducible assumption) | exact Nat.ne_of_gt (by with_reducible assumption) | (focus (simp +arith; done)) | (simp; done)))) | (with_reducible apply heap_set_eq) | (with_reducible apply heap_drew_of) | (with_reducible apply heap_drewN_of)))); (focus (first | (simp; done) | (simp; assumption))); intro hg5 hc5 hz5 _ _ _ _ _; (try simp only [List.setIfInBounds_toArray, List.set_cons_zero, List.set_cons_succ] at hg5 hc5)
    apply h3.fr.use (k := w.heap.size+1); (focus (repeat (first | (with_reducible assumption) | ((with_reducible refine heap_alloc_at ?_ _); first | (with_reducible rfl) | (focus (simp; done))) | (with_reducible apply heap_alloc_old) | ((with_reducible apply heap_set_other); (case hne => (first | (with_reducible assumption) | exact Nat.ne_of_lt (by with_reducible assumption) | exact Nat.ne_of_gt (by with_reducible assumption) | (focus (simp +arith; done)) | (simp; done)))) | (with_reducible apply heap_set_eq) | (with_reducible apply heap_drew_of) | (with_reducible apply heap_drewN_of)))); (focus (first | (simp; done) | (simp; assumption))); intro hg6 hc6 hz6 _ _ _ _ _; (try simp only [List.setIfInBounds_toArray, List.set_cons_zero, List.set_cons_succ] at hg6 hc6)
    have S2 := Lib.hid (S2.out.fr h3.fr (by simp))
    have S3 := Lib.hid S3
    clear h3
    go_wp2_with fail
    refine (wputans id2 c2 B cb us (by omega) _ (HU.out.fr F3)).mono ?_
    rintro e w4 h4
    obtain ⟨v4, rfl, S4⟩ := h4.sl (fun ys h => (HB2.out ys h).1)
    have F4 := F3.trans h4.fr
    apply h4.fr.use (k := w.heap.size); (focus (repeat (first | (with_reducible assumption) | ((with_reducible refine heap_alloc_at ?_ _); first | (with_reducible rfl) | (focus (simp; done))) | (with_reducible apply heap_alloc_old) | ((with_reducible apply heap_set_other); (case hne => (first | (with_reducible assumption) | exact Nat.ne_of_lt (by with_reducible assumption) | exact Nat.ne_of_gt (by with_reducible assumption) | (focus (simp +arith; done)) | (simp; done)))) | (with_reducible apply heap_set_eq) | (with_reducible apply heap_drew_of) | (with_reducible apply heap_drewN_of)))); (focus (first | (simp; done) | (simp; assumption))); intro hg7 hc7 hz7 _ _ _ _ _; (try simp only [List.setIfInBounds_toArray, List.set_cons_zero, List.set_cons_succ] at hg7 hc7)
    apply h4.fr.use (k := w.heap.size+1); (focus (repeat (first | (with_reducible assumption) | ((with_reducible refine heap_alloc_at ?_ _); first | (with_reducible rfl) | (focus (simp; done))) | (with_reducible apply heap_alloc_old) | ((with_reducible apply heap_set_other); (case hne => (first | (with_reducible assumption) | exact Nat.ne_of_lt (by with_reducible assumption) | exact Nat.ne_of_gt (by with_reducible assumption) | (focus (simp +arith; done)) | (simp; done)))) | (with_reducible apply heap_set_eq) | (with_reducible apply heap_drew_of) | (with_reducible apply heap_drewN_of)))); (focus (first | (simp; done) | (simp; assumption))); intro hg8 hc8 hz8 _ _ _ _ _; (try simp only [List.setIfInBounds_toArray, List.set_cons_zero, List.set_cons_succ] at hg8 hc8)
    have S2 := Lib.hid (S2.out.fr h4.fr (by simp))
    have S3 := Lib.hid (S3.out.fr h4.fr (by simp))
    have S4 := Lib.hid S4
    clear h4
    go_wp2_with fail
    refine (rputans id2 c2 B cb us (by omega) _ (HU.out.fr F4)).mono ?_
    rintro e w5 h5
    obtain ⟨v5, rfl, S5⟩ := h5.sl (fun ys h => (HB2.out ys h).1)
    have F5 := F4.trans h5.fr
    have S2 := Lib.hid (S2.out.fr h5.fr (by simp))
    have S3 := Lib.hid (S3.out.fr h5.fr (by simp))
    have S4 := Lib.hid (S4.out.fr h5.fr (by simp))
    have S5 := Lib.hid S5
    clear h5
    generalize putS k id f c vs wl = X at *
    generalize ansS id2 c2 us = Y at *
    have L1 := Lib.hid l1
    have L2 := Lib.hid l2
    clear l1 l2
    generalize codeOf X = cx at *
    generalize codeOf Y = cy at *
    go_wp2_with fail
    refine (rBytes _ _ _ _ (by have := L1.out; omega) _ S2.out S3.out).mono ?_
    rintro e w6 ⟨⟨β, rfl, hβ⟩, f6⟩
    obtain rfl : β = true := hβ.2 rfl
    have F6 := F5.trans f6
    have S4 := Lib.hid (S4.out.fr f6 (by simp))
    have S5 := Lib.hid (S5.out.fr f6 (by simp))
    clear f6
    go_wp2_with fail
    refine (rBytes _ _ _ _ (by have := L2.out; omega) _ S4.out S5.out).mono ?_
    rintro e w7 ⟨⟨β, rfl, hβ⟩, f7⟩
    obtain rfl : β = true := hβ.2 rfl
    have F7 := F6.trans f7
    go_wp2_with fail
    go_ret
    exact ⟨rfl, F7⟩
  · have hno : (decide (100 < (vs.length : Int)) || decide (100 < (us.length : Int))) = true := by
      simp; omega
    by_cases h2 : 100 < (vs.length : Int)
    · go_wp2_with fail
      go_ret
      exact ⟨rfl, F1⟩
    · have h3 : 100 < (us.length : Int) := by omega
      clear h1 hno
      go_wp2_with fail
      go_ret
      exact ⟨rfl, F1⟩

theorem wirePuts_row (g : Addr) (k id f c : Int) (A : Option Addr) (vs : List Int) (ca : Nat) (wl : Bool) (id2 c2 : Int) (B : Option Addr) (us : List Int) (cb : Nat)
    (_ : (Lit.int .i64 k).wf = true) (_ : (Lit.int .i64 id).wf = true) (_ : (Lit.int .i64 f).wf = true) (_ : (Lit.int .i64 c).wf = true) (hvm : vs.length ≤ maxLen) (_ : vs.length ≤ ca)
    (_ : (Lit.int .i64 id2).wf = true) (_ : (Lit.int .i64 c2).wf = true) (hum : us.length ≤ maxLen) (_ : us.length ≤ cb) (w : World) (hv : ValsAt w A vs) (hu : ValsAt w B us) (hG : Gl w g) :
    Calls Tryd.prog 5 #[opv k id f c A vs.length ca wl, anv id2 c2 B us.length cb] w fun e w' => e = .returned (.bool true) ∧ Fr [] w w' :=
  wirePuts_walk g k id f c A vs ca wl id2 c2 B us cb hvm hum w hv hu hG

end Go.Proofs.YtoebfpimojkamaaDoor
