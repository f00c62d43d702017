/- WireReads answers true at all bytes, and changes nothing that was there. -/
import Derived.Test.YtoebfpimojkamaaDoorWirePutsWalk
namespace Go.Proofs.YtoebfpimojkamaaDoor
open Go.RowKit

def op0 : OpD := ⟨0, 0, 0, 0, [], false⟩
def an0 : AnD := ⟨0, 0, []⟩
def rdO (xs : List Int) : OpD := match readS xs with | some (o, _) => o | none => op0
def rdR (xs : List Int) : List Int := match readS xs with | some (_, r) => r | none => []
def rdC (xs : List Int) : Int := match readS xs with | some _ => 0 | none => 9
def anO (xs : List Int) : AnD := match ansRd xs with | some (o, _) => o | none => an0
def anR (xs : List Int) : List Int := match ansRd xs with | some (_, r) => r | none => []
def anC (xs : List Int) : Int := match ansRd xs with | some _ => 0 | none => 9

theorem ReadPost.sl {xs : List Int} {w w' : World} {e : Ending} (h : ReadPost xs w e w') (hb : byteOk xs) :
    ∃ A cap B, e = .returned (.tuple #[opv (rdO xs).k (rdO xs).id (rdO xs).f (rdO xs).c A (rdO xs).vs.length cap (rdO xs).wl, B, .int .i64 (rdC xs)]) ∧ ValsIn w' A (rdO xs).vs ∧ SlB w' B (rdR xs) := by
  rcases h.val with ⟨hr, rfl⟩ | ⟨o, rest, A, cap, B, hr, rfl, hV, hO, _⟩
  · exact ⟨none, 0, .slice none 0 0, by simp [rdO, rdC, hr, op0], by simp [rdO, hr, op0]; exact NAt.nil _ _ _ _ _, by simp [rdR, hr]; exact SlB.nil _⟩
  · exact ⟨A, cap, B, by simp [rdO, rdC, hr], by simp [rdO, hr]; exact hV, by simp [rdR, hr]; exact hO.sl (readS_ok hb hr)⟩
theorem RReadPost.sl {top : Nat} {xs : List Int} {w w' : World} {e : Ending} (h : RReadPost top xs w e w') (ht : top ≤ w'.heap.size) :
    ∃ A cap B, e = .returned (.tuple #[opv (rdO xs).k (rdO xs).id (rdO xs).f (rdO xs).c A (rdO xs).vs.length cap (rdO xs).wl, B, .int .i64 (rdC xs)]) ∧ ValsIn w' A (rdO xs).vs ∧ SlB w' B (rdR xs) := by
  rcases h.val with ⟨hr, rfl⟩ | ⟨o, rest, A, cap, B, hr, rfl, hV, hO, _⟩
  · exact ⟨none, 0, .slice none 0 0, by simp [rdO, rdC, hr, op0], by simp [rdO, hr, op0]; exact NAt.nil _ _ _ _ _, by simp [rdR, hr]; exact SlB.nil _⟩
  · exact ⟨A, cap, B, by simp [rdO, rdC, hr], by simp [rdO, hr]; exact hV, by simp [rdR, hr]; exact hO.sl ht⟩
theorem AnsPost.sl {xs : List Int} {w w' : World} {e : Ending} (h : AnsPost xs w e w') :
    ∃ A cap B, e = .returned (.tuple #[anv (anO xs).id (anO xs).c A (anO xs).vs.length cap, B, .int .i64 (anC xs)]) ∧ ValsIn w' A (anO xs).vs ∧ SlB w' B (anR xs) := by
  rcases h.val with ⟨hr, rfl⟩ | ⟨o, rest, A, cap, B, hr, rfl, hV, hO⟩
  · exact ⟨none, 0, .slice none 0 0, by simp [anO, anC, hr, an0], by simp [anO, hr, an0]; exact NAt.nil _ _ _ _ _, by simp [anR, hr]; exact SlB.nil _⟩
  · exact ⟨A, cap, B, by simp [anO, anC, hr], by simp [anO, hr]; exact hV, by simp [anR, hr]; exact hO⟩
theorem recOf_len {xs r rest : List Int} (h : recOf xs = some (r, rest)) : rest.length ≤ xs.length ∧ r.length ≤ xs.length := rec_len h
theorem readS_vs {xs rest : List Int} {o : OpD} (hb : byteOk xs) (h : readS xs = some (o, rest)) : o.vs.length ≤ 8 := by
  obtain ⟨ys, h1, _, _⟩ := readS_inv hb h
  exact (tail_len h1).1.2.2.2.2.1
theorem rdO_len {xs : List Int} (hb : byteOk xs) : (rdO xs).vs.length ≤ 8 := by
  unfold rdO
  cases h : readS xs with
  | none => simp [op0]
  | some p => exact readS_vs hb h
theorem rdR_len (xs : List Int) : (rdR xs).length ≤ xs.length := by
  unfold rdR
  cases h : readS xs with
  | none => simp
  | some p => exact Nat.le_of_lt (readS_len h)
theorem anO_len (xs : List Int) : (anO xs).vs.length ≤ 8 := by
  unfold anO
  cases h : ansRd xs with
  | none => simp [an0]
  | some p =>
    unfold ansRd at h
    simp only [Option.bind_eq_some_iff, Option.map_eq_some_iff] at h
    obtain ⟨q, _, a, h2, rfl⟩ := h
    unfold ansR at h2
    split at h2
    case isFalse => cases h2
    case isTrue hc =>
      cases h2
      simp only [wordsN_len]
      omega
theorem anR_len (xs : List Int) : (anR xs).length ≤ xs.length := by
  unfold anR
  cases h : ansRd xs with
  | none => simp
  | some p =>
    unfold ansRd at h
    simp only [Option.bind_eq_some_iff, Option.map_eq_some_iff] at h
    obtain ⟨q, h1, a, _, rfl⟩ := h
    exact (rec_len h1).1
theorem Scr.vals {xs ys : List Int} {l : List OpD} (h : Scr xs l ys) : byteOk xs → ∀ o ∈ l, o.vs.length ≤ 1000000 := by
  induction h with
  | nil => intro _ o ho; simp at ho
  | cons h1 _ ih =>
    intro hb o ho
    rcases List.mem_cons.1 ho with rfl | ho
    · have := readS_vs hb h1; omega
    · exact ih (readS_ok hb h1) o ho

theorem rreadv (v : Value) (xs : List Int) (hl : xs.length ≤ 1000) (w : World) (hv : SlB w v xs) :
    Calls Tryd.prog 21 #[v] w fun e w' => RReadPost w.heap.size xs w e w' := by
  obtain ⟨A, cap, rfl, h1, h2⟩ := hv
  exact rread A cap xs h2 hl w.heap.size w (Nat.le_refl _) h1
theorem rreadansv (v : Value) (xs : List Int) (hl : xs.length ≤ 1000) (w : World) (hv : SlB w v xs) :
    Calls Tryd.prog 23 #[v] w fun e w' => AnsPost xs w e w' := by
  obtain ⟨A, cap, rfl, h1, h2⟩ := hv
  exact rreadans A cap xs h2 hl w h1
theorem rscriptv (v : Value) (xs : List Int) (hl : xs.length ≤ 1000) (w : World) (hv : SlB w v xs) :
    Calls Tryd.prog 24 #[v] w fun e w' => ScrPost xs w e w' := by
  obtain ⟨A, cap, rfl, h1, h2⟩ := hv
  exact rscript A cap xs h2 hl w h1

set_option maxRecDepth 100000 in
set_option maxHeartbeats 16000000 in
theorem wireReads_walk (g : Addr) (A : Option Addr) (xs : List Int) (ca : Nat) (hvm : xs.length ≤ maxLen) (hca : xs.length ≤ ca) (w : World) (hv : NAt w .u8 255 w.heap.size A xs) (hG : Gl w g) :
    Calls Tryd.prog 7 #[.slice A xs.length ca] w fun e w' => e = .returned (.bool true) ∧ Fr [] w w' := by
  have hvm' : (xs.length : Int) ≤ 9223372036854775807 := by simp [maxLen] at hvm; omega
  have HG := Lib.hid hG
  have HM := Lib.hid hv.mem
  have HS : Hid (SlB w (.slice A xs.length ca) xs) := ⟨A, ca, rfl, hv, hca⟩
  clear hvm hG hv
  go_enter Tryd.func7, Tryd.ntmps7
  go_wp2_with fail
  refine (wawake g _ HG.out).mono ?_
  rintro e w1 ⟨rfl, F1⟩
  by_cases h1 : xs.length ≤ 600
  · have h1' : ¬ 600 < (xs.length : Int) := by omega
    have lo := rdO_len HM.out
    have lr := rdR_len xs
    have la := anO_len xs
    have lq := anR_len xs
    have LO := Lib.hid lo
    have LR := Lib.hid lr
    have LA := Lib.hid la
    have LQ := Lib.hid lq
    clear lo lr la lq
    go_wp2_with fail
    refine (wreadv _ xs g (by omega) _ (HS.out.fr F1 (by simp)) (HG.out.fr F1 (by simp))).mono ?_
    rintro e w2 h2
    obtain ⟨A2, c2, B2, rfl, V2, S2⟩ := h2.sl HM.out
    have F2 := F1.trans h2.fr
    have V2 := Lib.hid V2
    have S2 := Lib.hid S2
    clear h2
    go_wp2_with fail
    refine (rreadv _ xs (by omega) _ (HS.out.fr (S := []) (Fr.trans (S := []) F2 (by repeat' (first | (with_reducible exact Fr.refl _ _) | (with_reducible assumption) | (with_reducible refine Fr.drew ?_) | (with_reducible refine Fr.drewN ?_ _) | (with_reducible refine Fr.alloc ?_ _) | ((with_reducible refine Fr.setNew ?_ _ ?_ _); rotate_left; (focus (first | (with_reducible assumption) | exact Nat.le_of_lt (by with_reducible assumption) | (focus (simp +arith; done)) | exact Nat.le_trans (by with_reducible assumption) (by simp +arith; done) | (simp; done)))) | ((with_reducible refine Fr.setOld ?_ _ ?_ _); rotate_left; (focus (simp; done)))))) (by simp))).mono ?_
    rintro e w3 h3
    obtain ⟨A3, c3, B3, rfl, V3, S3⟩ := h3.sl h3.fr.size
    have f3 : Fr [] w2 w3 := Fr.trans (S := []) (by repeat' (first | (with_reducible exact Fr.refl _ _) | (with_reducible assumption) | (with_reducible refine Fr.drew ?_) | (with_reducible refine Fr.drewN ?_ _) | (with_reducible refine Fr.alloc ?_ _) | ((with_reducible refine Fr.setNew ?_ _ ?_ _); rotate_left; (focus (first | (with_reducible assumption) | exact Nat.le_of_lt (by with_reducible assumption) | (focus (simp +arith; done)) | exact Nat.le_trans (by with_reducible assumption) (by simp +arith; done) | (simp; done)))) | ((with_reducible refine Fr.setOld ?_ _ ?_ _); rotate_left; (focus (simp; done))))) h3.fr
    have F3 := F2.trans f3
    apply h3.fr.use (k := w2.heap.size); (focus (repeat (first | (with_reducible assumption) | ((with_reducible refine heap_alloc_at ?_ _); first | (with_reducible rfl) | (focus (simp; done))) | (with_reducible apply heap_alloc_old) | ((with_reducible apply heap_set_other); (case hne => (first | (with_reducible assumption) | exact Nat.ne_of_lt (by with_reducible assumption) | exact Nat.ne_of_gt (by with_reducible assumption) | (focus (simp +arith; done)) | (simp; done)))) | (with_reducible apply heap_set_eq) | (with_reducible apply heap_drew_of) | (with_reducible apply heap_drewN_of)))); (focus (first | (simp; done) | (simp; assumption))); intro hg3 hc3 hz3 _ _ _ _ _; (try simp only [List.setIfInBounds_toArray, List.set_cons_zero, List.set_cons_succ] at hg3 hc3)
    have V3 := Lib.hid V3
    have S3 := Lib.hid S3
    clear h3
    have V2 := Lib.hid ((NAt.fr (S := []) V2.out f3 (Nat.le_refl _) (by simp)).up f3.size)
    have S2 := Lib.hid (S2.out.fr f3 (by simp))
    clear f3
    go_wp2_with fail
    refine (wreadansv _ xs g (by omega) _ (HS.out.fr (S := []) (Fr.trans (S := []) F3 (by repeat' (first | (with_reducible exact Fr.refl _ _) | (with_reducible assumption) | (with_reducible refine Fr.drew ?_) | (with_reducible refine Fr.drewN ?_ _) | (with_reducible refine Fr.alloc ?_ _) | ((with_reducible refine Fr.setNew ?_ _ ?_ _); rotate_left; (focus (first | (with_reducible assumption) | exact Nat.le_of_lt (by with_reducible assumption) | (focus (simp +arith; done)) | exact Nat.le_trans (by with_reducible assumption) (by simp +arith; done) | (simp; done)))) | ((with_reducible refine Fr.setOld ?_ _ ?_ _); rotate_left; (focus (simp; done)))))) (by simp)) (HG.out.fr (S := []) (Fr.trans (S := []) F3 (by repeat' (first | (with_reducible exact Fr.refl _ _) | (with_reducible assumption) | (with_reducible refine Fr.drew ?_) | (with_reducible refine Fr.drewN ?_ _) | (with_reducible refine Fr.alloc ?_ _) | ((with_reducible refine Fr.setNew ?_ _ ?_ _); rotate_left; (focus (first | (with_reducible assumption) | exact Nat.le_of_lt (by with_reducible assumption) | (focus (simp +arith; done)) | exact Nat.le_trans (by with_reducible assumption) (by simp +arith; done) | (simp; done)))) | ((with_reducible refine Fr.setOld ?_ _ ?_ _); rotate_left; (focus (simp; done)))))) (by simp))).mono ?_
    rintro e w4 h4
    obtain ⟨A4, c4, B4, rfl, V4, S4⟩ := h4.sl
    have f4 : Fr [] w3 w4 := Fr.trans (S := []) (by repeat' (first | (with_reducible exact Fr.refl _ _) | (with_reducible assumption) | (with_reducible refine Fr.drew ?_) | (with_reducible refine Fr.drewN ?_ _) | (with_reducible refine Fr.alloc ?_ _) | ((with_reducible refine Fr.setNew ?_ _ ?_ _); rotate_left; (focus (first | (with_reducible assumption) | exact Nat.le_of_lt (by with_reducible assumption) | (focus (simp +arith; done)) | exact Nat.le_trans (by with_reducible assumption) (by simp +arith; done) | (simp; done)))) | ((with_reducible refine Fr.setOld ?_ _ ?_ _); rotate_left; (focus (simp; done))))) h4.fr
    have F4 := F3.trans f4
    apply h4.fr.use (k := w2.heap.size); (focus (repeat (first | (with_reducible assumption) | ((with_reducible refine heap_alloc_at ?_ _); first | (with_reducible rfl) | (focus (simp; done))) | (with_reducible apply heap_alloc_old) | ((with_reducible apply heap_set_other); (case hne => (first | (with_reducible assumption) | exact Nat.ne_of_lt (by with_reducible assumption) | exact Nat.ne_of_gt (by with_reducible assumption) | (focus (simp +arith; done)) | (simp; done)))) | (with_reducible apply heap_set_eq) | (with_reducible apply heap_drew_of) | (with_reducible apply heap_drewN_of)))); (focus (first | (simp; done) | (simp; assumption))); intro hg4 hc4 hz4 _ _ _ _ _; (try simp only [List.setIfInBounds_toArray, List.set_cons_zero, List.set_cons_succ] at hg4 hc4)
    apply h4.fr.use (k := w3.heap.size); (focus (repeat (first | (with_reducible assumption) | ((with_reducible refine heap_alloc_at ?_ _); first | (with_reducible rfl) | (focus (simp; done))) | (with_reducible apply heap_alloc_old) | ((with_reducible apply heap_set_other); (case hne => (first | (with_reducible assumption) | exact Nat.ne_of_lt (by with_reducible assumption) | exact Nat.ne_of_gt (by with_reducible assumption) | (focus (simp +arith; done)) | (simp; done)))) | (with_reducible apply heap_set_eq) | (with_reducible apply heap_drew_of) | (with_reducible apply heap_drewN_of)))); (focus (first | (simp; done) | (simp; assumption))); intro hg5 hc5 hz5 _ _ _ _ _; (try simp only [List.setIfInBounds_toArray, List.set_cons_zero, List.set_cons_succ] at hg5 hc5)
    have V4 := Lib.hid V4
    have S4 := Lib.hid S4
    clear h4
    have V2 := Lib.hid ((NAt.fr (S := []) V2.out f4 (Nat.le_refl _) (by simp)).up f4.size)
    have V3 := Lib.hid ((NAt.fr (S := []) V3.out f4 (Nat.le_refl _) (by simp)).up f4.size)
    have S2 := Lib.hid (S2.out.fr f4 (by simp))
    have S3 := Lib.hid (S3.out.fr f4 (by simp))
    clear f4
    go_wp2_with fail
    refine (rreadansv _ xs (by omega) _ (HS.out.fr (S := []) (Fr.trans (S := []) F4 (by repeat' (first | (with_reducible exact Fr.refl _ _) | (with_reducible assumption) | (with_reducible refine Fr.drew ?_) | (with_reducible refine Fr.drewN ?_ _) | (with_reducible refine Fr.alloc ?_ _) | ((with_reducible refine Fr.setNew ?_ _ ?_ _); rotate_left; (focus (first | (with_reducible assumption) | exact Nat.le_of_lt (by with_reducible assumption) | (focus (simp +arith; done)) | exact Nat.le_trans (by with_reducible assumption) (by simp +arith; done) | (simp; done)))) | ((with_reducible refine Fr.setOld ?_ _ ?_ _); rotate_left; (focus (simp; done)))))) (by simp))).mono ?_
    rintro e w5 h5
    obtain ⟨A5, c5, B5, rfl, V5, S5⟩ := h5.sl
    have f5 : Fr [] w4 w5 := Fr.trans (S := []) (by repeat' (first | (with_reducible exact Fr.refl _ _) | (with_reducible assumption) | (with_reducible refine Fr.drew ?_) | (with_reducible refine Fr.drewN ?_ _) | (with_reducible refine Fr.alloc ?_ _) | ((with_reducible refine Fr.setNew ?_ _ ?_ _); rotate_left; (focus (first | (with_reducible assumption) | exact Nat.le_of_lt (by with_reducible assumption) | (focus (simp +arith; done)) | exact Nat.le_trans (by with_reducible assumption) (by simp +arith; done) | (simp; done)))) | ((with_reducible refine Fr.setOld ?_ _ ?_ _); rotate_left; (focus (simp; done))))) h5.fr
    have F5 := F4.trans f5
    apply h5.fr.use (k := w2.heap.size); (focus (repeat (first | (with_reducible assumption) | ((with_reducible refine heap_alloc_at ?_ _); first | (with_reducible rfl) | (focus (simp; done))) | (with_reducible apply heap_alloc_old) | ((with_reducible apply heap_set_other); (case hne => (first | (with_reducible assumption) | exact Nat.ne_of_lt (by with_reducible assumption) | exact Nat.ne_of_gt (by with_reducible assumption) | (focus (simp +arith; done)) | (simp; done)))) | (with_reducible apply heap_set_eq) | (with_reducible apply heap_drew_of) | (with_reducible apply heap_drewN_of)))); (focus (first | (simp; done) | (simp; assumption))); intro hg6 hc6 hz6 _ _ _ _ _; (try simp only [List.setIfInBounds_toArray, List.set_cons_zero, List.set_cons_succ] at hg6 hc6)
    apply h5.fr.use (k := w3.heap.size); (focus (repeat (first | (with_reducible assumption) | ((with_reducible refine heap_alloc_at ?_ _); first | (with_reducible rfl) | (focus (simp; done))) | (with_reducible apply heap_alloc_old) | ((with_reducible apply heap_set_other); (case hne => (first | (with_reducible assumption) | exact Nat.ne_of_lt (by with_reducible assumption) | exact Nat.ne_of_gt (by with_reducible assumption) | (focus (simp +arith; done)) | (simp; done)))) | (with_reducible apply heap_set_eq) | (with_reducible apply heap_drew_of) | (with_reducible apply heap_drewN_of)))); (focus (first | (simp; done) | (simp; assumption))); intro hg7 hc7 hz7 _ _ _ _ _; (try simp only [List.setIfInBounds_toArray, List.set_cons_zero, List.set_cons_succ] at hg7 hc7)
    apply h5.fr.use (k := w4.heap.size); (focus (repeat (first | (with_reducible assumption) | ((with_reducible refine heap_alloc_at ?_ _); first | (with_reducible rfl) | (focus (simp; done))) | (with_reducible apply heap_alloc_old) | ((with_reducible apply heap_set_other); (case hne => (first | (with_reducible assumption) | exact Nat.ne_of_lt (by with_reducible assumption) | exact Nat.ne_of_gt (by with_reducible assumption) | (focus (simp +arith; done)) | (simp; done)))) | (with_reducible apply heap_set_eq) | (with_reducible apply heap_drew_of) | (with_reducible apply heap_drewN_of)))); (focus (first | (simp; done) | (simp; assumption))); intro hg8 hc8 hz8 _ _ _ _ _; (try simp only [List.setIfInBounds_toArray, List.set_cons_zero, List.set_cons_succ] at hg8 hc8)
    have V5 := Lib.hid V5
    have S5 := Lib.hid S5
    clear h5
    have V2 := Lib.hid ((NAt.fr (S := []) V2.out f5 (Nat.le_refl _) (by simp)).up f5.size)
    have V3 := Lib.hid ((NAt.fr (S := []) V3.out f5 (Nat.le_refl _) (by simp)).up f5.size)
    have V4 := Lib.hid ((NAt.fr (S := []) V4.out f5 (Nat.le_refl _) (by simp)).up f5.size)
    have S2 := Lib.hid (S2.out.fr f5 (by simp))
    have S3 := Lib.hid (S3.out.fr f5 (by simp))
    have S4 := Lib.hid (S4.out.fr f5 (by simp))
    clear f5
    go_wp2_with fail
    refine (wscriptv _ xs g (by omega) _ (HS.out.fr (S := []) (Fr.trans (S := []) F5 (by repeat' (first | (with_reducible exact Fr.refl _ _) | (with_reducible assumption) | (with_reducible refine Fr.drew ?_) | (with_reducible refine Fr.drewN ?_ _) | (with_reducible refine Fr.alloc ?_ _) | ((with_reducible refine Fr.setNew ?_ _ ?_ _); rotate_left; (focus (first | (with_reducible assumption) | exact Nat.le_of_lt (by with_reducible assumption) | (focus (simp +arith; done)) | exact Nat.le_trans (by with_reducible assumption) (by simp +arith; done) | (simp; done)))) | ((with_reducible refine Fr.setOld ?_ _ ?_ _); rotate_left; (focus (simp; done)))))) (by simp)) (HG.out.fr (S := []) (Fr.trans (S := []) F5 (by repeat' (first | (with_reducible exact Fr.refl _ _) | (with_reducible assumption) | (with_reducible refine Fr.drew ?_) | (with_reducible refine Fr.drewN ?_ _) | (with_reducible refine Fr.alloc ?_ _) | ((with_reducible refine Fr.setNew ?_ _ ?_ _); rotate_left; (focus (first | (with_reducible assumption) | exact Nat.le_of_lt (by with_reducible assumption) | (focus (simp +arith; done)) | exact Nat.le_trans (by with_reducible assumption) (by simp +arith; done) | (simp; done)))) | ((with_reducible refine Fr.setOld ?_ _ ?_ _); rotate_left; (focus (simp; done)))))) (by simp))).mono ?_
    rintro e w6 ⟨⟨v6, l6, y6, rfl, hs6, hn6, O6⟩, h6⟩
    have f6 : Fr [] w5 w6 := Fr.trans (S := []) (by repeat' (first | (with_reducible exact Fr.refl _ _) | (with_reducible assumption) | (with_reducible refine Fr.drew ?_) | (with_reducible refine Fr.drewN ?_ _) | (with_reducible refine Fr.alloc ?_ _) | ((with_reducible refine Fr.setNew ?_ _ ?_ _); rotate_left; (focus (first | (with_reducible assumption) | exact Nat.le_of_lt (by with_reducible assumption) | (focus (simp +arith; done)) | exact Nat.le_trans (by with_reducible assumption) (by simp +arith; done) | (simp; done)))) | ((with_reducible refine Fr.setOld ?_ _ ?_ _); rotate_left; (focus (simp; done))))) h6
    have F6 := F5.trans f6
    apply h6.use (k := w2.heap.size); (focus (repeat (first | (with_reducible assumption) | ((with_reducible refine heap_alloc_at ?_ _); first | (with_reducible rfl) | (focus (simp; done))) | (with_reducible apply heap_alloc_old) | ((with_reducible apply heap_set_other); (case hne => (first | (with_reducible assumption) | exact Nat.ne_of_lt (by with_reducible assumption) | exact Nat.ne_of_gt (by with_reducible assumption) | (focus (simp +arith; done)) | (simp; done)))) | (with_reducible apply heap_set_eq) | (with_reducible apply heap_drew_of) | (with_reducible apply heap_drewN_of)))); (focus (first | (simp; done) | (simp; assumption))); intro hg9 hc9 hz9 _ _ _ _ _; (try simp only [List.setIfInBounds_toArray, List.set_cons_zero, List.set_cons_succ] at hg9 hc9)
    apply h6.use (k := w3.heap.size); (focus (repeat (first | (with_reducible assumption) | ((with_reducible refine heap_alloc_at ?_ _); first | (with_reducible rfl) | (focus (simp; done))) | (with_reducible apply heap_alloc_old) | ((with_reducible apply heap_set_other); (case hne => (first | (with_reducible assumption) | exact Nat.ne_of_lt (by with_reducible assumption) | exact Nat.ne_of_gt (by with_reducible assumption) | (focus (simp +arith; done)) | (simp; done)))) | (with_reducible apply heap_set_eq) | (with_reducible apply heap_drew_of) | (with_reducible apply heap_drewN_of)))); (focus (first | (simp; done) | (simp; assumption))); intro hg10 hc10 hz10 _ _ _ _ _; (try simp only [List.setIfInBounds_toArray, List.set_cons_zero, List.set_cons_succ] at hg10 hc10)
    apply h6.use (k := w4.heap.size); (focus (repeat (first | (with_reducible assumption) | ((with_reducible refine heap_alloc_at ?_ _); first | (with_reducible rfl) | (focus (simp; done))) | (with_reducible apply heap_alloc_old) | ((with_reducible apply heap_set_other); (case hne => (first | (with_reducible assumption) | exact Nat.ne_of_lt (by with_reducible assumption) | exact Nat.ne_of_gt (by with_reducible assumption) | (focus (simp +arith; done)) | (simp; done)))) | (with_reducible apply heap_set_eq) | (with_reducible apply heap_drew_of) | (with_reducible apply heap_drewN_of)))); (focus (first | (simp; done) | (simp; assumption))); intro hg11 hc11 hz11 _ _ _ _ _; (try simp only [List.setIfInBounds_toArray, List.set_cons_zero, List.set_cons_succ] at hg11 hc11)
    apply h6.use (k := w5.heap.size); (focus (repeat (first | (with_reducible assumption) | ((with_reducible refine heap_alloc_at ?_ _); first | (with_reducible rfl) | (focus (simp; done))) | (with_reducible apply heap_alloc_old) | ((with_reducible apply heap_set_other); (case hne => (first | (with_reducible assumption) | exact Nat.ne_of_lt (by with_reducible assumption) | exact Nat.ne_of_gt (by with_reducible assumption) | (focus (simp +arith; done)) | (simp; done)))) | (with_reducible apply heap_set_eq) | (with_reducible apply heap_drew_of) | (with_reducible apply heap_drewN_of)))); (focus (first | (simp; done) | (simp; assumption))); intro hg12 hc12 hz12 _ _ _ _ _; (try simp only [List.setIfInBounds_toArray, List.set_cons_zero, List.set_cons_succ] at hg12 hc12)
    clear h6
    have P6 := Lib.hid O6.reads
    clear O6
    have HS6 := Lib.hid hs6
    have HN6 := Lib.hid hn6
    clear hs6 hn6
    have V2 := Lib.hid ((NAt.fr (S := []) V2.out f6 (Nat.le_refl _) (by simp)).up f6.size)
    have V3 := Lib.hid ((NAt.fr (S := []) V3.out f6 (Nat.le_refl _) (by simp)).up f6.size)
    have V4 := Lib.hid ((NAt.fr (S := []) V4.out f6 (Nat.le_refl _) (by simp)).up f6.size)
    have V5 := Lib.hid ((NAt.fr (S := []) V5.out f6 (Nat.le_refl _) (by simp)).up f6.size)
    have S2 := Lib.hid (S2.out.fr f6 (by simp))
    have S3 := Lib.hid (S3.out.fr f6 (by simp))
    have S4 := Lib.hid (S4.out.fr f6 (by simp))
    have S5 := Lib.hid (S5.out.fr f6 (by simp))
    clear f6
    go_wp2_with fail
    refine (rscriptv _ xs (by omega) _ (HS.out.fr F6 (by simp))).mono ?_
    rintro e w7 ⟨⟨v7, l7, y7, rfl, hs7, hn7, O7⟩, f7⟩
    obtain ⟨rfl, rfl⟩ := HS6.out.same HN6.out hs7 hn7
    have F7 := F6.trans f7
    apply f7.use (k := w2.heap.size); (focus (repeat (first | (with_reducible assumption) | ((with_reducible refine heap_alloc_at ?_ _); first | (with_reducible rfl) | (focus (simp; done))) | (with_reducible apply heap_alloc_old) | ((with_reducible apply heap_set_other); (case hne => (first | (with_reducible assumption) | exact Nat.ne_of_lt (by with_reducible assumption) | exact Nat.ne_of_gt (by with_reducible assumption) | (focus (simp +arith; done)) | (simp; done)))) | (with_reducible apply heap_set_eq) | (with_reducible apply heap_drew_of) | (with_reducible apply heap_drewN_of)))); (focus (first | (simp; done) | (simp; assumption))); intro hg13 hc13 hz13 _ _ _ _ _; (try simp only [List.setIfInBounds_toArray, List.set_cons_zero, List.set_cons_succ] at hg13 hc13)
    apply f7.use (k := w3.heap.size); (focus (repeat (first | (with_reducible assumption) | ((with_reducible refine heap_alloc_at ?_ _); first | (with_reducible rfl) | (focus (simp; done))) | (with_reducible apply heap_alloc_old) | ((with_reducible apply heap_set_other); (case hne => (first | (with_reducible assumption) | exact Nat.ne_of_lt (by with_reducible assumption) | exact Nat.ne_of_gt (by with_reducible assumption) | (focus (simp +arith; done)) | (simp; done)))) | (with_reducible apply heap_set_eq) | (with_reducible apply heap_drew_of) | (with_reducible apply heap_drewN_of)))); (focus (first | (simp; done) | (simp; assumption))); intro hg14 hc14 hz14 _ _ _ _ _; (try simp only [List.setIfInBounds_toArray, List.set_cons_zero, List.set_cons_succ] at hg14 hc14)
    apply f7.use (k := w4.heap.size); (focus (repeat (first | (with_reducible assumption) | ((with_reducible refine heap_alloc_at ?_ _); first | (with_reducible rfl) | (focus (simp; done))) | (with_reducible apply heap_alloc_old) | ((with_reducible apply heap_set_other); (case hne => (first | (with_reducible assumption) | exact Nat.ne_of_lt (by with_reducible assumption) | exact Nat.ne_of_gt (by with_reducible assumption) | (focus (simp +arith; done)) | (simp; done)))) | (with_reducible apply heap_set_eq) | (with_reducible apply heap_drew_of) | (with_reducible apply heap_drewN_of)))); (focus (first | (simp; done) | (simp; assumption))); intro hg15 hc15 hz15 _ _ _ _ _; (try simp only [List.setIfInBounds_toArray, List.set_cons_zero, List.set_cons_succ] at hg15 hc15)
    apply f7.use (k := w5.heap.size); (focus (repeat (first | (with_reducible assumption) | ((with_reducible refine heap_alloc_at ?_ _); first | (with_reducible rfl) | (focus (simp; done))) | (with_reducible apply heap_alloc_old) | ((with_reducible apply heap_set_other); (case hne => (first | (with_reducible assumption) | exact Nat.ne_of_lt (by with_reducible assumption) | exact Nat.ne_of_gt (by with_reducible assumption) | (focus (simp +arith; done)) | (simp; done)))) | (with_reducible apply heap_set_eq) | (with_reducible apply heap_drew_of) | (with_reducible apply heap_drewN_of)))); (focus (first | (simp; done) | (simp; assumption))); intro hg16 hc16 hz16 _ _ _ _ _; (try simp only [List.setIfInBounds_toArray, List.set_cons_zero, List.set_cons_succ] at hg16 hc16)
    have P6 := Lib.hid (P6.out.fr f7 (by simp))
    have P7 := Lib.hid O7.reads
    clear O7
    have hl6 := HS6.out.len
    have LV := Lib.hid (HS6.out.vals HM.out)
    clear hs7 hn7
    have V2 := Lib.hid ((NAt.fr (S := []) V2.out f7 (Nat.le_refl _) (by simp)).up f7.size)
    have V3 := Lib.hid ((NAt.fr (S := []) V3.out f7 (Nat.le_refl _) (by simp)).up f7.size)
    have V4 := Lib.hid ((NAt.fr (S := []) V4.out f7 (Nat.le_refl _) (by simp)).up f7.size)
    have V5 := Lib.hid ((NAt.fr (S := []) V5.out f7 (Nat.le_refl _) (by simp)).up f7.size)
    have S2 := Lib.hid (S2.out.fr f7 (by simp))
    have S3 := Lib.hid (S3.out.fr f7 (by simp))
    have S4 := Lib.hid (S4.out.fr f7 (by simp))
    have S5 := Lib.hid (S5.out.fr f7 (by simp))
    clear f7
    generalize rdO xs = o at *
    generalize rdC xs = cd at *
    generalize rdR xs = rr at *
    generalize anO xs = p at *
    generalize anC xs = cp at *
    generalize anR xs = pr at *
    go_wp2_with fail
    refine (rSame o o A2 A3 c2 c3 (by have := LO.out; omega) (by have := LO.out; omega) _ V2.out V3.out).mono ?_
    rintro e w8 ⟨⟨β, rfl, hβ⟩, f8⟩
    obtain rfl : β = true := hβ.2 rfl
    have F8 := F7.trans f8
    apply f8.use (k := w4.heap.size); (focus (repeat (first | (with_reducible assumption) | ((with_reducible refine heap_alloc_at ?_ _); first | (with_reducible rfl) | (focus (simp; done))) | (with_reducible apply heap_alloc_old) | ((with_reducible apply heap_set_other); (case hne => (first | (with_reducible assumption) | exact Nat.ne_of_lt (by with_reducible assumption) | exact Nat.ne_of_gt (by with_reducible assumption) | (focus (simp +arith; done)) | (simp; done)))) | (with_reducible apply heap_set_eq) | (with_reducible apply heap_drew_of) | (with_reducible apply heap_drewN_of)))); (focus (first | (simp; done) | (simp; assumption))); intro hg17 hc17 hz17 _ _ _ _ _; (try simp only [List.setIfInBounds_toArray, List.set_cons_zero, List.set_cons_succ] at hg17 hc17)
    apply f8.use (k := w5.heap.size); (focus (repeat (first | (with_reducible assumption) | ((with_reducible refine heap_alloc_at ?_ _); first | (with_reducible rfl) | (focus (simp; done))) | (with_reducible apply heap_alloc_old) | ((with_reducible apply heap_set_other); (case hne => (first | (with_reducible assumption) | exact Nat.ne_of_lt (by with_reducible assumption) | exact Nat.ne_of_gt (by with_reducible assumption) | (focus (simp +arith; done)) | (simp; done)))) | (with_reducible apply heap_set_eq) | (with_reducible apply heap_drew_of) | (with_reducible apply heap_drewN_of)))); (focus (first | (simp; done) | (simp; assumption))); intro hg18 hc18 hz18 _ _ _ _ _; (try simp only [List.setIfInBounds_toArray, List.set_cons_zero, List.set_cons_succ] at hg18 hc18)
    have P6 := Lib.hid (P6.out.fr f8 (by simp))
    have P7 := Lib.hid (P7.out.fr f8 (by simp))
    have V4 := Lib.hid ((NAt.fr (S := []) V4.out f8 (Nat.le_refl _) (by simp)).up f8.size)
    have V5 := Lib.hid ((NAt.fr (S := []) V5.out f8 (Nat.le_refl _) (by simp)).up f8.size)
    have S2 := Lib.hid (S2.out.fr f8 (by simp))
    have S3 := Lib.hid (S3.out.fr f8 (by simp))
    have S4 := Lib.hid (S4.out.fr f8 (by simp))
    have S5 := Lib.hid (S5.out.fr f8 (by simp))
    clear f8
    go_wp2_with fail
    refine (rBytes _ _ rr rr (by have := LR.out; omega) _ S2.out S3.out).mono ?_
    rintro e w9 ⟨⟨β, rfl, hβ⟩, f9⟩
    obtain rfl : β = true := hβ.2 rfl
    have F9 := F8.trans f9
    apply f9.use (k := w4.heap.size); (focus (repeat (first | (with_reducible assumption) | ((with_reducible refine heap_alloc_at ?_ _); first | (with_reducible rfl) | (focus (simp; done))) | (with_reducible apply heap_alloc_old) | ((with_reducible apply heap_set_other); (case hne => (first | (with_reducible assumption) | exact Nat.ne_of_lt (by with_reducible assumption) | exact Nat.ne_of_gt (by with_reducible assumption) | (focus (simp +arith; done)) | (simp; done)))) | (with_reducible apply heap_set_eq) | (with_reducible apply heap_drew_of) | (with_reducible apply heap_drewN_of)))); (focus (first | (simp; done) | (simp; assumption))); intro hg19 hc19 hz19 _ _ _ _ _; (try simp only [List.setIfInBounds_toArray, List.set_cons_zero, List.set_cons_succ] at hg19 hc19)
    apply f9.use (k := w5.heap.size); (focus (repeat (first | (with_reducible assumption) | ((with_reducible refine heap_alloc_at ?_ _); first | (with_reducible rfl) | (focus (simp; done))) | (with_reducible apply heap_alloc_old) | ((with_reducible apply heap_set_other); (case hne => (first | (with_reducible assumption) | exact Nat.ne_of_lt (by with_reducible assumption) | exact Nat.ne_of_gt (by with_reducible assumption) | (focus (simp +arith; done)) | (simp; done)))) | (with_reducible apply heap_set_eq) | (with_reducible apply heap_drew_of) | (with_reducible apply heap_drewN_of)))); (focus (first | (simp; done) | (simp; assumption))); intro hg20 hc20 hz20 _ _ _ _ _; (try simp only [List.setIfInBounds_toArray, List.set_cons_zero, List.set_cons_succ] at hg20 hc20)
    have P6 := Lib.hid (P6.out.fr f9 (by simp))
    have P7 := Lib.hid (P7.out.fr f9 (by simp))
    have V4 := Lib.hid ((NAt.fr (S := []) V4.out f9 (Nat.le_refl _) (by simp)).up f9.size)
    have V5 := Lib.hid ((NAt.fr (S := []) V5.out f9 (Nat.le_refl _) (by simp)).up f9.size)
    have S4 := Lib.hid (S4.out.fr f9 (by simp))
    have S5 := Lib.hid (S5.out.fr f9 (by simp))
    clear f9
    go_wp2_with fail
    refine (rAnswer p p A4 A5 c4 c5 (by have := LA.out; omega) (by have := LA.out; omega) _ V4.out V5.out).mono ?_
    rintro e w10 ⟨⟨β, rfl, hβ⟩, f10⟩
    obtain rfl : β = true := hβ.2 rfl
    have F10 := F9.trans f10
    have P6 := Lib.hid (P6.out.fr f10 (by simp))
    have P7 := Lib.hid (P7.out.fr f10 (by simp))
    have S4 := Lib.hid (S4.out.fr f10 (by simp))
    have S5 := Lib.hid (S5.out.fr f10 (by simp))
    clear f10
    go_wp2_with fail
    refine (rBytes _ _ pr pr (by have := LQ.out; omega) _ S4.out S5.out).mono ?_
    rintro e w11 ⟨⟨β, rfl, hβ⟩, f11⟩
    obtain rfl : β = true := hβ.2 rfl
    have F11 := F10.trans f11
    have P6 := Lib.hid (P6.out.fr f11 (by simp))
    have P7 := Lib.hid (P7.out.fr f11 (by simp))
    clear f11
    go_wp2_with fail
    refine (rOps _ _ l6 l6 (by omega) LV.out LV.out _ P6.out P7.out).mono ?_
    rintro e w12 ⟨⟨β, rfl, hβ⟩, f12⟩
    obtain rfl : β = true := hβ.2 rfl
    have F12 := F11.trans f12
    go_wp2_with fail
    go_ret
    exact ⟨rfl, F12⟩
  · have h1' : 600 < (xs.length : Int) := by omega
    go_wp2_with fail
    go_ret
    exact ⟨rfl, F1⟩

theorem wireReads_row (g : Addr) (A : Option Addr) (xs : List Int) (ca : Nat) (hvm : xs.length ≤ maxLen) (hca : xs.length ≤ ca) (w : World) (hv : NAt w .u8 255 w.heap.size A xs) (hG : Gl w g) :
    Calls Tryd.prog 7 #[.slice A xs.length ca] w fun e w' => e = .returned (.bool true) ∧ Fr [] w w' := wireReads_walk g A xs ca hvm hca w hv hG

end Go.Proofs.YtoebfpimojkamaaDoor
