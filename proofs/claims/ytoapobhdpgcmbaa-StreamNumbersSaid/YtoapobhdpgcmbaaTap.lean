/- Package tap: a table as a list of pairs; New, Forget, age. -/
import Derived.Test.YtoapobhdpgcmbaaTapMap
import Derived.Lib.Hide
namespace Go.Proofs.Ytoapobhdpgcmbaa
open Go.RowKit Go.ChangeMaps Go.Maps

/-- A table at block t, its map at block b. -/
structure TapAt (w : World) (t b : Nat) (size life L : Int) (E : List (Int × Int)) : Prop where
  ht : w.heap[t]? = some (.cells #[.int .i64 size, .int .i64 life, .int .i64 L, .map (some b)] 127)
  hm : MapIs w b E
  ne : t ≠ b

theorem Fr.grown {w w' : World} {S : List Nat} (h : Fr S w w') {b : Nat} (hb : b < w.heap.size) (hn : b ∉ S) : w'.heap[b]? = w.heap[b]? := h.block b hb hn
theorem MapIs.fr {w w' : World} {S : List Nat} {b : Nat} {E : List (Int × Int)} (h : MapIs w b E) (f : Fr S w w') (hn : b ∉ S) : MapIs w' b E := by
  obtain ⟨l, ⟨es, clock, hb, q⟩, h2⟩ := h
  exact ⟨l, ⟨es, clock, f.heap hb hn, q⟩, h2⟩
theorem RangeIs.fr {w w' : World} {S : List Nat} {b r : Nat} {E L : List (Int × Int)} (h : RangeIs w b r E L) (f : Fr S w w') (hn : b ∉ S) (hr : r ∉ S) : RangeIs w' b r E L ∧ w'.rangeLeft b r = w.rangeLeft b r := by
  obtain ⟨l, left, n, ⟨es, clock, since, seen, c0, h1, h2, h3, h4, h5, h6⟩, h7⟩ := h
  have e1 := f.heap h1 hn
  have e2 := f.heap h5 hr
  have e3 : w'.rangeLeft b r = w.rangeLeft b r := by simp only [World.rangeLeft, h1, h5, e1, e2]
  exact ⟨⟨l, left, n, by rw [e3]; exact ⟨es, clock, since, seen, c0, e1, h2, h3, h4, e2, h6⟩, h7⟩, e3⟩
theorem TapAt.fr {w w' : World} {S : List Nat} {t b : Nat} {size life L : Int} {E : List (Int × Int)} (h : TapAt w t b size life L E) (f : Fr S w w') (h1 : t ∉ S) (h2 : b ∉ S) : TapAt w' t b size life L E :=
  ⟨f.heap h.ht h1, h.hm.fr f h2, h.ne⟩
theorem TapAt.lt {w : World} {t b : Nat} {size life L : Int} {E : List (Int × Int)} (h : TapAt w t b size life L E) : t < w.heap.size ∧ b < w.heap.size := ⟨lt_of_heap h.ht, h.hm.lt⟩
theorem fr_turned {w w' : World} {b : Nat} (h : w.mapTurned w' b) : Fr [b] w w' := by
  have g := h.grown
  exact ⟨g.os, g.tape, g.output, g.size, fun k hk hn => g.block k hk (by simpa using fun e => hn (by simp [e]))⟩
theorem fr_grown {w w' : World} {r : Nat} (g : w.grownBy w' (some r)) : Fr [r] w w' :=
  ⟨g.os, g.tape, g.output, g.size, fun k hk hn => g.block k hk (by simpa using fun e => hn (by simp [e]))⟩
theorem fr_grown0 {w w' : World} (g : w.grownBy w' none) : Fr [] w w' :=
  ⟨g.os, g.tape, g.output, g.size, fun k hk _ => g.block k hk (by simp)⟩

set_option maxHeartbeats 1000000 in
theorem tnew_ok (size life : Int) (h1 : 1 ≤ size) (h2 : size ≤ 32) (h3 : 1 ≤ life) (h4 : life ≤ 64) (w : World) :
    Calls Try.prog 44 #[.int .i64 size, .int .i64 life] w fun e w' => ∃ t b, e = .returned (.tuple #[.pointer (some ⟨t, 0, none⟩), .int .i64 0]) ∧ TapAt w' t b size life 0 [] ∧ w.heap.size ≤ t ∧ w.heap.size ≤ b ∧ Fr [] w w' := by
  have hmm := @run_makeMap Try.prog
  go_enter Try.func44, Try.ntmps44
  go_wp2
  clear hmm
  refine bodyPost_ret (v := .tuple #[.pointer (some ⟨w.heap.size + 1, 0, none⟩), .int .i64 0]) (by simp [results, Try.results44, go_sem, *]) rfl ⟨w.heap.size + 1, w.heap.size, rfl, ⟨?_, ?_, by simp⟩, by simp, by simp, ?_⟩
  · (apply heap_eq_of; (focus (repeat (first | (with_reducible assumption) | ((with_reducible refine heap_alloc_at ?_ _); first | (with_reducible rfl) | (focus (simp; done))) | (with_reducible apply heap_alloc_old) | ((with_reducible apply heap_set_other); (case hne => (first | (with_reducible assumption) | exact Nat.ne_of_lt (by with_reducible assumption) | exact Nat.ne_of_gt (by with_reducible assumption) | (focus (simp +arith; done)) | (simp; done)))) | (with_reducible apply heap_set_eq) | (with_reducible apply heap_drew_of) | (with_reducible apply heap_drewN_of)))); (focus (first | (simp; done) | rfl)))
  · exact MapIs.fr (S := []) (w := w.alloc (.map #[] 0)) ⟨[], World.ownsMap_made w _ _ _, by simp⟩ (by repeat' (first | (with_reducible exact Fr.refl _ _) | (with_reducible assumption) | (with_reducible refine Fr.drew ?_) | (with_reducible refine Fr.drewN ?_ _) | (with_reducible refine Fr.alloc ?_ _) | ((with_reducible refine Fr.setNew ?_ _ ?_ _); rotate_left; (focus (first | (with_reducible assumption) | exact Nat.le_of_lt (by with_reducible assumption) | (focus (simp +arith; done)) | exact Nat.le_trans (by with_reducible assumption) (by simp +arith; done) | (simp; done)))) | ((with_reducible refine Fr.setOld ?_ _ ?_ _); rotate_left; (focus (simp; done))))) (by simp)
  · exact (by repeat' (first | (with_reducible exact Fr.refl _ _) | (with_reducible assumption) | (with_reducible refine Fr.drew ?_) | (with_reducible refine Fr.drewN ?_ _) | (with_reducible refine Fr.alloc ?_ _) | ((with_reducible refine Fr.setNew ?_ _ ?_ _); rotate_left; (focus (first | (with_reducible assumption) | exact Nat.le_of_lt (by with_reducible assumption) | (focus (simp +arith; done)) | exact Nat.le_trans (by with_reducible assumption) (by simp +arith; done) | (simp; done)))) | ((with_reducible refine Fr.setOld ?_ _ ?_ _); rotate_left; (focus (simp; done)))))

/-- Which entries are young enough. -/
def young (life L : Int) (p : Int × Int) : Bool := decide (L - p.2 ≤ life)
def ageL (life L : Int) (E Lf : List (Int × Int)) : List (Int × Int) := E.filter (fun p => young life L p || decide (p ∈ Lf))

theorem ageL_all (life L : Int) (E : List (Int × Int)) : ageL life L E E = E := by
  unfold ageL
  rw [List.filter_eq_self]
  intro p hp
  simp [hp]
theorem ageL_none (life L : Int) (E : List (Int × Int)) : ageL life L E [] = E.filter (young life L) := by
  simp [ageL]
theorem pair_eq {E : List (Int × Int)} (nd : E.Pairwise (fun p q => p.1 ≠ q.1)) : ∀ {p q}, p ∈ E → q ∈ E → p.1 = q.1 → p = q := by
  induction E with
  | nil => intro p q h; simp at h
  | cons x r ih =>
    obtain ⟨h1, h2⟩ := List.pairwise_cons.1 nd
    intro p q hp hq e
    rcases List.mem_cons.1 hp with rfl | hp' <;> rcases List.mem_cons.1 hq with rfl | hq'
    · rfl
    · exact absurd e (h1 _ hq')
    · exact absurd e.symm (h1 _ hp')
    · exact ih h2 hp' hq' e
theorem ageL_young {life L : Int} {E Lf : List (Int × Int)} {x c : Int} (nd : E.Pairwise (fun p q => p.1 ≠ q.1)) (hs : (x, c) ∈ E) (hy : L - c ≤ life) : ageL life L E (cutk x Lf) = ageL life L E Lf := by
  unfold ageL cutk
  apply List.filter_congr
  intro p hp
  by_cases e : p.1 = x
  · have := pair_eq nd hp hs (by simpa using e)
    subst this
    simp [young, hy]
  · simp [e]
theorem ageL_old {life L : Int} {E Lf : List (Int × Int)} {x c : Int} (nd : E.Pairwise (fun p q => p.1 ≠ q.1)) (hs : (x, c) ∈ E) (hy : ¬ L - c ≤ life) : cutk x (ageL life L E Lf) = ageL life L E (cutk x Lf) := by
  unfold ageL cutk
  rw [List.filter_filter]
  apply List.filter_congr
  intro p hp
  by_cases e : p.1 = x
  · have := pair_eq nd hp hs (by simpa using e)
    subst this
    simp [young, hy]
  · simp [e]
theorem filter_twice (x : Int) (Lf : List (Int × Int)) : cutk x (cutk x Lf) = cutk x Lf := by
  unfold cutk; rw [List.filter_filter]; congr 1; funext p; simp

set_option maxHeartbeats 2000000 in
theorem tage (t b : Nat) (size life L : Int) (E : List (Int × Int)) (hL : 0 ≤ L) (hL2 : L < 100000) (hlife : 1 ≤ life) (hlife2 : life ≤ 64) (hE : ∀ p ∈ E, 0 ≤ p.2 ∧ p.2 ≤ L) (w : World) (H : TapAt w t b size life L E) :
    Calls Try.prog 70 #[.pointer (some ⟨t, 0, none⟩)] w fun e w' => e = .returned (.tuple #[]) ∧ TapAt w' t b size life (L + 1) (E.filter (young life (L + 1))) ∧ Fr [t, b] w w' := by
  have nd := H.hm.nodup
  have HM := Lib.hid H.hm
  have HT := H.ht
  have hne := H.ne
  have hlt := H.lt
  apply blk_use HT; intro hg1 hc1 hz1 _ _ _ _ _
  clear H
  have hw : wrap64 (L + 1) = L + 1 := by unfold wrap64; omega
  go_enter Try.func70, Try.ntmps70
  go_wp2_with (at_range; refine wpList_rng _ rfl _ rfl b E rfl (HM.out.fr (S := [t]) (by repeat' (first | (with_reducible exact Fr.refl _ _) | (with_reducible assumption) | (with_reducible refine Fr.drew ?_) | (with_reducible refine Fr.drewN ?_ _) | (with_reducible refine Fr.alloc ?_ _) | ((with_reducible refine Fr.setNew ?_ _ ?_ _); rotate_left; (focus (first | (with_reducible assumption) | exact Nat.le_of_lt (by with_reducible assumption) | (focus (simp +arith; done)) | exact Nat.le_trans (by with_reducible assumption) (by simp +arith; done) | (simp; done)))) | ((with_reducible refine Fr.setOld ?_ _ ?_ _); rotate_left; (focus (simp; done))))) (by simp; omega)) ?_; intro w1 hr1 hg1 hs1)
  simp only [size_setCell] at hr1 hs1 ⊢
  have F1 : Fr [t, b] w w1 := Fr.trans' (S := [t, b]) (S' := []) (by repeat' (first | (with_reducible exact Fr.refl _ _) | (with_reducible assumption) | (with_reducible refine Fr.drew ?_) | (with_reducible refine Fr.drewN ?_ _) | (with_reducible refine Fr.alloc ?_ _) | ((with_reducible refine Fr.setNew ?_ _ ?_ _); rotate_left; (focus (first | (with_reducible assumption) | exact Nat.le_of_lt (by with_reducible assumption) | (focus (simp +arith; done)) | exact Nat.le_trans (by with_reducible assumption) (by simp +arith; done) | (simp; done)))) | ((with_reducible refine Fr.setOld ?_ _ ?_ _); rotate_left; (focus (simp; done))))) (fr_grown0 hg1) (by simp)
  have T1 : w1.heap[t]? = some (.cells #[.int .i64 size, .int .i64 life, .int .i64 (L + 1), .map (some b)] 127) := by
    rw [(fr_grown0 hg1).heap (heap_set_eq HT 2 _) (by simp)]; simp
  clear hc1 hz1
  generalize hR : w.heap.size = R at *
  go_frame
  go_loopw [2, 3] (fun _ _ wr => ∃ Lf, RangeIs wr b R (ageL life (L + 1) E Lf) Lf ∧ (∀ p ∈ Lf, p ∈ E) ∧ wr.heap[t]? = some (.cells #[.int .i64 size, .int .i64 life, .int .i64 (L + 1), .map (some b)] 127) ∧ Fr [t, b] w wr ∧ R < wr.heap.size)
    (fun _ _ wr => wr.rangeLeft b R)
  case atStart => exact ⟨E, by rw [ageL_all]; exact hr1, fun _ h => h, T1, F1, by omega⟩
  case round =>
    clear hr1 T1 F1 hg1 hs1
    obtain ⟨Lf, hr, hsub, hT, F, hsz⟩ := hrel
    have HR := Lib.hid hr
    go_wp2_with (at_next; refine wpList_nxt _ rfl _ rfl b R _ Lf rfl HR.out ?_ ?_)
    · intro h0
      go_wp2
      go_end0
      subst h0
      exact ⟨rfl, ⟨hT, by rw [← ageL_none]; exact HR.out.map, hne⟩, F⟩
    · intro x c w2 hx hc hin hr2 hlt2 hg2 hs2 hen
      have hcE := hE _ (hsub _ hin)
      have F2 : Fr [t, b] w w2 := F.trans' (fr_grown hg2) (by simp; omega)
      have T2 := (fr_grown hg2).heap hT (by simp; omega)
      have hw2 : wrap64 (L + 1 - c) = L + 1 - c := by unfold wrap64; simp at hcE; omega
      have HR2 := Lib.hid hr2
      have HT2 := Lib.hid T2
      apply blk_use T2; intro hg2 hc2 hz2 _ _ _ _ _
      go_wp2_with fail
      go_region
      go_wp2_with (first
        | (at_delete; refine wpList_rdel _ rfl _ _ rfl b R _ _ rfl (HR2.out.fr (S := []) (by repeat' (first | (with_reducible exact Fr.refl _ _) | (with_reducible assumption) | (with_reducible refine Fr.drew ?_) | (with_reducible refine Fr.drewN ?_ _) | (with_reducible refine Fr.alloc ?_ _) | ((with_reducible refine Fr.setNew ?_ _ ?_ _); rotate_left; (focus (first | (with_reducible assumption) | exact Nat.le_of_lt (by with_reducible assumption) | (focus (simp +arith; done)) | exact Nat.le_trans (by with_reducible assumption) (by simp +arith; done) | (simp; done)))) | ((with_reducible refine Fr.setOld ?_ _ ?_ _); rotate_left; (focus (simp; done))))) (by simp) (by simp)).1 x rfl hx ?_; intro w3 hr3 hle3 ht3; go_frame))
      · have hold : ¬ L + 1 - c ≤ life := by simp at *; omega
        rw [filter_twice, ageL_old nd (hsub _ hin) hold] at hr3
        go_roundw
        case rel => exact ⟨_, hr3, fun p hp => hsub p (List.mem_filter.1 hp).1, (fr_turned ht3).heap HT2.out (by simpa using hne), F2.drew.trans' (fr_turned ht3) (by simp), by have := (fr_turned ht3).size; rw [size_drew] at this; omega⟩
        case measure => have e5 : w2.drew.rangeLeft b R = w2.rangeLeft b R := rfl; omega
      · have hy : L + 1 - c ≤ life := by simp at *; omega
        rw [← ageL_young nd (hsub _ hin) hy] at hr2
        go_roundw
        case rel => exact ⟨_, hr2, fun p hp => hsub p (List.mem_filter.1 hp).1, HT2.out, F2.drew, by rw [size_drew]; omega⟩
        case measure => exact hlt2

end Go.Proofs.Ytoapobhdpgcmbaa
