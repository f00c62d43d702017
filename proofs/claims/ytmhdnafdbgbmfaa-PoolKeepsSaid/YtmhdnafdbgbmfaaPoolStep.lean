/- One step on both pools (layer 4): the answers are alike where the frames are, and each pool's frames are what the step makes of them. -/
import Derived.Test.YtmhdnafdbgbmfaaPoolAwake
import Derived.Test.YtmhdnafdbgbmfaaReg3
namespace Go.Proofs.Ytmhdnafdbgbmfaa
open Go.RowKit

/-- The frames behind a step. -/
def actL (l : List Fm) (k i n v : Int) : List Fm :=
  if k = 0 then (takeL l n).2.2 else if k = 1 then (stepAt l i (fillK v)).2 else if k = 2 then (stepAt l i (pinK n)).2 else if k = 3 then (stepAt l i (unpinK n)).2 else if k = 4 then (stepAt l i doomK).2 else l
/-- Are the answers of two pools alike? -/
def actB (l m : List Fm) (k i n v : Int) : Bool :=
  if k = 0 then (takeL l n).1 == (takeL m n).1 && (takeL l n).2.1 == (takeL m n).2.1 else if k = 1 then (stepAt l i (fillK v)).1 == (stepAt m i (fillK v)).1 else if k = 2 then (stepAt l i (pinK n)).1 == (stepAt m i (pinK n)).1
  else if k = 3 then (stepAt l i (unpinK n)).1 == (stepAt m i (unpinK n)).1 else if k = 4 then (stepAt l i doomK).1 == (stepAt m i doomK).1 else true
theorem actB_same (l : List Fm) (k i n v : Int) : actB l l k i n v = true := by
  unfold actB
  repeat' split
  all_goals simp

/-- Where two pools lie. -/
structure Apart (bp bf rp rf : Nat) : Prop where
  n1 : bp ≠ rf
  n2 : bf ≠ rp
  n3 : bf ≠ rf

section
variable {N : Int} {bp bf : Nat} {l l' : List Fm} {w : World}
theorem rfillc (i v c : Int) (hE : stepAt l i (fillK v) = (c, l')) (hP : PoolAt rT w bp bf l) :
    Calls Try.prog 44 #[.pointer (some ⟨bp, 0, none⟩), .int .i64 i, .int .u64 v] w fun e w' => e = .returned (.int .i64 c) ∧ PoolAt rT w' bp bf l' ∧ Fr [bf] w w' := by
  have := rfill bp bf l i v w hP
  rw [hE] at this; exact this
theorem rpinc (i g c : Int) (hE : stepAt l i (pinK g) = (c, l')) (hs : Sane N l) (hN : N ≤ 999999) (hP : PoolAt rT w bp bf l) :
    Calls Try.prog 45 #[.pointer (some ⟨bp, 0, none⟩), .int .i64 i, .int .i64 g] w fun e w' => e = .returned (.int .i64 c) ∧ PoolAt rT w' bp bf l' ∧ Fr [bf] w w' := by
  have := rpin bp bf l i g w hP (hs.p hN)
  rw [hE] at this; exact this
theorem runpinc (i g c : Int) (hE : stepAt l i (unpinK g) = (c, l')) (hs : Sane N l) (hN : N ≤ 999999) (hP : PoolAt rT w bp bf l) :
    Calls Try.prog 46 #[.pointer (some ⟨bp, 0, none⟩), .int .i64 i, .int .i64 g] w fun e w' => e = .returned (.int .i64 c) ∧ PoolAt rT w' bp bf l' ∧ Fr [bf] w w' := by
  have := runpin bp bf l i g w hP (hs.p hN)
  rw [hE] at this; exact this
theorem rdoomc (i c : Int) (hE : stepAt l i doomK = (c, l')) (hs : Sane N l) (hN : N ≤ 999999) (hP : PoolAt rT w bp bf l) :
    Calls Try.prog 47 #[.pointer (some ⟨bp, 0, none⟩), .int .i64 i] w fun e w' => e = .returned (.int .i64 c) ∧ PoolAt rT w' bp bf l' ∧ Fr [bf] w w' := by
  have := rdoom bp bf l i w hP (hs.p hN) hs.s
  rw [hE] at this; exact this
end

set_option maxHeartbeats 4000000 in
theorem pstep1 (bp bf rp rf : Nat) (l m : List Fm) (i n v : Int) (N : Int) (hl : Sane N l) (hm : Sane N m) (hN : N ≤ 999999) (w : World) (hP : PoolAt pT w bp bf l) (hR : PoolAt rT w rp rf m) (hd : Apart bp bf rp rf) :
    Calls Try.prog 28 #[.pointer (some ⟨bp, 0, none⟩), .pointer (some ⟨rp, 0, none⟩), .agg #[.int .i64 1, .int .i64 i, .int .i64 n, .int .u64 v]] w fun e w' =>
      e = .returned (.bool ((stepAt l i (fillK v)).1 == (stepAt m i (fillK v)).1)) ∧ PoolAt pT w' bp bf (stepAt l i (fillK v)).2 ∧ PoolAt rT w' rp rf (stepAt m i (fillK v)).2 ∧ Fr [bf, rf] w w' := by
  have HL := Lib.hid hl
  have HM := Lib.hid hm
  have HP := Lib.hid hP
  have HR := Lib.hid hR
  have HD := Lib.hid hd
  have P0 := hP.lt
  have R0 := hR.lt
  have LL : Hid (w.heap.size ≠ bf ∧ w.heap.size ≠ rf) := ⟨by have := hP.lt; omega, by have := hR.lt; omega⟩
  clear hl hm hP hR hd P0 R0
  obtain ⟨cl, l', el⟩ : ∃ c l', stepAt l i (fillK v) = (c, l') := ⟨_, _, rfl⟩
  obtain ⟨cm, m', em⟩ : ∃ c l', stepAt m i (fillK v) = (c, l') := ⟨_, _, rfl⟩
  rw [el, em]
  have EL := Lib.hid el
  have EM := Lib.hid em
  clear el em
  have fol : Try.prog.follows .mixedOrders = true := by kernel_rfl
  go_enter Try.func28, Try.ntmps28
  go_wp2_with fail
  refine wp_name (fun w4 f4 => ?_)
  apply f4.use (k := w.heap.size); (focus (repeat (first | (with_reducible assumption) | ((with_reducible refine heap_alloc_at ?_ _); first | (with_reducible rfl) | (focus (simp; done))) | (with_reducible apply heap_alloc_old) | ((with_reducible apply heap_set_other); (case hne => (first | (with_reducible assumption) | exact Nat.ne_of_lt (by with_reducible assumption) | exact Nat.ne_of_gt (by with_reducible assumption) | (focus (simp +arith; done)) | (simp; done)))) | (with_reducible apply heap_set_eq) | (with_reducible apply heap_drew_of) | (with_reducible apply heap_drewN_of)))); (focus (first | (simp; done) | (simp; assumption))); intro hg4 hc4 hz4 _ _ _ _ _; (try simp only [List.setIfInBounds_toArray, List.set_cons_zero, List.set_cons_succ] at hg4 hc4)
  have F4 : Fr [] w w4 := Fr.trans (by repeat' (first | (with_reducible exact Fr.refl _ _) | (with_reducible assumption) | (with_reducible refine Fr.drew ?_) | (with_reducible refine Fr.drewN ?_ _) | (with_reducible refine Fr.alloc ?_ _) | ((with_reducible refine Fr.setNew ?_ _ ?_ _); rotate_left; (focus (first | (with_reducible assumption) | exact Nat.le_of_lt (by with_reducible assumption) | (focus (simp +arith; done)) | exact Nat.le_trans (by with_reducible assumption) (by simp +arith; done) | (simp; done)))) | ((with_reducible refine Fr.setOld ?_ _ ?_ _); rotate_left; (focus (simp; done))))) f4
  refine wp_region_seqB_lit (fun b w' => w'.heap[w.heap.size]? = some (.cells #[.int .i64 1, .int .i64 i, .int .i64 n, .int .u64 v] 54) ∧ PoolAt pT w' bp bf (bif b 5 then l' else l) ∧ PoolAt rT w' rp rf (bif b 11 then m' else m) ∧ Fr [bf, rf] w w') fol (by kernel_rfl)
    ⟨hg4, HP.out.fr F4.drew (by simp) (by simp), HR.out.fr F4.drew (by simp) (by simp), (F4.mono (by simp)).drew⟩ ?_
  clear f4 F4 hg4 hc4 hz4
  (repeat (apply SeqB.cons; (focus (intro bv wv hbv hdv hSv; obtain ⟨s1, s2, s3, s4⟩ := hSv; apply blk_use s1; intro hg21 hc21 hz21 _ _ _ _ _; go_wp2_with (first
    | (go_at_call 37; (with_reducible refine (pfillc i v cl EL.out (by have hb : bv 5 = false := (by simpa using hbv); simpa [hb] using s2)).mono ?_); rintro e w5 ⟨rfl, q5, f5⟩; have s1 := f5.heap s1 (by have := LL.out.1; simpa using this); have s2 := q5; have s3 := s3.fr f5 (by have := HD.out.n2; simpa using this.symm) (by have := HD.out.n3; simpa using this.symm); have s4 := s4.trans (f5.mono (by simp)))
    | (go_at_call 44; (with_reducible refine (rfillc i v cm EM.out (by have hb : bv 11 = false := (by simpa using hbv); simpa [hb] using s3)).mono ?_); rintro e w5 ⟨rfl, q5, f5⟩; have s1 := f5.heap s1 (by have := LL.out.2; simpa using this); have s3 := q5; have s2 := s2.fr f5 (by have := HD.out.n1; simpa using this) (by have := HD.out.n3; simpa using this); have s4 := s4.trans (f5.mono (by simp)))); exact StepPost.mk rfl ⟨s1, by simpa using s2, by simpa using s3, s4⟩)); (try simp only [Act.put, List.setIfInBounds_toArray, List.set_cons_zero, List.set_cons_succ])))
  refine SeqB.nil ?_
  intro b5 w5 hb5 hS5
  obtain ⟨s1, s2, s3, F5⟩ := hS5
  rw [hb5 5 (by decide)] at s2
  rw [hb5 11 (by decide)] at s3
  go_wp2
  go_ret
  exact ⟨rfl, s2, s3, F5⟩

set_option maxHeartbeats 4000000 in
theorem pstep2 (bp bf rp rf : Nat) (l m : List Fm) (i n v : Int) (N : Int) (hl : Sane N l) (hm : Sane N m) (hN : N ≤ 999999) (w : World) (hP : PoolAt pT w bp bf l) (hR : PoolAt rT w rp rf m) (hd : Apart bp bf rp rf) :
    Calls Try.prog 28 #[.pointer (some ⟨bp, 0, none⟩), .pointer (some ⟨rp, 0, none⟩), .agg #[.int .i64 2, .int .i64 i, .int .i64 n, .int .u64 v]] w fun e w' =>
      e = .returned (.bool ((stepAt l i (pinK n)).1 == (stepAt m i (pinK n)).1)) ∧ PoolAt pT w' bp bf (stepAt l i (pinK n)).2 ∧ PoolAt rT w' rp rf (stepAt m i (pinK n)).2 ∧ Fr [bf, rf] w w' := by
  have HL := Lib.hid hl
  have HM := Lib.hid hm
  have HP := Lib.hid hP
  have HR := Lib.hid hR
  have HD := Lib.hid hd
  have P0 := hP.lt
  have R0 := hR.lt
  have LL : Hid (w.heap.size ≠ bf ∧ w.heap.size ≠ rf) := ⟨by have := hP.lt; omega, by have := hR.lt; omega⟩
  clear hl hm hP hR hd P0 R0
  obtain ⟨cl, l', el⟩ : ∃ c l', stepAt l i (pinK n) = (c, l') := ⟨_, _, rfl⟩
  obtain ⟨cm, m', em⟩ : ∃ c l', stepAt m i (pinK n) = (c, l') := ⟨_, _, rfl⟩
  rw [el, em]
  have EL := Lib.hid el
  have EM := Lib.hid em
  clear el em
  have fol : Try.prog.follows .mixedOrders = true := by kernel_rfl
  go_enter Try.func28, Try.ntmps28
  go_wp2_with fail
  refine wp_name (fun w4 f4 => ?_)
  apply f4.use (k := w.heap.size); (focus (repeat (first | (with_reducible assumption) | ((with_reducible refine heap_alloc_at ?_ _); first | (with_reducible rfl) | (focus (simp; done))) | (with_reducible apply heap_alloc_old) | ((with_reducible apply heap_set_other); (case hne => (first | (with_reducible assumption) | exact Nat.ne_of_lt (by with_reducible assumption) | exact Nat.ne_of_gt (by with_reducible assumption) | (focus (simp +arith; done)) | (simp; done)))) | (with_reducible apply heap_set_eq) | (with_reducible apply heap_drew_of) | (with_reducible apply heap_drewN_of)))); (focus (first | (simp; done) | (simp; assumption))); intro hg4 hc4 hz4 _ _ _ _ _; (try simp only [List.setIfInBounds_toArray, List.set_cons_zero, List.set_cons_succ] at hg4 hc4)
  have F4 : Fr [] w w4 := Fr.trans (by repeat' (first | (with_reducible exact Fr.refl _ _) | (with_reducible assumption) | (with_reducible refine Fr.drew ?_) | (with_reducible refine Fr.drewN ?_ _) | (with_reducible refine Fr.alloc ?_ _) | ((with_reducible refine Fr.setNew ?_ _ ?_ _); rotate_left; (focus (first | (with_reducible assumption) | exact Nat.le_of_lt (by with_reducible assumption) | (focus (simp +arith; done)) | exact Nat.le_trans (by with_reducible assumption) (by simp +arith; done) | (simp; done)))) | ((with_reducible refine Fr.setOld ?_ _ ?_ _); rotate_left; (focus (simp; done))))) f4
  refine wp_region_seqB_lit (fun b w' => w'.heap[w.heap.size]? = some (.cells #[.int .i64 2, .int .i64 i, .int .i64 n, .int .u64 v] 54) ∧ PoolAt pT w' bp bf (bif b 5 then l' else l) ∧ PoolAt rT w' rp rf (bif b 11 then m' else m) ∧ Fr [bf, rf] w w') fol (by kernel_rfl)
    ⟨hg4, HP.out.fr F4.drew (by simp) (by simp), HR.out.fr F4.drew (by simp) (by simp), (F4.mono (by simp)).drew⟩ ?_
  clear f4 F4 hg4 hc4 hz4
  (repeat (apply SeqB.cons; (focus (intro bv wv hbv hdv hSv; obtain ⟨s1, s2, s3, s4⟩ := hSv; apply blk_use s1; intro hg21 hc21 hz21 _ _ _ _ _; go_wp2_with (first
    | (go_at_call 36; (with_reducible refine (ppinc i n cl EL.out HL.out hN (by have hb : bv 5 = false := (by simpa using hbv); simpa [hb] using s2)).mono ?_); rintro e w5 ⟨rfl, q5, f5⟩; have s1 := f5.heap s1 (by have := LL.out.1; simpa using this); have s2 := q5; have s3 := s3.fr f5 (by have := HD.out.n2; simpa using this.symm) (by have := HD.out.n3; simpa using this.symm); have s4 := s4.trans (f5.mono (by simp)))
    | (go_at_call 45; (with_reducible refine (rpinc i n cm EM.out HM.out hN (by have hb : bv 11 = false := (by simpa using hbv); simpa [hb] using s3)).mono ?_); rintro e w5 ⟨rfl, q5, f5⟩; have s1 := f5.heap s1 (by have := LL.out.2; simpa using this); have s3 := q5; have s2 := s2.fr f5 (by have := HD.out.n1; simpa using this) (by have := HD.out.n3; simpa using this); have s4 := s4.trans (f5.mono (by simp)))); exact StepPost.mk rfl ⟨s1, by simpa using s2, by simpa using s3, s4⟩)); (try simp only [Act.put, List.setIfInBounds_toArray, List.set_cons_zero, List.set_cons_succ])))
  refine SeqB.nil ?_
  intro b5 w5 hb5 hS5
  obtain ⟨s1, s2, s3, F5⟩ := hS5
  rw [hb5 5 (by decide)] at s2
  rw [hb5 11 (by decide)] at s3
  go_wp2
  go_ret
  exact ⟨rfl, s2, s3, F5⟩

set_option maxHeartbeats 4000000 in
theorem pstep3 (bp bf rp rf : Nat) (l m : List Fm) (i n v : Int) (N : Int) (hl : Sane N l) (hm : Sane N m) (hN : N ≤ 999999) (w : World) (hP : PoolAt pT w bp bf l) (hR : PoolAt rT w rp rf m) (hd : Apart bp bf rp rf) :
    Calls Try.prog 28 #[.pointer (some ⟨bp, 0, none⟩), .pointer (some ⟨rp, 0, none⟩), .agg #[.int .i64 3, .int .i64 i, .int .i64 n, .int .u64 v]] w fun e w' =>
      e = .returned (.bool ((stepAt l i (unpinK n)).1 == (stepAt m i (unpinK n)).1)) ∧ PoolAt pT w' bp bf (stepAt l i (unpinK n)).2 ∧ PoolAt rT w' rp rf (stepAt m i (unpinK n)).2 ∧ Fr [bf, rf] w w' := by
  have HL := Lib.hid hl
  have HM := Lib.hid hm
  have HP := Lib.hid hP
  have HR := Lib.hid hR
  have HD := Lib.hid hd
  have P0 := hP.lt
  have R0 := hR.lt
  have LL : Hid (w.heap.size ≠ bf ∧ w.heap.size ≠ rf) := ⟨by have := hP.lt; omega, by have := hR.lt; omega⟩
  clear hl hm hP hR hd P0 R0
  obtain ⟨cl, l', el⟩ : ∃ c l', stepAt l i (unpinK n) = (c, l') := ⟨_, _, rfl⟩
  obtain ⟨cm, m', em⟩ : ∃ c l', stepAt m i (unpinK n) = (c, l') := ⟨_, _, rfl⟩
  rw [el, em]
  have EL := Lib.hid el
  have EM := Lib.hid em
  clear el em
  have fol : Try.prog.follows .mixedOrders = true := by kernel_rfl
  go_enter Try.func28, Try.ntmps28
  go_wp2_with fail
  refine wp_name (fun w4 f4 => ?_)
  apply f4.use (k := w.heap.size); (focus (repeat (first | (with_reducible assumption) | ((with_reducible refine heap_alloc_at ?_ _); first | (with_reducible rfl) | (focus (simp; done))) | (with_reducible apply heap_alloc_old) | ((with_reducible apply heap_set_other); (case hne => (first | (with_reducible assumption) | exact Nat.ne_of_lt (by with_reducible assumption) | exact Nat.ne_of_gt (by with_reducible assumption) | (focus (simp +arith; done)) | (simp; done)))) | (with_reducible apply heap_set_eq) | (with_reducible apply heap_drew_of) | (with_reducible apply heap_drewN_of)))); (focus (first | (simp; done) | (simp; assumption))); intro hg4 hc4 hz4 _ _ _ _ _; (try simp only [List.setIfInBounds_toArray, List.set_cons_zero, List.set_cons_succ] at hg4 hc4)
  have F4 : Fr [] w w4 := Fr.trans (by repeat' (first | (with_reducible exact Fr.refl _ _) | (with_reducible assumption) | (with_reducible refine Fr.drew ?_) | (with_reducible refine Fr.drewN ?_ _) | (with_reducible refine Fr.alloc ?_ _) | ((with_reducible refine Fr.setNew ?_ _ ?_ _); rotate_left; (focus (first | (with_reducible assumption) | exact Nat.le_of_lt (by with_reducible assumption) | (focus (simp +arith; done)) | exact Nat.le_trans (by with_reducible assumption) (by simp +arith; done) | (simp; done)))) | ((with_reducible refine Fr.setOld ?_ _ ?_ _); rotate_left; (focus (simp; done))))) f4
  refine wp_region_seqB_lit (fun b w' => w'.heap[w.heap.size]? = some (.cells #[.int .i64 3, .int .i64 i, .int .i64 n, .int .u64 v] 54) ∧ PoolAt pT w' bp bf (bif b 5 then l' else l) ∧ PoolAt rT w' rp rf (bif b 11 then m' else m) ∧ Fr [bf, rf] w w') fol (by kernel_rfl)
    ⟨hg4, HP.out.fr F4.drew (by simp) (by simp), HR.out.fr F4.drew (by simp) (by simp), (F4.mono (by simp)).drew⟩ ?_
  clear f4 F4 hg4 hc4 hz4
  (repeat (apply SeqB.cons; (focus (intro bv wv hbv hdv hSv; obtain ⟨s1, s2, s3, s4⟩ := hSv; apply blk_use s1; intro hg21 hc21 hz21 _ _ _ _ _; go_wp2_with (first
    | (go_at_call 38; (with_reducible refine (punpinc i n cl EL.out HL.out hN (by have hb : bv 5 = false := (by simpa using hbv); simpa [hb] using s2)).mono ?_); rintro e w5 ⟨rfl, q5, f5⟩; have s1 := f5.heap s1 (by have := LL.out.1; simpa using this); have s2 := q5; have s3 := s3.fr f5 (by have := HD.out.n2; simpa using this.symm) (by have := HD.out.n3; simpa using this.symm); have s4 := s4.trans (f5.mono (by simp)))
    | (go_at_call 46; (with_reducible refine (runpinc i n cm EM.out HM.out hN (by have hb : bv 11 = false := (by simpa using hbv); simpa [hb] using s3)).mono ?_); rintro e w5 ⟨rfl, q5, f5⟩; have s1 := f5.heap s1 (by have := LL.out.2; simpa using this); have s3 := q5; have s2 := s2.fr f5 (by have := HD.out.n1; simpa using this) (by have := HD.out.n3; simpa using this); have s4 := s4.trans (f5.mono (by simp)))); exact StepPost.mk rfl ⟨s1, by simpa using s2, by simpa using s3, s4⟩)); (try simp only [Act.put, List.setIfInBounds_toArray, List.set_cons_zero, List.set_cons_succ])))
  refine SeqB.nil ?_
  intro b5 w5 hb5 hS5
  obtain ⟨s1, s2, s3, F5⟩ := hS5
  rw [hb5 5 (by decide)] at s2
  rw [hb5 11 (by decide)] at s3
  go_wp2
  go_ret
  exact ⟨rfl, s2, s3, F5⟩

set_option maxHeartbeats 4000000 in
theorem pstep4 (bp bf rp rf : Nat) (l m : List Fm) (i n v : Int) (N : Int) (hl : Sane N l) (hm : Sane N m) (hN : N ≤ 999999) (w : World) (hP : PoolAt pT w bp bf l) (hR : PoolAt rT w rp rf m) (hd : Apart bp bf rp rf) :
    Calls Try.prog 28 #[.pointer (some ⟨bp, 0, none⟩), .pointer (some ⟨rp, 0, none⟩), .agg #[.int .i64 4, .int .i64 i, .int .i64 n, .int .u64 v]] w fun e w' =>
      e = .returned (.bool ((stepAt l i doomK).1 == (stepAt m i doomK).1)) ∧ PoolAt pT w' bp bf (stepAt l i doomK).2 ∧ PoolAt rT w' rp rf (stepAt m i doomK).2 ∧ Fr [bf, rf] w w' := by
  have HL := Lib.hid hl
  have HM := Lib.hid hm
  have HP := Lib.hid hP
  have HR := Lib.hid hR
  have HD := Lib.hid hd
  have P0 := hP.lt
  have R0 := hR.lt
  have LL : Hid (w.heap.size ≠ bf ∧ w.heap.size ≠ rf) := ⟨by have := hP.lt; omega, by have := hR.lt; omega⟩
  clear hl hm hP hR hd P0 R0
  obtain ⟨cl, l', el⟩ : ∃ c l', stepAt l i doomK = (c, l') := ⟨_, _, rfl⟩
  obtain ⟨cm, m', em⟩ : ∃ c l', stepAt m i doomK = (c, l') := ⟨_, _, rfl⟩
  rw [el, em]
  have EL := Lib.hid el
  have EM := Lib.hid em
  clear el em
  have fol : Try.prog.follows .mixedOrders = true := by kernel_rfl
  go_enter Try.func28, Try.ntmps28
  go_wp2_with fail
  refine wp_name (fun w4 f4 => ?_)
  apply f4.use (k := w.heap.size); (focus (repeat (first | (with_reducible assumption) | ((with_reducible refine heap_alloc_at ?_ _); first | (with_reducible rfl) | (focus (simp; done))) | (with_reducible apply heap_alloc_old) | ((with_reducible apply heap_set_other); (case hne => (first | (with_reducible assumption) | exact Nat.ne_of_lt (by with_reducible assumption) | exact Nat.ne_of_gt (by with_reducible assumption) | (focus (simp +arith; done)) | (simp; done)))) | (with_reducible apply heap_set_eq) | (with_reducible apply heap_drew_of) | (with_reducible apply heap_drewN_of)))); (focus (first | (simp; done) | (simp; assumption))); intro hg4 hc4 hz4 _ _ _ _ _; (try simp only [List.setIfInBounds_toArray, List.set_cons_zero, List.set_cons_succ] at hg4 hc4)
  have F4 : Fr [] w w4 := Fr.trans (by repeat' (first | (with_reducible exact Fr.refl _ _) | (with_reducible assumption) | (with_reducible refine Fr.drew ?_) | (with_reducible refine Fr.drewN ?_ _) | (with_reducible refine Fr.alloc ?_ _) | ((with_reducible refine Fr.setNew ?_ _ ?_ _); rotate_left; (focus (first | (with_reducible assumption) | exact Nat.le_of_lt (by with_reducible assumption) | (focus (simp +arith; done)) | exact Nat.le_trans (by with_reducible assumption) (by simp +arith; done) | (simp; done)))) | ((with_reducible refine Fr.setOld ?_ _ ?_ _); rotate_left; (focus (simp; done))))) f4
  refine wp_region_seqB_lit (fun b w' => w'.heap[w.heap.size]? = some (.cells #[.int .i64 4, .int .i64 i, .int .i64 n, .int .u64 v] 54) ∧ PoolAt pT w' bp bf (bif b 3 then l' else l) ∧ PoolAt rT w' rp rf (bif b 7 then m' else m) ∧ Fr [bf, rf] w w') fol (by kernel_rfl)
    ⟨hg4, HP.out.fr F4.drew (by simp) (by simp), HR.out.fr F4.drew (by simp) (by simp), (F4.mono (by simp)).drew⟩ ?_
  clear f4 F4 hg4 hc4 hz4
  (repeat (apply SeqB.cons; (focus (intro bv wv hbv hdv hSv; obtain ⟨s1, s2, s3, s4⟩ := hSv; apply blk_use s1; intro hg21 hc21 hz21 _ _ _ _ _; go_wp2_with (first
    | (go_at_call 35; (with_reducible refine (pdoomc i cl EL.out (by have hb : bv 3 = false := (by simpa using hbv); simpa [hb] using s2)).mono ?_); rintro e w5 ⟨rfl, q5, f5⟩; have s1 := f5.heap s1 (by have := LL.out.1; simpa using this); have s2 := q5; have s3 := s3.fr f5 (by have := HD.out.n2; simpa using this.symm) (by have := HD.out.n3; simpa using this.symm); have s4 := s4.trans (f5.mono (by simp)))
    | (go_at_call 47; (with_reducible refine (rdoomc i cm EM.out HM.out hN (by have hb : bv 7 = false := (by simpa using hbv); simpa [hb] using s3)).mono ?_); rintro e w5 ⟨rfl, q5, f5⟩; have s1 := f5.heap s1 (by have := LL.out.2; simpa using this); have s3 := q5; have s2 := s2.fr f5 (by have := HD.out.n1; simpa using this) (by have := HD.out.n3; simpa using this); have s4 := s4.trans (f5.mono (by simp)))); exact StepPost.mk rfl ⟨s1, by simpa using s2, by simpa using s3, s4⟩)); (try simp only [Act.put, List.setIfInBounds_toArray, List.set_cons_zero, List.set_cons_succ])))
  refine SeqB.nil ?_
  intro b5 w5 hb5 hS5
  obtain ⟨s1, s2, s3, F5⟩ := hS5
  rw [hb5 3 (by decide)] at s2
  rw [hb5 7 (by decide)] at s3
  go_wp2
  go_ret
  exact ⟨rfl, s2, s3, F5⟩

theorem rtakec {N : Int} {bp bf : Nat} {l l' : List Fm} {w : World} (b i e : Int) (hE : takeL l b = (i, e, l')) (hs : Sane N l) (hN : N ≤ 999999) (hP : PoolAt rT w bp bf l) :
    Calls Try.prog 43 #[.pointer (some ⟨bp, 0, none⟩), .int .i64 b] w fun e' w' => e' = .returned (.tuple #[.int .i64 i, .int .i64 e]) ∧ PoolAt rT w' bp bf l' ∧ Fr [bf] w w' := by
  have := rtake bp bf l b hs.n (hs.g hN) hs.z w hP
  rw [hE] at this; exact this

set_option maxHeartbeats 4000000 in
theorem pstep0 (bp bf rp rf : Nat) (l m : List Fm) (i n v : Int) (N : Int) (hl : Sane N l) (hm : Sane N m) (hN : N ≤ 999999) (w : World) (hP : PoolAt pT w bp bf l) (hR : PoolAt rT w rp rf m) (hd : Apart bp bf rp rf) :
    Calls Try.prog 28 #[.pointer (some ⟨bp, 0, none⟩), .pointer (some ⟨rp, 0, none⟩), .agg #[.int .i64 0, .int .i64 i, .int .i64 n, .int .u64 v]] w fun e w' =>
      e = .returned (.bool ((takeL l n).1 == (takeL m n).1 && (takeL l n).2.1 == (takeL m n).2.1)) ∧ PoolAt pT w' bp bf (takeL l n).2.2 ∧ PoolAt rT w' rp rf (takeL m n).2.2 ∧ Fr [bf, rf] w w' := by
  have HL := Lib.hid hl
  have HM := Lib.hid hm
  have HP := Lib.hid hP
  have HR := Lib.hid hR
  have HD := Lib.hid hd
  have P0 := hP.lt
  have R0 := hR.lt
  have n1 : w.heap.size ≠ bf := by have := hP.lt; omega
  have n2 : w.heap.size ≠ rf := by have := hR.lt; omega
  clear hl hm hP hR hd P0 R0
  obtain ⟨il, cl, l', el⟩ : ∃ j c l', takeL l n = (j, c, l') := ⟨_, _, _, rfl⟩
  obtain ⟨im, cm, m', em⟩ : ∃ j c l', takeL m n = (j, c, l') := ⟨_, _, _, rfl⟩
  rw [el, em]
  have EL := Lib.hid el
  have EM := Lib.hid em
  clear el em
  go_enter Try.func28, Try.ntmps28
  go_wp2_with (go_at_call 34; (with_reducible refine (ptakec n il cl EL.out HL.out hN (HP.out.fr (S := []) (by repeat' (first | (with_reducible exact Fr.refl _ _) | (with_reducible assumption) | (with_reducible refine Fr.drew ?_) | (with_reducible refine Fr.drewN ?_ _) | (with_reducible refine Fr.alloc ?_ _) | ((with_reducible refine Fr.setNew ?_ _ ?_ _); rotate_left; (focus (first | (with_reducible assumption) | exact Nat.le_of_lt (by with_reducible assumption) | (focus (simp +arith; done)) | exact Nat.le_trans (by with_reducible assumption) (by simp +arith; done) | (simp; done)))) | ((with_reducible refine Fr.setOld ?_ _ ?_ _); rotate_left; (focus (simp; done))))) (by simp) (by simp))).mono ?_); rintro e w5 ⟨rfl, q5, f5⟩; apply f5.use (k := w.heap.size); (focus (repeat (first | (with_reducible assumption) | ((with_reducible refine heap_alloc_at ?_ _); first | (with_reducible rfl) | (focus (simp; done))) | (with_reducible apply heap_alloc_old) | ((with_reducible apply heap_set_other); (case hne => (first | (with_reducible assumption) | exact Nat.ne_of_lt (by with_reducible assumption) | exact Nat.ne_of_gt (by with_reducible assumption) | (focus (simp +arith; done)) | (simp; done)))) | (with_reducible apply heap_set_eq) | (with_reducible apply heap_drew_of) | (with_reducible apply heap_drewN_of)))); (focus (first | (simp; done) | (simp; assumption))); intro hg5 hc5 hz5 _ _ _ _ _; (try simp only [List.setIfInBounds_toArray, List.set_cons_zero, List.set_cons_succ] at hg5 hc5); have R5 := (HR.out.fr (S := []) (by repeat' (first | (with_reducible exact Fr.refl _ _) | (with_reducible assumption) | (with_reducible refine Fr.drew ?_) | (with_reducible refine Fr.drewN ?_ _) | (with_reducible refine Fr.alloc ?_ _) | ((with_reducible refine Fr.setNew ?_ _ ?_ _); rotate_left; (focus (first | (with_reducible assumption) | exact Nat.le_of_lt (by with_reducible assumption) | (focus (simp +arith; done)) | exact Nat.le_trans (by with_reducible assumption) (by simp +arith; done) | (simp; done)))) | ((with_reducible refine Fr.setOld ?_ _ ?_ _); rotate_left; (focus (simp; done))))) (by simp) (by simp)).fr f5 (by have := HD.out.n2; simpa using this.symm) (by have := HD.out.n3; simpa using this.symm); have F5 : Fr [bf, rf] w w5 := Fr.trans (by repeat' (first | (with_reducible exact Fr.refl _ _) | (with_reducible assumption) | (with_reducible refine Fr.drew ?_) | (with_reducible refine Fr.drewN ?_ _) | (with_reducible refine Fr.alloc ?_ _) | ((with_reducible refine Fr.setNew ?_ _ ?_ _); rotate_left; (focus (first | (with_reducible assumption) | exact Nat.le_of_lt (by with_reducible assumption) | (focus (simp +arith; done)) | exact Nat.le_trans (by with_reducible assumption) (by simp +arith; done) | (simp; done)))) | ((with_reducible refine Fr.setOld ?_ _ ?_ _); rotate_left; (focus (simp; done))))) (f5.mono (by simp)); clear f5)
  refine (rtakec n im cm EM.out HM.out hN R5).mono ?_
  rintro e w6 ⟨rfl, q6, f6⟩
  have P6 := q5.fr f6 (by have := HD.out.n1; simpa using this) (by have := HD.out.n3; simpa using this)
  have F6 : Fr [bf, rf] w w6 := F5.trans (f6.mono (by simp))
  clear f6 F5 R5 q5 hg5 hc5 hz5
  go_wp2
  all_goals (go_ret; refine ⟨?_, P6, q6, F6⟩)
  all_goals simp [*]

set_option maxHeartbeats 4000000 in
theorem pstep5 (bp bf rp rf : Nat) (l m : List Fm) (k i n v : Int) (h0 : k ≠ 0) (h1 : k ≠ 1) (h2 : k ≠ 2) (h3 : k ≠ 3) (h4 : k ≠ 4) (w : World) (hP : PoolAt pT w bp bf l) (hR : PoolAt rT w rp rf m) :
    Calls Try.prog 28 #[.pointer (some ⟨bp, 0, none⟩), .pointer (some ⟨rp, 0, none⟩), .agg #[.int .i64 k, .int .i64 i, .int .i64 n, .int .u64 v]] w fun e w' =>
      e = .returned (.bool true) ∧ PoolAt pT w' bp bf l ∧ PoolAt rT w' rp rf m ∧ Fr [bf, rf] w w' := by
  have HP := Lib.hid hP
  have HR := Lib.hid hR
  have k0 : (k == 0) = false := by simpa using h0
  have k1 : (k == 1) = false := by simpa using h1
  have k2 : (k == 2) = false := by simpa using h2
  have k3 : (k == 3) = false := by simpa using h3
  have k4 : (k == 4) = false := by simpa using h4
  clear hP hR h0 h1 h2 h3 h4
  go_enter Try.func28, Try.ntmps28
  go_wp2
  go_ret
  exact ⟨rfl, HP.out.fr (S := []) (by repeat' (first | (with_reducible exact Fr.refl _ _) | (with_reducible assumption) | (with_reducible refine Fr.drew ?_) | (with_reducible refine Fr.drewN ?_ _) | (with_reducible refine Fr.alloc ?_ _) | ((with_reducible refine Fr.setNew ?_ _ ?_ _); rotate_left; (focus (first | (with_reducible assumption) | exact Nat.le_of_lt (by with_reducible assumption) | (focus (simp +arith; done)) | exact Nat.le_trans (by with_reducible assumption) (by simp +arith; done) | (simp; done)))) | ((with_reducible refine Fr.setOld ?_ _ ?_ _); rotate_left; (focus (simp; done))))) (by simp) (by simp), HR.out.fr (S := []) (by repeat' (first | (with_reducible exact Fr.refl _ _) | (with_reducible assumption) | (with_reducible refine Fr.drew ?_) | (with_reducible refine Fr.drewN ?_ _) | (with_reducible refine Fr.alloc ?_ _) | ((with_reducible refine Fr.setNew ?_ _ ?_ _); rotate_left; (focus (first | (with_reducible assumption) | exact Nat.le_of_lt (by with_reducible assumption) | (focus (simp +arith; done)) | exact Nat.le_trans (by with_reducible assumption) (by simp +arith; done) | (simp; done)))) | ((with_reducible refine Fr.setOld ?_ _ ?_ _); rotate_left; (focus (simp; done))))) (by simp) (by simp), (by repeat' (first | (with_reducible exact Fr.refl _ _) | (with_reducible assumption) | (with_reducible refine Fr.drew ?_) | (with_reducible refine Fr.drewN ?_ _) | (with_reducible refine Fr.alloc ?_ _) | ((with_reducible refine Fr.setNew ?_ _ ?_ _); rotate_left; (focus (first | (with_reducible assumption) | exact Nat.le_of_lt (by with_reducible assumption) | (focus (simp +arith; done)) | exact Nat.le_trans (by with_reducible assumption) (by simp +arith; done) | (simp; done)))) | ((with_reducible refine Fr.setOld ?_ _ ?_ _); rotate_left; (focus (simp; done)))))⟩

/-- One step on both pools. -/
theorem pstep (bp bf rp rf : Nat) (l m : List Fm) (k i n v : Int) (N : Int) (hl : Sane N l) (hm : Sane N m) (hN : N ≤ 999999) (w : World) (hP : PoolAt pT w bp bf l) (hR : PoolAt rT w rp rf m) (hd : Apart bp bf rp rf) :
    Calls Try.prog 28 #[.pointer (some ⟨bp, 0, none⟩), .pointer (some ⟨rp, 0, none⟩), .agg #[.int .i64 k, .int .i64 i, .int .i64 n, .int .u64 v]] w fun e w' =>
      e = .returned (.bool (actB l m k i n v)) ∧ PoolAt pT w' bp bf (actL l k i n v) ∧ PoolAt rT w' rp rf (actL m k i n v) ∧ Fr [bf, rf] w w' := by
  by_cases h0 : k = 0
  · subst h0; exact pstep0 bp bf rp rf l m i n v N hl hm hN w hP hR hd
  by_cases h1 : k = 1
  · subst h1; exact pstep1 bp bf rp rf l m i n v N hl hm hN w hP hR hd
  by_cases h2 : k = 2
  · subst h2; exact pstep2 bp bf rp rf l m i n v N hl hm hN w hP hR hd
  by_cases h3 : k = 3
  · subst h3; exact pstep3 bp bf rp rf l m i n v N hl hm hN w hP hR hd
  by_cases h4 : k = 4
  · subst h4; exact pstep4 bp bf rp rf l m i n v N hl hm hN w hP hR hd
  have e1 : actB l m k i n v = true := by simp [actB, h0, h1, h2, h3, h4]
  have e2 : actL l k i n v = l := by simp [actL, h0, h1, h2, h3, h4]
  have e3 : actL m k i n v = m := by simp [actL, h0, h1, h2, h3, h4]
  rw [e1, e2, e3]
  exact pstep5 bp bf rp rf l m k i n v h0 h1 h2 h3 h4 w hP hR

/-- Frames behind a step are as frames are. -/
theorem stepAt_sane {N : Int} {l : List Fm} {i : Int} {k : Fm → Int × Fm} (hl : Sane N l) (hk : ∀ f, Fm.ok N f → Fm.ok (N + 1) (k f).2) : Sane (N + 1) (stepAt l i k).2 := by
  have up : ∀ f, Fm.ok N f → Fm.ok (N + 1) f := fun f h => ⟨h.s0, h.s3, h.p0, by have := h.pN; omega, h.g0, by have := h.gN; omega, h.free⟩
  rcases idx_cases l i with h | ⟨j, f, rfl, h⟩
  · rw [stepAt_out _ h]; exact ⟨hl.1, fun f hf => up f (hl.2 f hf)⟩
  · rw [stepAt_in _ h]
    refine ⟨by simpa using hl.1, fun g hg => ?_⟩
    rcases List.mem_or_eq_of_mem_set hg with hg | rfl
    · exact up g (hl.2 g hg)
    · exact hk f (hl.2 f (List.mem_of_getElem? h))
theorem freed_ok {N : Int} {f : Fm} (h : Fm.ok N f) : Fm.ok (N + 1) f.freed := ⟨by simp [Fm.freed], by simp [Fm.freed], by simp [Fm.freed], by have := h.pN; have := h.p0; simp [Fm.freed]; omega, h.g0, by have := h.gN; simp [Fm.freed]; omega, by simp [Fm.freed]⟩
theorem actL_sane {N : Int} {l : List Fm} (hl : Sane N l) (h0 : 0 ≤ N) (k i n v : Int) : Sane (N + 1) (actL l k i n v) := by
  have up : ∀ f, Fm.ok N f → Fm.ok (N + 1) f := fun f h => ⟨h.s0, h.s3, h.p0, by have := h.pN; omega, h.g0, by have := h.gN; omega, h.free⟩
  have same : Sane (N + 1) l := ⟨hl.1, fun f hf => up f (hl.2 f hf)⟩
  unfold actL
  split
  · unfold takeL
    split
    · exact same
    · split
      · exact same
      · rename_i j hj
        obtain ⟨f, hf, hs⟩ := freeIx_spec hj
        simp only [hf]
        have hfo := hl.2 f (List.mem_of_getElem? hf)
        refine ⟨by simpa using hl.1, fun g hg => ?_⟩
        rcases List.mem_or_eq_of_mem_set hg with hg | rfl
        · exact up g (hl.2 g hg)
        · exact ⟨by simp, by simp, by simp, by simp; omega, by have := hfo.g0; simp; omega, by have := hfo.gN; simp; omega, by simp⟩
  split
  · refine stepAt_sane hl fun f hf => ?_
    unfold fillK; split
    · exact ⟨by simp, by simp, hf.p0, by have := hf.pN; simp; omega, hf.g0, by have := hf.gN; simp; omega, by simp⟩
    · exact up f hf
  split
  · refine stepAt_sane hl fun f hf => ?_
    unfold pinK; split
    · exact up f hf
    · split
      · exact up f hf
      · rename_i h1 h2
        exact ⟨hf.s0, hf.s3, by have := hf.p0; simp; omega, by have := hf.pN; simp; omega, hf.g0, by have := hf.gN; simp; omega, fun hs => absurd (Or.inl hs) h1⟩
  split
  · refine stepAt_sane hl fun f hf => ?_
    unfold unpinK; split
    · exact up f hf
    · split
      · exact up f hf
      · split
        · exact freed_ok hf
        · rename_i h1 h2 h3
          exact ⟨hf.s0, hf.s3, by simp; omega, by have := hf.pN; simp; omega, hf.g0, by have := hf.gN; simp; omega, fun hs => absurd (Or.inl hs) h1⟩
  split
  · refine stepAt_sane hl fun f hf => ?_
    unfold doomK; split
    · split
      · exact freed_ok hf
      · exact ⟨by simp, by simp, hf.p0, by have := hf.pN; simp; omega, hf.g0, by have := hf.gN; simp; omega, by simp⟩
    · exact up f hf
  · exact same
theorem actL_len {l : List Fm} (k i n v : Int) : (actL l k i n v).length = l.length := by
  have st : ∀ (K : Fm → Int × Fm), (stepAt l i K).2.length = l.length := by
    intro K
    unfold stepAt
    split
    · split <;> simp
    · rfl
  unfold actL
  repeat' split
  all_goals first | exact st _ | rfl | skip
  unfold takeL
  split
  · rfl
  · split
    · rfl
    · simp only
      split <;> simp

end Go.Proofs.Ytmhdnafdbgbmfaa
