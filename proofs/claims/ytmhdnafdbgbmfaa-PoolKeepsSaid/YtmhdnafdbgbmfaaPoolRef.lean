/- The contracts of the reference of layer 4, in the words of package pool's. -/
import Derived.Test.YtmhdnafdbgbmfaaPoolOps2
namespace Go.Proofs.Ytmhdnafdbgbmfaa
open Go.RowKit

abbrev rT : TypeId := 64

/-- A frame as frames are: what the answers of the two lean on. -/
structure Fm.ok (N : Int) (f : Fm) : Prop where
  s0 : 0 ≤ f.s
  s3 : f.s ≤ 3
  p0 : 0 ≤ f.p
  pN : f.p ≤ N
  g0 : 0 ≤ f.g
  gN : f.g ≤ N
  free : f.s = 0 → f.b = 0 ∧ f.p = 0 ∧ f.v = 0

set_option maxHeartbeats 1000000 in
theorem rnew (n : Nat) (h2 : n ≤ 64) (w : World) :
    Calls Try.prog 27 #[.int .i64 n] w fun e w' => e = .returned (.pointer (some ⟨w.heap.size + 1, 0, none⟩)) ∧ PoolAt rT w' (w.heap.size + 1) w.heap.size (List.replicate n fm0) ∧ Fr [] w w' := by
  have hmk := run_fmake n (by omega)
  go_enter Try.func27, Try.ntmps27
  go_wp2
  go_ret
  refine ⟨rfl, ⟨?_, ?_, by omega⟩, (by repeat' (first | (with_reducible exact Fr.refl _ _) | (with_reducible assumption) | (with_reducible refine Fr.drew ?_) | (with_reducible refine Fr.drewN ?_ _) | (with_reducible refine Fr.alloc ?_ _) | ((with_reducible refine Fr.setNew ?_ _ ?_ _); rotate_left; (focus (first | (with_reducible assumption) | exact Nat.le_of_lt (by with_reducible assumption) | (focus (simp +arith; done)) | exact Nat.le_trans (by with_reducible assumption) (by simp +arith; done) | (simp; done)))) | ((with_reducible refine Fr.setOld ?_ _ ?_ _); rotate_left; (focus (simp; done)))))⟩
  · (apply heap_eq_of; (focus (repeat (first | (with_reducible assumption) | ((with_reducible refine heap_alloc_at ?_ _); first | (with_reducible rfl) | (focus (simp; done))) | (with_reducible apply heap_alloc_old) | ((with_reducible apply heap_set_other); (case hne => (first | (with_reducible assumption) | exact Nat.ne_of_lt (by with_reducible assumption) | exact Nat.ne_of_gt (by with_reducible assumption) | (focus (simp +arith; done)) | (simp; done)))) | (with_reducible apply heap_set_eq) | (with_reducible apply heap_drew_of) | (with_reducible apply heap_drewN_of)))); (focus (first | (simp; done) | rfl)))
  · (apply heap_eq_of; (focus (repeat (first | (with_reducible assumption) | ((with_reducible refine heap_alloc_at ?_ _); first | (with_reducible rfl) | (focus (simp; done))) | (with_reducible apply heap_alloc_old) | ((with_reducible apply heap_set_other); (case hne => (first | (with_reducible assumption) | exact Nat.ne_of_lt (by with_reducible assumption) | exact Nat.ne_of_gt (by with_reducible assumption) | (focus (simp +arith; done)) | (simp; done)))) | (with_reducible apply heap_set_eq) | (with_reducible apply heap_drew_of) | (with_reducible apply heap_drewN_of)))); (focus (first | (simp; done) | rfl)))

set_option maxHeartbeats 1000000 in
theorem rfree (bp bf : Nat) (l : List Fm) (i : Nat) (f : Fm) (hi : l[i]? = some f) (w : World) (hP : PoolAt rT w bp bf l) :
    Calls Try.prog 60 #[.pointer (some ⟨bp, 0, none⟩), .int .i64 i] w fun e w' => e = .returned (.tuple #[]) ∧ PoolAt rT w' bp bf (l.set i f.freed) ∧ Fr [bf] w w' := by
  have hil : i < l.length := (List.getElem?_eq_some_iff.1 hi).1
  have hne := hP.ne
  have hne' := hP.ne.symm
  have P2 : PoolAt rT w.drew bp bf l := hP.fr (S := []) (Fr.drew (Fr.refl _ _)) (by simp) (by simp)
  have HP2 := Lib.hid P2
  clear P2 hP
  have fol : Try.prog.follows .mixedOrders = true := by kernel_rfl
  go_enter Try.func60, Try.ntmps60
  refine wp_region_mix_lit 15 [] fol (by kernel_rfl) (by kernel_rfl) (by kernel_rfl) (fun p hp => by cases hp) ?_
  (repeat (first | (refine SeqP.skip rfl ?_) | (apply SeqP.cons rfl; (focus (intro wv hfv; have Pv := HP2.out.fr hfv (by simp) (by simp); have hz6 := blk_frozen Pv.hf; apply blk_use Pv.hp; intro hg1 hc1 hz1 _ _ _ _ _; have c0 := (Pv).cell hi 0 (by omega); have c1 := (Pv).cell hi 1 (by omega); have c2 := (Pv).cell hi 2 (by omega); have c3 := (Pv).cell hi 3 (by omega); have c4 := (Pv).cell hi 4 (by omega); simp [Fm.cells] at c0 c1 c2 c3 c4; clear Pv; go_wp2_with (fail); exact StepPost.mk rfl (by first | (with_reducible exact Fr.refl _ _) | assumption))); (try simp only [Act.put, List.setIfInBounds_toArray, List.set_cons_zero, List.set_cons_succ]))))
  refine SeqP.nil ?_
  intro β w5 f5 _ _
  rw [putA_none _ _ _ _ (by kernel_rfl)]
  simp only [List.drop_succ_cons, List.drop_zero]
  have P5 := HP2.out.fr f5 (by simp) (by simp)
  have HQ := Lib.hid (P5.put hi f.freed)
  simp only [World.setCells, Fm.cells, Fm.freed] at HQ
  have F5 : Fr [bf] w w5 := (((Fr.refl _ _).drew).trans f5).mono (by simp)
  have hz5 := blk_frozen P5.hf
  have c0 := (P5).cell hi 0 (by omega); have c1 := (P5).cell hi 1 (by omega); have c2 := (P5).cell hi 2 (by omega); have c3 := (P5).cell hi 3 (by omega); have c4 := (P5).cell hi 4 (by omega); simp [Fm.cells] at c0 c1 c2 c3 c4
  clear P5 f5
  go_wp2
  go_end0
  exact ⟨rfl, HQ.out, (by repeat' (first | (with_reducible exact Fr.refl _ _) | (with_reducible assumption) | (with_reducible refine Fr.drew ?_) | (with_reducible refine Fr.drewN ?_ _) | (with_reducible refine Fr.alloc ?_ _) | ((with_reducible refine Fr.setNew ?_ _ ?_ _); rotate_left; (focus (first | (with_reducible assumption) | exact Nat.le_of_lt (by with_reducible assumption) | (focus (simp +arith; done)) | exact Nat.le_trans (by with_reducible assumption) (by simp +arith; done) | (simp; done)))) | ((with_reducible refine Fr.setOld ?_ _ ?_ _); rotate_left; (focus (simp; done)))))⟩

set_option maxHeartbeats 4000000 in
theorem rheld (bp bf : Nat) (l : List Fm) (i g : Int) (w : World) (hP : PoolAt rT w bp bf l) :
    Calls Try.prog 59 #[.pointer (some ⟨bp, 0, none⟩), .int .i64 i, .int .i64 g] w fun e w' => e = .returned (.int .i64 (stepAt l i (fun f => if f.s = 0 ∨ f.g ≠ g then (3, f) else (0, f))).1) ∧ w = w' := by
  have hz0 := blk_frozen hP.hf
  apply blk_use hP.hp; intro hg1 hc1 hz1 _ _ _ _ _
  have HP := Lib.hid hP
  rcases idx_cases l i with hi | ⟨i, f, rfl, hi⟩
  · rw [stepAt_out _ hi]
    clear hP
    by_cases h1 : i < 0
    · clear hi
      go_enter Try.func59, Try.ntmps59
      go_wp2
      go_ret
      exact ⟨rfl, rfl⟩
    · have h2 : (l.length : Int) ≤ i := by omega
      clear hi
      go_enter Try.func59, Try.ntmps59
      go_wp2
      go_ret
      exact ⟨rfl, rfl⟩
  · have hil : i < l.length := (List.getElem?_eq_some_iff.1 hi).1
    have c0 := (hP).cell hi 0 (by omega); have c1 := (hP).cell hi 1 (by omega); have c2 := (hP).cell hi 2 (by omega); have c3 := (hP).cell hi 3 (by omega); have c4 := (hP).cell hi 4 (by omega); simp [Fm.cells] at c0 c1 c2 c3 c4
    clear hP
    rw [stepAt_in _ hi]
    by_cases h0 : f.s = 0
    · rw [if_pos (Or.inl h0)]
      go_enter Try.func59, Try.ntmps59
      go_wp2
      go_ret
      exact ⟨rfl, rfl⟩
    · by_cases h3 : f.g = g
      · rw [if_neg (by omega)]
        go_enter Try.func59, Try.ntmps59
        go_wp2
        go_ret
        exact ⟨rfl, rfl⟩
      · rw [if_pos (by omega)]
        have h3' : (f.g != g) = true := by simpa using h3
        go_enter Try.func59, Try.ntmps59
        go_wp2
        go_ret
        exact ⟨rfl, rfl⟩

set_option maxHeartbeats 4000000 in
theorem rfill (bp bf : Nat) (l : List Fm) (i v : Int) (w : World) (hP : PoolAt rT w bp bf l) :
    Calls Try.prog 44 #[.pointer (some ⟨bp, 0, none⟩), .int .i64 i, .int .u64 v] w fun e w' =>
      e = .returned (.int .i64 (stepAt l i (fillK v)).1) ∧ PoolAt rT w' bp bf (stepAt l i (fillK v)).2 ∧ Fr [bf] w w' := by
  have hz0 := blk_frozen hP.hf
  have hne := hP.ne
  have hne' := hP.ne.symm
  apply blk_use hP.hp; intro hg1 hc1 hz1 _ _ _ _ _
  have HP := Lib.hid hP
  rcases idx_cases l i with hi | ⟨i, f, rfl, hi⟩
  · rw [stepAt_out _ hi]
    clear hP
    by_cases h1 : i < 0
    · clear hi
      go_enter Try.func44, Try.ntmps44
      go_wp2
      go_ret
      exact ⟨rfl, HP.out, Fr.refl _ _⟩
    · have h2 : (l.length : Int) ≤ i := by omega
      clear hi
      go_enter Try.func44, Try.ntmps44
      go_wp2
      go_ret
      exact ⟨rfl, HP.out, Fr.refl _ _⟩
  · have hil : i < l.length := (List.getElem?_eq_some_iff.1 hi).1
    have c0 := (hP).cell hi 0 (by omega); have c1 := (hP).cell hi 1 (by omega); have c2 := (hP).cell hi 2 (by omega); have c3 := (hP).cell hi 3 (by omega); have c4 := (hP).cell hi 4 (by omega); simp [Fm.cells] at c0 c1 c2 c3 c4
    clear hP
    by_cases ho : f.s = 1 ∨ f.s = 2
    · have hE : stepAt l i (fillK v) = (0, l.set i { f with s := 2, v := v }) := by rw [stepAt_in _ hi, fillK, if_pos ho]
      rw [hE]
      clear hE
      rcases ho with h1 | h1
      all_goals
        go_enter Try.func44, Try.ntmps44
        go_wp2
        go_ret
        exact ⟨rfl, HP.out.set2 hi (g := { f with s := 2 }) 0 (by omega) _ (by simp [Fm.cells]) 4 (by omega) _ (by simp [Fm.cells]), (by repeat' (first | (with_reducible exact Fr.refl _ _) | (with_reducible assumption) | (with_reducible refine Fr.drew ?_) | (with_reducible refine Fr.drewN ?_ _) | (with_reducible refine Fr.alloc ?_ _) | ((with_reducible refine Fr.setNew ?_ _ ?_ _); rotate_left; (focus (first | (with_reducible assumption) | exact Nat.le_of_lt (by with_reducible assumption) | (focus (simp +arith; done)) | exact Nat.le_trans (by with_reducible assumption) (by simp +arith; done) | (simp; done)))) | ((with_reducible refine Fr.setOld ?_ _ ?_ _); rotate_left; (focus (simp; done)))))⟩
    · rw [stepAt_no (c := 5) hi (by rw [fillK, if_neg ho])]
      have h1 : (f.s != 1) = true := by simp; omega
      have h2 : (f.s != 2) = true := by simp; omega
      clear ho
      go_enter Try.func44, Try.ntmps44
      go_wp2
      go_ret
      exact ⟨rfl, HP.out, Fr.refl _ _⟩

theorem rheldc (bp bf : Nat) (l : List Fm) (i g c : Int) (w : World) (hP : PoolAt rT w bp bf l) (hc : (stepAt l i (fun f => if f.s = 0 ∨ f.g ≠ g then (3, f) else (0, f))).1 = c) :
    Calls Try.prog 59 #[.pointer (some ⟨bp, 0, none⟩), .int .i64 i, .int .i64 g] w fun e w' => e = .returned (.int .i64 c) ∧ w = w' := by
  subst hc; exact rheld bp bf l i g w hP

set_option maxHeartbeats 4000000 in
theorem rpin (bp bf : Nat) (l : List Fm) (i g : Int) (w : World) (hP : PoolAt rT w bp bf l) (hB : ∀ f ∈ l, 0 ≤ f.p ∧ f.p < 1000000) :
    Calls Try.prog 45 #[.pointer (some ⟨bp, 0, none⟩), .int .i64 i, .int .i64 g] w fun e w' =>
      e = .returned (.int .i64 (stepAt l i (pinK g)).1) ∧ PoolAt rT w' bp bf (stepAt l i (pinK g)).2 ∧ Fr [bf] w w' := by
  have hz0 := blk_frozen hP.hf
  have hne := hP.ne
  have hne' := hP.ne.symm
  apply blk_use hP.hp; intro hg1 hc1 hz1 _ _ _ _ _
  have HP := Lib.hid hP
  rcases idx_cases l i with hi | ⟨i, f, rfl, hi⟩
  · rw [stepAt_out _ hi]
    have HC := Lib.hid (congrArg Prod.fst (stepAt_out (fun f => if f.s = 0 ∨ f.g ≠ g then ((3 : Int), f) else (0, f)) hi))
    clear hP hB
    go_enter Try.func45, Try.ntmps45
    go_wp2_with (first
    | (go_at_call 59; (with_reducible refine (rheldc bp bf l i g 1 _ HP.out HC.out).mono ?_); rintro e w1 ⟨rfl, rfl⟩)
    | (go_at_call 60; (refine (rfree bp bf _ i _ HI1.out _ HP1.out).mono ?_); rintro e w1 ⟨rfl, k1, k2⟩))
    go_ret
    exact ⟨rfl, HP.out, Fr.refl _ _⟩
  · have hil : i < l.length := (List.getElem?_eq_some_iff.1 hi).1
    have c0 := (hP).cell hi 0 (by omega); have c1 := (hP).cell hi 1 (by omega); have c2 := (hP).cell hi 2 (by omega); have c3 := (hP).cell hi 3 (by omega); have c4 := (hP).cell hi 4 (by omega); simp [Fm.cells] at c0 c1 c2 c3 c4
    obtain ⟨B0, B1⟩ := hB f (List.mem_of_getElem? hi)
    clear hP hB
    by_cases hh : f.s = 0 ∨ f.g ≠ g
    · rw [stepAt_no (c := 3) hi (by rw [pinK, if_pos hh])]
      have HC : Hid ((stepAt l i (fun f => if f.s = 0 ∨ f.g ≠ g then (3, f) else (0, f))).1 = 3) := by unfold Hid; rw [stepAt_in _ hi, if_pos hh]
      clear hh
      go_enter Try.func45, Try.ntmps45
      go_wp2_with (first
          | (go_at_call 59; (with_reducible refine (rheldc bp bf l i g 3 _ HP.out HC.out).mono ?_); rintro e w1 ⟨rfl, rfl⟩)
          | (go_at_call 60; (refine (rfree bp bf _ i _ HI1.out _ HP1.out).mono ?_); rintro e w1 ⟨rfl, k1, k2⟩))
      go_ret
      exact ⟨rfl, HP.out, Fr.refl _ _⟩
    · have HC : Hid ((stepAt l i (fun f => if f.s = 0 ∨ f.g ≠ g then (3, f) else (0, f))).1 = 0) := by unfold Hid; rw [stepAt_in _ hi, if_neg hh]
      by_cases h3 : f.s = 3
      · rw [stepAt_no (c := 5) hi (by rw [pinK, if_neg hh, if_pos h3])]
        clear hh
        go_enter Try.func45, Try.ntmps45
        go_wp2_with (first
          | (go_at_call 59; (with_reducible refine (rheldc bp bf l i g 0 _ HP.out HC.out).mono ?_); rintro e w1 ⟨rfl, rfl⟩)
          | (go_at_call 60; (refine (rfree bp bf _ i _ HI1.out _ HP1.out).mono ?_); rintro e w1 ⟨rfl, k1, k2⟩))
        go_ret
        exact ⟨rfl, HP.out, Fr.refl _ _⟩
      · have hE : stepAt l i (pinK g) = (0, l.set i { f with p := f.p + 1 }) := by rw [stepAt_in _ hi, pinK, if_neg hh, if_neg h3]
        rw [hE]
        have h3' : (f.s == 3) = false := by simpa using h3
        clear hE hh h3
        go_enter Try.func45, Try.ntmps45
        go_wp2_with (first
          | (go_at_call 59; (with_reducible refine (rheldc bp bf l i g 0 _ HP.out HC.out).mono ?_); rintro e w1 ⟨rfl, rfl⟩)
          | (go_at_call 60; (refine (rfree bp bf _ i _ HI1.out _ HP1.out).mono ?_); rintro e w1 ⟨rfl, k1, k2⟩))
        go_ret
        exact ⟨rfl, HP.out.set hi 3 (by omega) _ (by simp [Fm.cells]), (by repeat' (first | (with_reducible exact Fr.refl _ _) | (with_reducible assumption) | (with_reducible refine Fr.drew ?_) | (with_reducible refine Fr.drewN ?_ _) | (with_reducible refine Fr.alloc ?_ _) | ((with_reducible refine Fr.setNew ?_ _ ?_ _); rotate_left; (focus (first | (with_reducible assumption) | exact Nat.le_of_lt (by with_reducible assumption) | (focus (simp +arith; done)) | exact Nat.le_trans (by with_reducible assumption) (by simp +arith; done) | (simp; done)))) | ((with_reducible refine Fr.setOld ?_ _ ?_ _); rotate_left; (focus (simp; done)))))⟩

set_option maxHeartbeats 4000000 in
theorem runpin (bp bf : Nat) (l : List Fm) (i g : Int) (w : World) (hP : PoolAt rT w bp bf l) (hB : ∀ f ∈ l, 0 ≤ f.p ∧ f.p < 1000000) :
    Calls Try.prog 46 #[.pointer (some ⟨bp, 0, none⟩), .int .i64 i, .int .i64 g] w fun e w' =>
      e = .returned (.int .i64 (stepAt l i (unpinK g)).1) ∧ PoolAt rT w' bp bf (stepAt l i (unpinK g)).2 ∧ Fr [bf] w w' := by
  have hz0 := blk_frozen hP.hf
  have hne := hP.ne
  have hne' := hP.ne.symm
  apply blk_use hP.hp; intro hg1 hc1 hz1 _ _ _ _ _
  have HP := Lib.hid hP
  rcases idx_cases l i with hi | ⟨i, f, rfl, hi⟩
  · rw [stepAt_out _ hi]
    have HC := Lib.hid (congrArg Prod.fst (stepAt_out (fun f => if f.s = 0 ∨ f.g ≠ g then ((3 : Int), f) else (0, f)) hi))
    clear hP hB
    go_enter Try.func46, Try.ntmps46
    go_wp2_with (first
    | (go_at_call 59; (with_reducible refine (rheldc bp bf l i g 1 _ HP.out HC.out).mono ?_); rintro e w1 ⟨rfl, rfl⟩)
    | (go_at_call 60; (refine (rfree bp bf _ i _ HI1.out _ HP1.out).mono ?_); rintro e w1 ⟨rfl, k1, k2⟩))
    go_ret
    exact ⟨rfl, HP.out, Fr.refl _ _⟩
  · have hil : i < l.length := (List.getElem?_eq_some_iff.1 hi).1
    have c0 := (hP).cell hi 0 (by omega); have c1 := (hP).cell hi 1 (by omega); have c2 := (hP).cell hi 2 (by omega); have c3 := (hP).cell hi 3 (by omega); have c4 := (hP).cell hi 4 (by omega); simp [Fm.cells] at c0 c1 c2 c3 c4
    obtain ⟨B0, B1⟩ := hB f (List.mem_of_getElem? hi)
    clear hP hB
    by_cases hh : f.s = 0 ∨ f.g ≠ g
    · rw [stepAt_no (c := 3) hi (by rw [unpinK, if_pos hh])]
      have HC : Hid ((stepAt l i (fun f => if f.s = 0 ∨ f.g ≠ g then (3, f) else (0, f))).1 = 3) := by unfold Hid; rw [stepAt_in _ hi, if_pos hh]
      clear hh
      go_enter Try.func46, Try.ntmps46
      go_wp2_with (first
          | (go_at_call 59; (with_reducible refine (rheldc bp bf l i g 3 _ HP.out HC.out).mono ?_); rintro e w1 ⟨rfl, rfl⟩)
          | (go_at_call 60; (refine (rfree bp bf _ i _ HI1.out _ HP1.out).mono ?_); rintro e w1 ⟨rfl, k1, k2⟩))
      go_ret
      exact ⟨rfl, HP.out, Fr.refl _ _⟩
    · have HC : Hid ((stepAt l i (fun f => if f.s = 0 ∨ f.g ≠ g then (3, f) else (0, f))).1 = 0) := by unfold Hid; rw [stepAt_in _ hi, if_neg hh]
      by_cases h3 : f.p ≤ 0
      · rw [stepAt_no (c := 5) hi (by rw [unpinK, if_neg hh, if_pos h3])]
        have h3' : f.p = 0 := by omega
        clear hh h3
        go_enter Try.func46, Try.ntmps46
        go_wp2_with (first
          | (go_at_call 59; (with_reducible refine (rheldc bp bf l i g 0 _ HP.out HC.out).mono ?_); rintro e w1 ⟨rfl, rfl⟩)
          | (go_at_call 60; (refine (rfree bp bf _ i _ HI1.out _ HP1.out).mono ?_); rintro e w1 ⟨rfl, k1, k2⟩))
        go_ret
        exact ⟨rfl, HP.out, Fr.refl _ _⟩
      · have h3' : 0 < f.p := by omega
        have h3'' : (f.p == 0) = false := by simp; omega
        obtain ⟨P1, hi1⟩ := HP.out.set' hi 3 (by omega) (.int .i64 (f.p - 1)) { f with p := f.p - 1 } (by simp [Fm.cells])
        have HP1 := Lib.hid P1
        have HI1 := Lib.hid hi1
        clear P1 hi1
        by_cases h4 : f.p = 1 ∧ f.s = 3
        · have hE : stepAt l i (unpinK g) = (0, l.set i f.freed) := by rw [stepAt_in _ hi, unpinK, if_neg hh, if_neg h3, if_pos h4]
          rw [hE]
          obtain ⟨h5, h6⟩ := h4
          clear HP1 HI1
          obtain ⟨P1, hi1⟩ := HP.out.set' hi 3 (by omega) (.int .i64 0) { f with p := 0 } (by simp [Fm.cells])
          have HP1 := Lib.hid P1
          have HI1 := Lib.hid hi1
          clear P1 hi1
          clear hE hh h3
          go_enter Try.func46, Try.ntmps46
          go_wp2_with (first
          | (go_at_call 59; (with_reducible refine (rheldc bp bf l i g 0 _ HP.out HC.out).mono ?_); rintro e w1 ⟨rfl, rfl⟩)
          | (go_at_call 60; (refine (rfree bp bf _ i _ HI1.out _ HP1.out).mono ?_); rintro e w1 ⟨rfl, k1, k2⟩))
          go_ret
          exact ⟨rfl, by simpa [List.set_set, Fm.freed] using k1, Fr.trans (by repeat' (first | (with_reducible exact Fr.refl _ _) | (with_reducible assumption) | (with_reducible refine Fr.drew ?_) | (with_reducible refine Fr.drewN ?_ _) | (with_reducible refine Fr.alloc ?_ _) | ((with_reducible refine Fr.setNew ?_ _ ?_ _); rotate_left; (focus (first | (with_reducible assumption) | exact Nat.le_of_lt (by with_reducible assumption) | (focus (simp +arith; done)) | exact Nat.le_trans (by with_reducible assumption) (by simp +arith; done) | (simp; done)))) | ((with_reducible refine Fr.setOld ?_ _ ?_ _); rotate_left; (focus (simp; done))))) k2⟩
        · have hE : stepAt l i (unpinK g) = (0, l.set i { f with p := f.p - 1 }) := by rw [stepAt_in _ hi, unpinK, if_neg hh, if_neg h3, if_neg h4]
          rw [hE]
          clear hE hh h3
          by_cases h5 : f.p = 1
          · have h6 : (f.s == 3) = false := by simpa [h5] using h4
            clear h4
            go_enter Try.func46, Try.ntmps46
            go_wp2_with (first
          | (go_at_call 59; (with_reducible refine (rheldc bp bf l i g 0 _ HP.out HC.out).mono ?_); rintro e w1 ⟨rfl, rfl⟩)
          | (go_at_call 60; (refine (rfree bp bf _ i _ HI1.out _ HP1.out).mono ?_); rintro e w1 ⟨rfl, k1, k2⟩))
            go_ret
            exact ⟨rfl, by simpa [h5] using HP1.out, (by repeat' (first | (with_reducible exact Fr.refl _ _) | (with_reducible assumption) | (with_reducible refine Fr.drew ?_) | (with_reducible refine Fr.drewN ?_ _) | (with_reducible refine Fr.alloc ?_ _) | ((with_reducible refine Fr.setNew ?_ _ ?_ _); rotate_left; (focus (first | (with_reducible assumption) | exact Nat.le_of_lt (by with_reducible assumption) | (focus (simp +arith; done)) | exact Nat.le_trans (by with_reducible assumption) (by simp +arith; done) | (simp; done)))) | ((with_reducible refine Fr.setOld ?_ _ ?_ _); rotate_left; (focus (simp; done)))))⟩
          · have h7 : (f.p - 1 == 0) = false := by simp; omega
            clear h4
            go_enter Try.func46, Try.ntmps46
            go_wp2_with (first
          | (go_at_call 59; (with_reducible refine (rheldc bp bf l i g 0 _ HP.out HC.out).mono ?_); rintro e w1 ⟨rfl, rfl⟩)
          | (go_at_call 60; (refine (rfree bp bf _ i _ HI1.out _ HP1.out).mono ?_); rintro e w1 ⟨rfl, k1, k2⟩))
            go_ret
            exact ⟨rfl, HP1.out, (by repeat' (first | (with_reducible exact Fr.refl _ _) | (with_reducible assumption) | (with_reducible refine Fr.drew ?_) | (with_reducible refine Fr.drewN ?_ _) | (with_reducible refine Fr.alloc ?_ _) | ((with_reducible refine Fr.setNew ?_ _ ?_ _); rotate_left; (focus (first | (with_reducible assumption) | exact Nat.le_of_lt (by with_reducible assumption) | (focus (simp +arith; done)) | exact Nat.le_trans (by with_reducible assumption) (by simp +arith; done) | (simp; done)))) | ((with_reducible refine Fr.setOld ?_ _ ?_ _); rotate_left; (focus (simp; done)))))⟩

set_option maxHeartbeats 4000000 in
theorem rdoom (bp bf : Nat) (l : List Fm) (i : Int) (w : World) (hP : PoolAt rT w bp bf l) (hB : ∀ f ∈ l, 0 ≤ f.p ∧ f.p < 1000000) (hs : ∀ f ∈ l, 0 ≤ f.s ∧ f.s ≤ 3) :
    Calls Try.prog 47 #[.pointer (some ⟨bp, 0, none⟩), .int .i64 i] w fun e w' =>
      e = .returned (.int .i64 (stepAt l i doomK).1) ∧ PoolAt rT w' bp bf (stepAt l i doomK).2 ∧ Fr [bf] w w' := by
  have hz0 := blk_frozen hP.hf
  have hne := hP.ne
  have hne' := hP.ne.symm
  apply blk_use hP.hp; intro hg1 hc1 hz1 _ _ _ _ _
  have HP := Lib.hid hP
  rcases idx_cases l i with hi | ⟨i, f, rfl, hi⟩
  · rw [stepAt_out _ hi]
    clear hP hB hs
    by_cases h1 : i < 0
    · clear hi
      go_enter Try.func47, Try.ntmps47
      go_wp2
      go_ret
      exact ⟨rfl, HP.out, Fr.refl _ _⟩
    · have h2 : (l.length : Int) ≤ i := by omega
      clear hi
      go_enter Try.func47, Try.ntmps47
      go_wp2
      go_ret
      exact ⟨rfl, HP.out, Fr.refl _ _⟩
  · have hil : i < l.length := (List.getElem?_eq_some_iff.1 hi).1
    have c0 := (hP).cell hi 0 (by omega); have c1 := (hP).cell hi 1 (by omega); have c2 := (hP).cell hi 2 (by omega); have c3 := (hP).cell hi 3 (by omega); have c4 := (hP).cell hi 4 (by omega); simp [Fm.cells] at c0 c1 c2 c3 c4
    obtain ⟨B0, B1⟩ := hB f (List.mem_of_getElem? hi)
    obtain ⟨S0, S3⟩ := hs f (List.mem_of_getElem? hi)
    clear hP hB hs
    by_cases ho : f.s = 1 ∨ f.s = 2
    · obtain ⟨P1, hi1⟩ := HP.out.set' hi 0 (by omega) (.int .i64 3) { f with s := 3 } (by simp [Fm.cells])
      have HQ1 := Lib.hid P1
      clear P1 hi1
      have HP1 := Lib.hid HP.out
      have HI1 := Lib.hid hi
      by_cases h4 : f.p = 0
      · have hE : stepAt l i doomK = (0, l.set i f.freed) := by rw [stepAt_in _ hi, doomK, if_pos ho, if_pos h4]
        rw [hE]
        clear hE
        rcases ho with h1 | h1
        all_goals
          go_enter Try.func47, Try.ntmps47
          go_wp2_with (go_at_call 60; (refine (rfree bp bf _ i _ HI1.out _ HP1.out).mono ?_); rintro e w1 ⟨rfl, k1, k2⟩)
          go_ret
          exact ⟨rfl, k1, k2⟩
      · have hE : stepAt l i doomK = (0, l.set i { f with s := 3 }) := by rw [stepAt_in _ hi, doomK, if_pos ho, if_neg h4]
        have h5 : 0 < f.p := by omega
        rw [hE]
        clear hE
        rcases ho with h1 | h1
        all_goals
          go_enter Try.func47, Try.ntmps47
          go_wp2_with (go_at_call 60; (refine (rfree bp bf _ i _ HI1.out _ HP1.out).mono ?_); rintro e w1 ⟨rfl, k1, k2⟩)
          go_ret
          exact ⟨rfl, HQ1.out, (by repeat' (first | (with_reducible exact Fr.refl _ _) | (with_reducible assumption) | (with_reducible refine Fr.drew ?_) | (with_reducible refine Fr.drewN ?_ _) | (with_reducible refine Fr.alloc ?_ _) | ((with_reducible refine Fr.setNew ?_ _ ?_ _); rotate_left; (focus (first | (with_reducible assumption) | exact Nat.le_of_lt (by with_reducible assumption) | (focus (simp +arith; done)) | exact Nat.le_trans (by with_reducible assumption) (by simp +arith; done) | (simp; done)))) | ((with_reducible refine Fr.setOld ?_ _ ?_ _); rotate_left; (focus (simp; done)))))⟩
    · rw [stepAt_no (c := 5) hi (by rw [doomK, if_neg ho])]
      rcases (by omega : f.s = 0 ∨ f.s = 3) with h1 | h1
      all_goals
        clear ho
        go_enter Try.func47, Try.ntmps47
        go_wp2
        go_ret
        exact ⟨rfl, HP.out, Fr.refl _ _⟩

set_option maxHeartbeats 4000000 in
theorem rpins (bp bf : Nat) (l : List Fm) (hn : l.length ≤ 1000) (hB : ∀ f ∈ l, 0 ≤ f.p ∧ f.p < 1000000) (w : World) (hP : PoolAt rT w bp bf l) :
    Calls Try.prog 32 #[.pointer (some ⟨bp, 0, none⟩)] w fun e w' => e = .returned (.int .i64 (sumP l)) ∧ w = w' := by
  have HP := Lib.hid hP
  have hz6 := blk_frozen hP.hf
  apply blk_use hP.hp; intro hg1 hc1 hz1 _ _ _ _ _
  have HB := Lib.hid hB
  clear hB hP
  go_enter Try.func32, Try.ntmps32
  go_wp2_with fail
  go_loop [3, 4] (fun u v => ∃ k : Nat, v = .int .i64 k ∧ k ≤ l.length ∧ u = .int .i64 (sumP (l.take k))) (fun _ v => l.length - (intOf v).toNat)
  case atStart => exact ⟨0, rfl, by omega, by simp [sumP]⟩
  case round =>
    obtain ⟨k, rfl, k1, rfl⟩ := hrel
    by_cases hk : k < l.length
    · obtain ⟨f, hi⟩ : ∃ f, l[k]? = some f := ⟨l[k], by simp [hk]⟩
      have c0 := (HP.out).cell hi 0 (by omega); have c1 := (HP.out).cell hi 1 (by omega); have c2 := (HP.out).cell hi 2 (by omega); have c3 := (HP.out).cell hi 3 (by omega); have c4 := (HP.out).cell hi 4 (by omega); simp [Fm.cells] at c0 c1 c2 c3 c4
      have t0 := sumP_take hi
      obtain ⟨d0, e0⟩ := sumP_le (l := l.take k) (fun g hg => HB.out g (List.mem_of_mem_take hg))
      obtain ⟨B0, B1⟩ := HB.out f (List.mem_of_getElem? hi)
      rw [List.length_take] at e0
      generalize sumP (l.take k) = n0 at *
      have q0 : n0 ≤ 1000000000 := by omega
      have T0 := Lib.hid t0
      clear e0 k1 t0
      go_wp2
      go_round
      case rel => exact ⟨k + 1, by go_num, by omega, by rw [T0.out]⟩
      case measure => simp [intOf]; omega
    · have hk' : k = l.length := by omega
      subst hk'
      rw [List.take_length]
      clear hk
      go_wp2
      go_ret
      exact ⟨rfl, rfl⟩

end Go.Proofs.Ytmhdnafdbgbmfaa
