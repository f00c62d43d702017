/- The contracts of the reference of layer 4: Take and Count. -/
import Derived.Test.YtmhdnafdbgbmfaaPoolRef
namespace Go.Proofs.Ytmhdnafdbgbmfaa
open Go.RowKit

set_option maxHeartbeats 4000000 in
theorem rcount (bp bf : Nat) (l : List Fm) (hn : l.length ≤ 1000) (hs : ∀ f ∈ l, 0 ≤ f.s ∧ f.s ≤ 3) (w : World) (hP : PoolAt rT w bp bf l) :
    Calls Try.prog 30 #[.pointer (some ⟨bp, 0, none⟩)] w fun e w' => e = .returned (.agg #[.int .i64 (cntS l 0), .int .i64 (cntS l 1), .int .i64 (cntS l 2), .int .i64 (cntS l 3)]) ∧ Fr [] w w' := by
  have HP := Lib.hid hP
  obtain ⟨L1, L2⟩ := hP.lt
  have HS := Lib.hid hs
  clear hP hs
  go_enter Try.func30, Try.ntmps30
  go_wp2_with fail
  refine wp_name (fun w5 f5 => ?_)
  apply f5.use (k := w.heap.size); (focus (repeat (first | (with_reducible assumption) | ((with_reducible refine heap_alloc_at ?_ _); first | (with_reducible rfl) | (focus (simp; done))) | (with_reducible apply heap_alloc_old) | ((with_reducible apply heap_set_other); (case hne => (first | (with_reducible assumption) | exact Nat.ne_of_lt (by with_reducible assumption) | exact Nat.ne_of_gt (by with_reducible assumption) | (focus (simp +arith; done)) | (simp; done)))) | (with_reducible apply heap_set_eq) | (with_reducible apply heap_drew_of) | (with_reducible apply heap_drewN_of)))); (focus (simp; done)); intro hg2 hc2 hz2 _ _ _ _ _; (try simp only [List.setIfInBounds_toArray, List.set_cons_zero, List.set_cons_succ] at hg2 hc2); apply f5.use (k := w.heap.size+1); (focus (repeat (first | (with_reducible assumption) | ((with_reducible refine heap_alloc_at ?_ _); first | (with_reducible rfl) | (focus (simp; done))) | (with_reducible apply heap_alloc_old) | ((with_reducible apply heap_set_other); (case hne => (first | (with_reducible assumption) | exact Nat.ne_of_lt (by with_reducible assumption) | exact Nat.ne_of_gt (by with_reducible assumption) | (focus (simp +arith; done)) | (simp; done)))) | (with_reducible apply heap_set_eq) | (with_reducible apply heap_drew_of) | (with_reducible apply heap_drewN_of)))); (focus (simp; done)); intro hg3 hc3 hz3 _ _ _ _ _; (try simp only [List.setIfInBounds_toArray, List.set_cons_zero, List.set_cons_succ] at hg3 hc3)
  have F5 : Fr [] w w5 := Fr.trans (by repeat' (first | (with_reducible exact Fr.refl _ _) | (with_reducible assumption) | (with_reducible refine Fr.drew ?_) | (with_reducible refine Fr.drewN ?_ _) | (with_reducible refine Fr.alloc ?_ _) | ((with_reducible refine Fr.setNew ?_ _ ?_ _); rotate_left; (focus (first | (with_reducible assumption) | exact Nat.le_of_lt (by with_reducible assumption) | (focus (simp +arith; done)) | exact Nat.le_trans (by with_reducible assumption) (by simp +arith; done) | (simp; done)))) | ((with_reducible refine Fr.setOld ?_ _ ?_ _); rotate_left; (focus (simp; done))))) f5
  clear hc2 hz2 hc3 hz3 f5
  go_loopw [4] (fun v w' => ∃ k : Nat, v = .int .i64 k ∧ k ≤ l.length ∧ w'.heap[w.heap.size+1]? = some (.cells #[.int .i64 (cntS (l.take k) 0), .int .i64 (cntS (l.take k) 1), .int .i64 (cntS (l.take k) 2), .int .i64 (cntS (l.take k) 3)] 55) ∧
      w'.heap[w.heap.size]? = some (.cells #[.int .i64 0, .int .i64 0, .int .i64 0, .int .i64 0] 55) ∧ Fr [] w w') (fun v _ => l.length - (intOf v).toNat)
  case atStart => exact ⟨0, rfl, by omega, by simpa [cntS] using hg3, hg2, F5⟩
  case round =>
    clear hg2 hg3 F5
    obtain ⟨k, rfl, k1, s1, s2, F6⟩ := hrel
    have P6 := HP.out.fr F6 (by simp) (by simp)
    have hz6 := blk_frozen P6.hf
    apply blk_use P6.hp; intro hg4 hc4 hz4 _ _ _ _ _
    by_cases hk : k < l.length
    · obtain ⟨f, hi⟩ : ∃ f, l[k]? = some f := ⟨l[k], by simp [hk]⟩
      have c0 := (P6).cell hi 0 (by omega); have c1 := (P6).cell hi 1 (by omega); have c2 := (P6).cell hi 2 (by omega); have c3 := (P6).cell hi 3 (by omega); have c4 := (P6).cell hi 4 (by omega); simp [Fm.cells] at c0 c1 c2 c3 c4
      obtain ⟨S0, S3⟩ := HS.out f (List.mem_of_getElem? hi)
      have t0 := cntS_take hi 0
      have t1 := cntS_take hi 1
      have t2 := cntS_take hi 2
      have t3 := cntS_take hi 3
      obtain ⟨d0, e0⟩ := cntS_le (l.take k) 0
      obtain ⟨d1, e1⟩ := cntS_le (l.take k) 1
      obtain ⟨d2, e2⟩ := cntS_le (l.take k) 2
      obtain ⟨d3, e3⟩ := cntS_le (l.take k) 3
      rw [List.length_take] at e0 e1 e2 e3
      generalize cntS (l.take k) 0 = n0 at *
      generalize cntS (l.take k) 1 = n1 at *
      generalize cntS (l.take k) 2 = n2 at *
      generalize cntS (l.take k) 3 = n3 at *
      have q0 : n0 ≤ 1000 ∧ n1 ≤ 1000 ∧ n2 ≤ 1000 ∧ n3 ≤ 1000 := by omega
      obtain ⟨q0, q1, q2, q3⟩ := q0
      clear e0 e1 e2 e3 k1
      have F := Lib.hid F6
      have S2 := Lib.hid s2
      clear F6 P6 s2
      apply blk_use s1; intro hg1 hc1 hz1 _ _ _ _ _
      clear s1
      rcases (by omega : f.s = 0 ∨ f.s = 1 ∨ f.s = 2 ∨ f.s = 3) with q | q | q | q
      all_goals
        rw [q] at c0
        simp [q] at t0 t1 t2 t3
        have T0 := Lib.hid t0
        have T1 := Lib.hid t1
        have T2 := Lib.hid t2
        have T3 := Lib.hid t3
        clear t0 t1 t2 t3
        go_wp2
        go_roundw
        case rel =>
          refine ⟨k + 1, by go_num, by omega, ?_, ?_, ?_⟩
          · rw [T0.out, T1.out, T2.out, T3.out]
            (apply heap_eq_of; (focus (repeat (first | (with_reducible assumption) | ((with_reducible refine heap_alloc_at ?_ _); first | (with_reducible rfl) | (focus (simp; done))) | (with_reducible apply heap_alloc_old) | ((with_reducible apply heap_set_other); (case hne => (first | (with_reducible assumption) | exact Nat.ne_of_lt (by with_reducible assumption) | exact Nat.ne_of_gt (by with_reducible assumption) | (focus (simp +arith; done)) | (simp; done)))) | (with_reducible apply heap_set_eq) | (with_reducible apply heap_drew_of) | (with_reducible apply heap_drewN_of)))); (focus (first | (simp; done) | rfl)))
          · have s2 := S2.out
            (apply heap_eq_of; (focus (repeat (first | (with_reducible assumption) | ((with_reducible refine heap_alloc_at ?_ _); first | (with_reducible rfl) | (focus (simp; done))) | (with_reducible apply heap_alloc_old) | ((with_reducible apply heap_set_other); (case hne => (first | (with_reducible assumption) | exact Nat.ne_of_lt (by with_reducible assumption) | exact Nat.ne_of_gt (by with_reducible assumption) | (focus (simp +arith; done)) | (simp; done)))) | (with_reducible apply heap_set_eq) | (with_reducible apply heap_drew_of) | (with_reducible apply heap_drewN_of)))); (focus (first | (simp; done) | rfl)))
          · have F6 := F.out
            exact (by repeat' (first | (with_reducible exact Fr.refl _ _) | (with_reducible assumption) | (with_reducible refine Fr.drew ?_) | (with_reducible refine Fr.drewN ?_ _) | (with_reducible refine Fr.alloc ?_ _) | ((with_reducible refine Fr.setNew ?_ _ ?_ _); rotate_left; (focus (first | (with_reducible assumption) | exact Nat.le_of_lt (by with_reducible assumption) | (focus (simp +arith; done)) | exact Nat.le_trans (by with_reducible assumption) (by simp +arith; done) | (simp; done)))) | ((with_reducible refine Fr.setOld ?_ _ ?_ _); rotate_left; (focus (simp; done)))))
        case measure => simp [intOf]; omega
    · have hk' : k = l.length := by omega
      subst hk'
      rw [List.take_length] at s1
      apply blk_use s1; intro hg1 hc1 hz1 _ _ _ _ _; apply blk_use s2; intro hg2 hc2 hz2 _ _ _ _ _
      clear s1 s2 hk P6
      go_wp2
      refine bodyPost_ret (v := .agg #[.int .i64 (cntS l 0), .int .i64 (cntS l 1), .int .i64 (cntS l 2), .int .i64 (cntS l 3)]) ?_ rfl ⟨rfl, (by repeat' (first | (with_reducible exact Fr.refl _ _) | (with_reducible assumption) | (with_reducible refine Fr.drew ?_) | (with_reducible refine Fr.drewN ?_ _) | (with_reducible refine Fr.alloc ?_ _) | ((with_reducible refine Fr.setNew ?_ _ ?_ _); rotate_left; (focus (first | (with_reducible assumption) | exact Nat.le_of_lt (by with_reducible assumption) | (focus (simp +arith; done)) | exact Nat.le_trans (by with_reducible assumption) (by simp +arith; done) | (simp; done)))) | ((with_reducible refine Fr.setOld ?_ _ ?_ _); rotate_left; (focus (simp; done)))))⟩
      refine results_name (fun w6 f6 => ?_)
      apply f6.use (k := w.heap.size); (focus (repeat (first | (with_reducible assumption) | ((with_reducible refine heap_alloc_at ?_ _); first | (with_reducible rfl) | (focus (simp; done))) | (with_reducible apply heap_alloc_old) | ((with_reducible apply heap_set_other); (case hne => (first | (with_reducible assumption) | exact Nat.ne_of_lt (by with_reducible assumption) | exact Nat.ne_of_gt (by with_reducible assumption) | (focus (simp +arith; done)) | (simp; done)))) | (with_reducible apply heap_set_eq) | (with_reducible apply heap_drew_of) | (with_reducible apply heap_drewN_of)))); (focus (simp; done)); intro hg5 hc5 hz5 _ _ _ _ _; (try simp only [List.setIfInBounds_toArray, List.set_cons_zero, List.set_cons_succ] at hg5 hc5)
      simp [results, Try.results30, go_sem, *]

theorem PoolAt.set3 {Tp : TypeId} {w : World} {bp bf : Nat} {l : List Fm} (h : PoolAt Tp w bp bf l) {i : Nat} {f : Fm} (hi : l[i]? = some f) (x y z : Int) :
    PoolAt Tp (((w.setCell ⟨bf, i * 5, none⟩ (.int .i64 x)).setCell ⟨bf, i * 5 + 1, none⟩ (.int .i64 y)).setCell ⟨bf, i * 5 + 2, none⟩ (.int .i64 z)) bp bf (l.set i ⟨x, y, z, f.p, f.v⟩) := by
  have hl : i < l.length := (List.getElem?_eq_some_iff.1 hi).1
  have q1 := h.set (g := ⟨x, f.b, f.g, f.p, f.v⟩) hi 0 (by omega) (.int .i64 x) (by simp [Fm.cells])
  have q2 := q1.set (i := i) (f := ⟨x, f.b, f.g, f.p, f.v⟩) (g := ⟨x, y, f.g, f.p, f.v⟩) (by simp [hl]) 1 (by omega) (.int .i64 y) (by simp [Fm.cells])
  have q3 := q2.set (i := i) (f := ⟨x, y, f.g, f.p, f.v⟩) (g := ⟨x, y, z, f.p, f.v⟩) (by simp [hl]) 2 (by omega) (.int .i64 z) (by simp [Fm.cells])
  simpa [List.set_set] using q3

theorem takeL_none {l : List Fm} {b : Int} (hb : ¬ b < 0) (hx : freeIx l = none) : takeL l b = (0, 2, l) := by rw [takeL, if_neg hb, hx]
theorem takeL_some {l : List Fm} {b : Int} {i : Nat} {f : Fm} (hb : ¬ b < 0) (hx : freeIx l = some i) (hi : l[i]? = some f) : takeL l b = ((i : Int), 0, l.set i ⟨1, b, f.g + 1, 0, 0⟩) := by
  rw [takeL, if_neg hb, hx]; simp only [hi]

set_option maxHeartbeats 4000000 in
theorem rtake (bp bf : Nat) (l : List Fm) (b : Int) (hn : l.length ≤ 1000) (hG : ∀ f ∈ l, 0 ≤ f.g ∧ f.g < 1000000) (hF : ∀ f ∈ l, f.s = 0 → f.p = 0 ∧ f.v = 0) (w : World) (hP : PoolAt rT w bp bf l) :
    Calls Try.prog 43 #[.pointer (some ⟨bp, 0, none⟩), .int .i64 b] w fun e w' =>
      e = .returned (.tuple #[.int .i64 (takeL l b).1, .int .i64 (takeL l b).2.1]) ∧ PoolAt rT w' bp bf (takeL l b).2.2 ∧ Fr [bf] w w' := by
  have HP := Lib.hid hP
  have HG := Lib.hid hG
  have HF := Lib.hid hF
  have hz0 := blk_frozen hP.hf
  have hne := hP.ne
  have hne' := hP.ne.symm
  apply blk_use hP.hp; intro hg1 hc1 hz1 _ _ _ _ _
  clear hP hG hF
  by_cases hb : b < 0
  · have hE : takeL l b = (0, 1, l) := if_pos hb
    rw [hE]
    clear hE
    go_enter Try.func43, Try.ntmps43
    go_wp2
    refine bodyPost_ret (v := .tuple #[.int .i64 0, .int .i64 1]) (by simp [results, Try.results43, go_sem, *]) rfl ⟨rfl, HP.out, Fr.refl _ _⟩
  · have HB : Hid (0 ≤ b) := by unfold Hid; omega
    go_enter Try.func43, Try.ntmps43
    go_wp2_with fail
    go_loop [6] (fun v => ∃ k : Nat, v = .int .i64 k ∧ k ≤ l.length ∧ (∀ j, j < k → ∀ f, l[j]? = some f → f.s ≠ 0)) (fun v => l.length - (intOf v).toNat)
    case atStart => exact ⟨0, rfl, by omega, by omega⟩
    case round =>
      obtain ⟨k, rfl, k1, K2⟩ := hrel
      by_cases hk : k < l.length
      · obtain ⟨f, hi⟩ : ∃ f, l[k]? = some f := ⟨l[k], by simp [hk]⟩
        have c0 := (HP.out).cell hi 0 (by omega); have c1 := (HP.out).cell hi 1 (by omega); have c2 := (HP.out).cell hi 2 (by omega); have c3 := (HP.out).cell hi 3 (by omega); have c4 := (HP.out).cell hi 4 (by omega); simp [Fm.cells] at c0 c1 c2 c3 c4
        by_cases hs : f.s = 0
        · have HE := Lib.hid (takeL_some (b := b) (by have := HB.out; omega) (freeIx_some hi hs (fun j hj g hg => K2 j hj g hg)) hi)
          obtain ⟨F1, F2⟩ := HF.out f (List.mem_of_getElem? hi) hs
          obtain ⟨G0, G1⟩ := HG.out f (List.mem_of_getElem? hi)
          have HQ := Lib.hid (HP.out.set3 hi 1 b (f.g + 1))
          rw [F1, F2] at HQ
          clear K2 F1 F2
          go_wp2
          refine bodyPost_ret (v := .tuple #[.int .i64 k, .int .i64 0]) (by simp [results, Try.results43, go_sem, *]) rfl ?_
          rw [HE.out]
          exact ⟨rfl, HQ.out, (by repeat' (first | (with_reducible exact Fr.refl _ _) | (with_reducible assumption) | (with_reducible refine Fr.drew ?_) | (with_reducible refine Fr.drewN ?_ _) | (with_reducible refine Fr.alloc ?_ _) | ((with_reducible refine Fr.setNew ?_ _ ?_ _); rotate_left; (focus (first | (with_reducible assumption) | exact Nat.le_of_lt (by with_reducible assumption) | (focus (simp +arith; done)) | exact Nat.le_trans (by with_reducible assumption) (by simp +arith; done) | (simp; done)))) | ((with_reducible refine Fr.setOld ?_ _ ?_ _); rotate_left; (focus (simp; done)))))⟩
        · have hs' : (f.s == 0) = false := by simpa using hs
          have K3 : Hid (∀ j, j < k + 1 → ∀ f, l[j]? = some f → f.s ≠ 0) := by
            intro j hj g hg
            by_cases hjk : j = k
            · subst hjk; rw [hi] at hg; cases hg; exact hs
            · exact K2 j (by omega) g hg
          clear K2 hs
          go_wp2
          go_round
          case rel => exact ⟨k + 1, by go_num, by omega, K3.out⟩
          case measure => simp [intOf]; omega
      · have hk' : k = l.length := by omega
        subst hk'
        have HE := Lib.hid (takeL_none (b := b) (by have := HB.out; omega) (freeIx_none (l := l) (fun j g hg => K2 j (List.getElem?_eq_some_iff.1 hg).1 g hg)))
        clear hk K2
        go_wp2
        refine bodyPost_ret (v := .tuple #[.int .i64 0, .int .i64 2]) (by simp [results, Try.results43, go_sem, *]) rfl ?_
        rw [HE.out]
        exact ⟨rfl, HP.out, Fr.refl _ _⟩

end Go.Proofs.Ytmhdnafdbgbmfaa
