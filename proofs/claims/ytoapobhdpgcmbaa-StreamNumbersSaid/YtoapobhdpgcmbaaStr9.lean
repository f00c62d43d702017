/- Package stream: Access. -/
import Derived.Test.YtoapobhdpgcmbaaStr8
import Derived.Test.YtoapobhdpgcmbaaCut
namespace Go.Proofs.Ytoapobhdpgcmbaa
open Go.RowKit Go.Lib

/-- What a tracker knows. -/
structure TS where
  xs : List Str
  us : Int
  la : Int
  L : Int
  E : List (Int × Int)
/-- An access that may be: is it in a stream, which one, and the tracker ahead of the reading. -/
def accM (most size life first count : Int) (s : TS) : Bool × Nat × TS :=
  if 0 ≤ fndS first s.xs then (true, (fndS first s.xs).toNat, ⟨s.xs, s.us + 1, s.la, s.L, s.E⟩)
  else if lookB life first count (s.L, s.E) = true then (true, (begX most s.xs).length, ⟨begX most s.xs ++ [⟨s.la + 1, first, first, 1, 0, 0⟩], s.us + 1, s.la + 1, (lookE size life first count (s.L, s.E)).1, (lookE size life first count (s.L, s.E)).2⟩)
  else (false, 0, ⟨s.xs, s.us + 1, s.la, (lookE size life first count (s.L, s.E)).1, (lookE size life first count (s.L, s.E)).2⟩)
/-- A stream that was read. -/
def rdS (deg blk count us : Int) (x : Str) : Str := ⟨x.id, x.nx + count, arA x.nx x.ah count + arC x.nx x.ah x.pp x.gg count deg blk, arP x.nx x.ah x.pp count deg, x.gg, us⟩
section
variable {w w' : World} {t tb b base : Nat} {size life most deg blk us la L : Int} {v : Value} {xs : List Str} {E : List (Int × Int)}
theorem own_apart {S : List Nat} (h : eS.Own w base v xs) (f : Fr S w w') (hS : ∀ x ∈ v.ownBlock.toList, x ∉ S) : eS.Own w' base v xs := by
  obtain ⟨h1, h | ⟨g, cap, cur, rfl, hg, hb, hc, hm, hz, ht⟩⟩ := h
  · exact ⟨h1, Or.inl h⟩
  · exact ⟨h1, Or.inr ⟨g, cap, cur, rfl, hg, f.heap hb (hS g (by simp [Value.ownBlock])), hc, hm, hz, ht⟩⟩
theorem TrkAt.frA {S : List Nat} (h : TrkAt w t tb b base size life most deg blk v xs us la L E) (f : Fr S w w') (h1 : t ∉ S) (h2 : tb ∉ S) (h3 : b ∉ S) (h4 : ∀ x ∈ v.ownBlock.toList, x ∉ S) : TrkAt w' t tb b base size life most deg blk v xs us la L E :=
  ⟨f.heap h.ht h1, own_apart h.ow f h4, h.tp.fr f h2 h3, h.lt, h.ne, Nat.le_trans h.bs f.size⟩
set_option maxRecDepth 100000 in
set_option maxHeartbeats 4000000 in
/-- An access that may not be. -/
theorem sacc_no (first count : Int) (h : count < 1 ∨ 8 < count ∨ first < 0 ∨ blk - count < first) (hb : 1 ≤ blk ∧ blk ≤ 256) (H : TrkAt w t tb b base size life most deg blk v xs us la L E) :
    Calls Try.prog 17 #[.pointer (some ⟨t, 0, none⟩), .int .i64 first, .int .i64 count] w fun e w' => e = .returned (.tuple #[.agg #[.int .i64 0, .int .i64 0, .int .i64 0], .int .i64 1]) ∧ Fr [] w w' := by
  have HX := H.ht
  obtain ⟨b1, b2⟩ := hb
  clear H
  apply blk_use HX; intro hg1 hc1 hz1 _ _ _ _ _
  by_cases c1 : count < 1
  · clear h
    go_enter Try.func17, Try.ntmps17
    go_wp2
    refine bodyPost_ret (v := .tuple #[.agg #[.int .i64 0, .int .i64 0, .int .i64 0], .int .i64 1]) (by simp [results, Try.results17, go_sem, *]) rfl ⟨rfl, (by repeat' (first | (with_reducible exact Fr.refl _ _) | (with_reducible assumption) | (with_reducible refine Fr.drew ?_) | (with_reducible refine Fr.drewN ?_ _) | (with_reducible refine Fr.alloc ?_ _) | ((with_reducible refine Fr.setNew ?_ _ ?_ _); rotate_left; (focus (first | (with_reducible assumption) | exact Nat.le_of_lt (by with_reducible assumption) | (focus (simp +arith; done)) | exact Nat.le_trans (by with_reducible assumption) (by simp +arith; done) | (simp; done)))) | ((with_reducible refine Fr.setOld ?_ _ ?_ _); rotate_left; (focus (simp; done)))))⟩
  · by_cases c2 : 8 < count
    · clear h
      go_enter Try.func17, Try.ntmps17
      go_wp2
      refine bodyPost_ret (v := .tuple #[.agg #[.int .i64 0, .int .i64 0, .int .i64 0], .int .i64 1]) (by simp [results, Try.results17, go_sem, *]) rfl ⟨rfl, (by repeat' (first | (with_reducible exact Fr.refl _ _) | (with_reducible assumption) | (with_reducible refine Fr.drew ?_) | (with_reducible refine Fr.drewN ?_ _) | (with_reducible refine Fr.alloc ?_ _) | ((with_reducible refine Fr.setNew ?_ _ ?_ _); rotate_left; (focus (first | (with_reducible assumption) | exact Nat.le_of_lt (by with_reducible assumption) | (focus (simp +arith; done)) | exact Nat.le_trans (by with_reducible assumption) (by simp +arith; done) | (simp; done)))) | ((with_reducible refine Fr.setOld ?_ _ ?_ _); rotate_left; (focus (simp; done)))))⟩
    · by_cases c3 : first < 0
      · have c1' : 1 ≤ count := by omega
        have c2' : count ≤ 8 := by omega
        clear h c1 c2
        go_enter Try.func17, Try.ntmps17
        go_wp2
        refine bodyPost_ret (v := .tuple #[.agg #[.int .i64 0, .int .i64 0, .int .i64 0], .int .i64 1]) (by simp [results, Try.results17, go_sem, *]) rfl ⟨rfl, (by repeat' (first | (with_reducible exact Fr.refl _ _) | (with_reducible assumption) | (with_reducible refine Fr.drew ?_) | (with_reducible refine Fr.drewN ?_ _) | (with_reducible refine Fr.alloc ?_ _) | ((with_reducible refine Fr.setNew ?_ _ ?_ _); rotate_left; (focus (first | (with_reducible assumption) | exact Nat.le_of_lt (by with_reducible assumption) | (focus (simp +arith; done)) | exact Nat.le_trans (by with_reducible assumption) (by simp +arith; done) | (simp; done)))) | ((with_reducible refine Fr.setOld ?_ _ ?_ _); rotate_left; (focus (simp; done)))))⟩
      · have c1' : 1 ≤ count := by omega
        have c2' : count ≤ 8 := by omega
        have c3' : 0 ≤ first := by omega
        have c4 : blk - count < first := by omega
        clear h c1 c2 c3
        go_enter Try.func17, Try.ntmps17
        go_wp2
        refine bodyPost_ret (v := .tuple #[.agg #[.int .i64 0, .int .i64 0, .int .i64 0], .int .i64 1]) (by simp [results, Try.results17, go_sem, *]) rfl ⟨rfl, (by repeat' (first | (with_reducible exact Fr.refl _ _) | (with_reducible assumption) | (with_reducible refine Fr.drew ?_) | (with_reducible refine Fr.drewN ?_ _) | (with_reducible refine Fr.alloc ?_ _) | ((with_reducible refine Fr.setNew ?_ _ ?_ _); rotate_left; (focus (first | (with_reducible assumption) | exact Nat.le_of_lt (by with_reducible assumption) | (focus (simp +arith; done)) | exact Nat.le_trans (by with_reducible assumption) (by simp +arith; done) | (simp; done)))) | ((with_reducible refine Fr.setOld ?_ _ ?_ _); rotate_left; (focus (simp; done)))))⟩
theorem bestF_may {may : Str → Bool} {ahd : Str → Str → Bool} {xs : List Str} : ∀ (n i : Nat), bestF may ahd xs n = i → ∃ x, xs[i]? = some x ∧ may x = true
  | 0, i, h => by simp [bestF] at h
  | n + 1, i, h => by
    cases hx : xs[n]? with
    | none =>
      rw [bestF, hx] at h
      exact bestF_may n i h
    | some x =>
      by_cases hc : may x = true ∧ (bestF may ahd xs n < 0 ∨ ∃ y, xs[(bestF may ahd xs n).toNat]? = some y ∧ ahd x y = true)
      · rw [bestF_take hx rfl hc.1 hc.2] at h
        have : n = i := by omega
        subst this
        exact ⟨x, hx, hc.1⟩
      · rw [bestF_skip hx rfl hc] at h
        exact bestF_may n i h
/-- What an access is answered. -/
def accV (deg blk count : Int) (R : Bool × Nat × TS) : Value := if R.1 = true then (match R.2.2.xs[R.2.1]? with
  | some x => .agg #[.int .i64 x.id, .int .i64 (arF x.nx x.ah x.gg count blk), .int .i64 (arC x.nx x.ah x.pp x.gg count deg blk)]
  | none => undef) else .agg #[.int .i64 0, .int .i64 0, .int .i64 0]
/-- What an access leaves. -/
def accT (deg blk count : Int) (R : Bool × Nat × TS) : TS := if R.1 = true then ⟨R.2.2.xs.modify R.2.1 (rdS deg blk count R.2.2.us), R.2.2.us, R.2.2.la, R.2.2.L, R.2.2.E⟩ else R.2.2
def TrkS (w : World) (t tb b base : Nat) (size life most deg blk : Int) (v : Value) (s : TS) : Prop := TrkAt w t tb b base size life most deg blk v s.xs s.us s.la s.L s.E
set_option maxRecDepth 100000 in
set_option maxHeartbeats 8000000 in
/-- An access that may be. -/
theorem sacc_ok (first count : Int) (c1 : 1 ≤ count) (c2 : count ≤ 8) (c3 : 0 ≤ first) (c4 : first ≤ blk - count) (hb : 1 ≤ blk ∧ blk ≤ 256) (hm : 1 ≤ most ∧ most ≤ 16) (hx : (xs.length : Int) ≤ most) (hu : 0 ≤ us ∧ us ≤ 10000) (hl : 0 ≤ la ∧ la ≤ 10000) (hL : L < 10000) (hs1 : 1 ≤ size) (hs2 : size ≤ 32) (hl1 : 1 ≤ life) (hl2 : life ≤ 64) (K : TapOk size (L, E))
    (hfl : ∀ s ∈ xs, amayB s.nx s.ah s.pp s.gg deg blk = true) (hdg : 1 ≤ deg ∧ deg ≤ 16) (H : TrkAt w t tb b base size life most deg blk v xs us la L E) :
    Calls Try.prog 17 #[.pointer (some ⟨t, 0, none⟩), .int .i64 first, .int .i64 count] w fun e w' => (∃ v', e = .returned (.tuple #[accV deg blk count (accM most size life first count ⟨xs, us, la, L, E⟩), .int .i64 0]) ∧ TrkS w' t tb b base size life most deg blk v' (accT deg blk count (accM most size life first count ⟨xs, us, la, L, E⟩)) ∧ ∀ y ∈ v'.ownBlock.toList, y ∈ v.ownBlock.toList ∨ w.heap.size ≤ y) ∧ Fr (t :: tb :: b :: v.ownBlock.toList) w w' := by
  have fol : Try.prog.follows .mixedOrders = true := by kernel_rfl
  have HX := H.ht
  obtain ⟨b1, b2⟩ := hb
  obtain ⟨u1, u2⟩ := hu
  have HH := Lib.hid H
  have HF := Lib.hid hfl
  obtain ⟨m1, m2⟩ := hm
  have hxl : xs.length ≤ 16 := by omega
  have HK := Lib.hid K
  have HL := Lib.hid hl
  have hfb := bestF_lt (fun s => decide (s.nx = first)) (fun a b => decide (b.us < a.us)) xs xs.length
  have HFB : Hid (-1 ≤ fndS first xs ∧ fndS first xs < xs.length) := hfb
  -- the three ways
  have HW : Hid ((∃ i : Nat, fndS first xs = i ∧ i < xs.length ∧ accM most size life first count ⟨xs, us, la, L, E⟩ = (true, i, ⟨xs, us + 1, la, L, E⟩)) ∨
      (fndS first xs = -1 ∧ lookB life first count (L, E) = true ∧ accM most size life first count ⟨xs, us, la, L, E⟩ = (true, (begX most xs).length, ⟨begX most xs ++ [⟨la + 1, first, first, 1, 0, 0⟩], us + 1, la + 1, (lookE size life first count (L, E)).1, (lookE size life first count (L, E)).2⟩)) ∨
      (fndS first xs = -1 ∧ lookB life first count (L, E) = false ∧ accM most size life first count ⟨xs, us, la, L, E⟩ = (false, 0, ⟨xs, us + 1, la, (lookE size life first count (L, E)).1, (lookE size life first count (L, E)).2⟩))) := by
    obtain ⟨f1, f2⟩ := HFB.out
    by_cases h0 : 0 ≤ fndS first xs
    · refine Or.inl ⟨(fndS first xs).toNat, by omega, by omega, ?_⟩
      unfold accM; rw [if_pos h0]
    · by_cases h1 : lookB life first count (L, E) = true
      · refine Or.inr (Or.inl ⟨by omega, h1, ?_⟩)
        unfold accM; rw [if_neg h0, if_pos h1]
      · refine Or.inr (Or.inr ⟨by omega, by simpa using h1, ?_⟩)
        unfold accM; rw [if_neg h0, if_neg h1]
  generalize accM most size life first count ⟨xs, us, la, L, E⟩ = R at *
  have HWX : Hid (R.1 = true → ∃ X, R.2.2.xs[R.2.1]? = some X ∧ X.nx = first ∧ amayB X.nx X.ah X.pp X.gg deg blk = true ∧ R.2.2.us = us + 1 ∧ R.2.2.xs.length ≤ 17) := by
    intro hok
    rcases HW.out with ⟨i, hfi, hi, hR⟩ | ⟨_, hB, hR⟩ | ⟨_, hB, hR⟩
    · rw [hR]
      obtain ⟨X, hX, hXm⟩ := bestF_may _ i hfi
      exact ⟨X, hX, by simpa using hXm, HF.out X (List.mem_of_getElem? hX), rfl, by simp only; omega⟩
    · rw [hR]
      refine ⟨⟨la + 1, first, first, 1, 0, 0⟩, ?_, rfl, (amayB_iff _ _ _ _ _ _).2 ⟨hdg, ⟨b1, b2⟩, ⟨c3, Int.le_refl _⟩, by simp only; omega, ⟨by simp, by simp only; omega⟩, by simp, by simp⟩, rfl, ?_⟩
      · simp
      · have : (begX most xs).length ≤ 16 := by
          unfold begX; split
          · have := List.length_eraseIdx_le xs (oldS xs).toNat; omega
          · exact hxl
        simp only [List.length_append, List.length_cons, List.length_nil]; omega
    · rw [hR] at hok; cases hok
  obtain ⟨ow1, ow2, ow3⟩ := H.own
  have HOW := Lib.hid (And.intro ow1 (And.intro ow2 ow3))
  have htl := lt_of_heap HX
  have HVL := Lib.hid H.ow.lt
  clear H hfl K hl hfb ow1 ow2 ow3
  apply blk_use HX; intro hg1 hc1 hz1 _ _ _ _ _
  go_enter Try.func17, Try.ntmps17
  go_wp2_with fail
  have T1 : TrkAt (w.setCell ⟨t, 2, none⟩ (.int .i64 (us + 1))) t tb b base size life most deg blk v xs (us + 1) la L E :=
    ⟨by (apply heap_eq_of; (focus (repeat (first | (with_reducible assumption) | ((with_reducible refine heap_alloc_at ?_ _); first | (with_reducible rfl) | (focus (simp; done))) | (with_reducible apply heap_alloc_old) | ((with_reducible apply heap_set_other); (case hne => (first | (with_reducible assumption) | exact Nat.ne_of_lt (by with_reducible assumption) | exact Nat.ne_of_gt (by with_reducible assumption) | (focus (simp +arith; done)) | (simp; done)))) | (with_reducible apply heap_set_eq) | (with_reducible apply heap_drew_of) | (with_reducible apply heap_drewN_of)))); (focus (first | (simp; done) | rfl))), HH.out.ow.fr (S := [t]) (by repeat' (first | (with_reducible exact Fr.refl _ _) | (with_reducible assumption) | (with_reducible refine Fr.drew ?_) | (with_reducible refine Fr.drewN ?_ _) | (with_reducible refine Fr.alloc ?_ _) | ((with_reducible refine Fr.setNew ?_ _ ?_ _); rotate_left; (focus (first | (with_reducible assumption) | exact Nat.le_of_lt (by with_reducible assumption) | (focus (simp +arith; done)) | exact Nat.le_trans (by with_reducible assumption) (by simp +arith; done) | (simp; done)))) | ((with_reducible refine Fr.setOld ?_ _ ?_ _); rotate_left; (focus (simp; done))))) (by have := HH.out.lt; simp; omega), HH.out.tp.fr (S := [t]) (by repeat' (first | (with_reducible exact Fr.refl _ _) | (with_reducible assumption) | (with_reducible refine Fr.drew ?_) | (with_reducible refine Fr.drewN ?_ _) | (with_reducible refine Fr.alloc ?_ _) | ((with_reducible refine Fr.setNew ?_ _ ?_ _); rotate_left; (focus (first | (with_reducible assumption) | exact Nat.le_of_lt (by with_reducible assumption) | (focus (simp +arith; done)) | exact Nat.le_trans (by with_reducible assumption) (by simp +arith; done) | (simp; done)))) | ((with_reducible refine Fr.setOld ?_ _ ?_ _); rotate_left; (focus (simp; done))))) (by have := HH.out.ne; simp; omega) (by have := HH.out.ne; simp; omega), HH.out.lt, HH.out.ne, Nat.le_trans HH.out.bs (by simp [size_setCell])⟩
  have T2 := Lib.hid (T1.fr0 (w' := (w.setCell ⟨t, 2, none⟩ (.int .i64 (us + 1))).alloc (.cells #[.int .i64 0, .int .i64 0, .int .i64 0] 38)) (by repeat' (first | (with_reducible exact Fr.refl _ _) | (with_reducible assumption) | (with_reducible refine Fr.drew ?_) | (with_reducible refine Fr.drewN ?_ _) | (with_reducible refine Fr.alloc ?_ _) | ((with_reducible refine Fr.setNew ?_ _ ?_ _); rotate_left; (focus (first | (with_reducible assumption) | exact Nat.le_of_lt (by with_reducible assumption) | (focus (simp +arith; done)) | exact Nat.le_trans (by with_reducible assumption) (by simp +arith; done) | (simp; done)))) | ((with_reducible refine Fr.setOld ?_ _ ?_ _); rotate_left; (focus (simp; done))))))
  have Q2 : ((w.setCell ⟨t, 2, none⟩ (.int .i64 (us + 1))).alloc (.cells #[.int .i64 0, .int .i64 0, .int .i64 0] 38)).heap[w.heap.size]? = some (.cells #[.int .i64 0, .int .i64 0, .int .i64 0] 38) := heap_alloc_at (by simp [size_setCell]) _
  have F2 : Fr [t] w ((w.setCell ⟨t, 2, none⟩ (.int .i64 (us + 1))).alloc (.cells #[.int .i64 0, .int .i64 0, .int .i64 0] 38)) := (by repeat' (first | (with_reducible exact Fr.refl _ _) | (with_reducible assumption) | (with_reducible refine Fr.drew ?_) | (with_reducible refine Fr.drewN ?_ _) | (with_reducible refine Fr.alloc ?_ _) | ((with_reducible refine Fr.setNew ?_ _ ?_ _); rotate_left; (focus (first | (with_reducible assumption) | exact Nat.le_of_lt (by with_reducible assumption) | (focus (simp +arith; done)) | exact Nat.le_trans (by with_reducible assumption) (by simp +arith; done) | (simp; done)))) | ((with_reducible refine Fr.setOld ?_ _ ?_ _); rotate_left; (focus (simp; done)))))
  generalize (w.setCell ⟨t, 2, none⟩ (.int .i64 (us + 1))).alloc (.cells #[.int .i64 0, .int .i64 0, .int .i64 0] 38) = w2 at *
  obtain ⟨q, hq⟩ : ∃ q, q = w.heap.size := ⟨_, rfl⟩
  rw [← hq] at Q2 ⊢
  have HQ := Lib.hid hq
  clear hq T1 hg1 hc1 hz1
  with_reducible refine (sfind first (by omega) T2.out).mono ?_
  rintro e w3 ⟨rfl, f3⟩
  have T3 := Lib.hid (T2.out.fr0 f3)
  have Q3 := f3.heap Q2 (by simp)
  have F3 : Fr [t] w w3 := F2.trans (f3.mono (by simp))
  clear T2 Q2 F2 f3
  generalize fndS first xs = fi at *
  go_upto_if 47 with fail
  go_cut [8] (fun v8 wc => ∃ v1 : Value, R.1 = true ∧ v8 = .int .i64 (R.2.1 : Nat) ∧ TrkS wc t tb b base size life most deg blk v1 R.2.2 ∧ (∀ y ∈ v1.ownBlock.toList, y ∈ v.ownBlock.toList ∨ w.heap.size ≤ y) ∧ wc.heap[q]? = some (.cells #[.int .i64 0, .int .i64 0, .int .i64 0] 38) ∧ Fr (t :: tb :: b :: v.ownBlock.toList) w wc)
  case first =>
    rcases HW.out with ⟨i, rfl, hi, hR⟩ | ⟨rfl, hB, hR⟩ | ⟨rfl, hB, hR⟩
    · have HR := Lib.hid hR
      clear hR
      go_wp2_with fail
      go_meet
      rw [HR.out]
      exact ⟨v, rfl, rfl, T3.out, fun y hy => Or.inl hy, Q3, F3.mono (by simp)⟩
    · obtain ⟨⟨L2, E2⟩, hE⟩ : ∃ r, lookE size life first count (L, E) = r := ⟨_, rfl⟩
      rw [hE] at hR
      have HR := Lib.hid hR
      have HC := Lib.hid (fun w' (h : TapAt w' tb b size life L E) => tlookc (w := w') first count hE hB rfl hL hs1 hs2 hl1 hl2 HK.out h)
      have HX3 := T3.out.ht
      clear hR hE hB
      apply blk_use HX3; intro hg3 hc3 hz3 _ _ _ _ _
      go_wp2_with fail
      with_reducible refine (HC.out _ T3.out.tp).mono ?_
      rintro e w4 ⟨rfl, P4, f4⟩
      have hne := T3.out.ne
      have T4 : TrkAt w4 t tb b base size life most deg blk v xs (us + 1) la L2 E2 := ⟨f4.heap HX3 (by simp; omega), T3.out.ow.fr f4 (by have := T3.out.lt; simp; omega), P4, T3.out.lt, T3.out.ne, Nat.le_trans T3.out.bs f4.size⟩
      have T4 := Lib.hid T4
      have Q4 := f4.heap Q3 (by have := T3.out.lt; have := HQ.out; have := HH.out.tp.lt; simp; omega)
      have F4 : Fr (t :: tb :: b :: v.ownBlock.toList) w w4 := (F3.mono (by simp)).trans (f4.mono (by simp))
      clear hg3 hc3 hz3 HX3 P4 f4 hne
      go_wp2_with fail
      with_reducible refine (sbegin first hxl m1 hx HL.out.1 (by have := HL.out.2; omega) T4.out).mono ?_
      rintro e w5 ⟨⟨v5, rfl, T5, U5⟩, f5⟩
      have T5 := Lib.hid T5
      have U5 := Lib.hid U5
      have Q5 := f5.heap Q4 (by
        intro hq
        have h1 := HQ.out
        rcases List.mem_cons.1 hq with e | e
        · omega
        · have := HVL.out q e; omega)
      have F5 : Fr (t :: tb :: b :: v.ownBlock.toList) w w5 := F4.trans (f5.mono (fun y hy => Or.inl ((List.mem_cons.1 hy).elim (fun e => by simp [e]) (fun e => by simp [e]))))
      clear Q4 f5
      go_wp2_with fail
      go_meet
      rw [HR.out]
      exact ⟨v5, rfl, rfl, T5.out, fun y hy => (U5.out y hy).imp id (fun z => Nat.le_trans F4.size z), Q5, F5⟩
    · obtain ⟨⟨L2, E2⟩, hE⟩ : ∃ r, lookE size life first count (L, E) = r := ⟨_, rfl⟩
      rw [hE] at hR
      have HR := Lib.hid hR
      have HC := Lib.hid (fun w' (h : TapAt w' tb b size life L E) => tlookc (w := w') first count hE hB rfl hL hs1 hs2 hl1 hl2 HK.out h)
      have HX3 := T3.out.ht
      clear hR hE hB
      apply blk_use HX3; intro hg3 hc3 hz3 _ _ _ _ _
      go_wp2_with fail
      with_reducible refine (HC.out _ T3.out.tp).mono ?_
      rintro e w4 ⟨rfl, P4, f4⟩
      have hne := T3.out.ne
      have T4 : TrkAt w4 t tb b base size life most deg blk v xs (us + 1) la L2 E2 := ⟨f4.heap HX3 (by simp; omega), T3.out.ow.fr f4 (by have := T3.out.lt; simp; omega), P4, T3.out.lt, T3.out.ne, Nat.le_trans T3.out.bs f4.size⟩
      have T4 := Lib.hid T4
      have Q4 := f4.heap Q3 (by have := T3.out.lt; have := HQ.out; have := HH.out.tp.lt; simp; omega)
      have F4 : Fr (t :: tb :: b :: v.ownBlock.toList) w w4 := (F3.mono (by simp)).trans (f4.mono (by simp))
      have hqn : Hid (t ∉ [q] ∧ tb ∉ [q] ∧ b ∉ [q] ∧ (∀ x ∈ v.ownBlock.toList, x ∉ [q]) ∧ w.heap.size ≤ q) := by
        have h1 := HQ.out
        have h2 := HH.out.tp.lt
        exact ⟨by simp; omega, by simp; omega, by simp; omega, fun x hx => by have := HVL.out x hx; simp; omega, by omega⟩
      clear hg3 hc3 hz3 HX3 P4 f4 hne Q3
      apply blk_use Q4; intro hg4 hc4 hz4 _ _ _ _ _
      go_wp2_with fail
      refine bodyPost_ret (v := .tuple #[.agg #[.int .i64 0, .int .i64 0, .int .i64 0], .int .i64 0]) (by simp [results, Try.results17, go_sem, *]) rfl ?_
      rw [HR.out]
      have F5 : Fr [q] w4 (((w4.setCell ⟨q, 0, none⟩ (.int .i64 0)).setCell ⟨q, 1, none⟩ (.int .i64 0)).setCell ⟨q, 2, none⟩ (.int .i64 0)) := (by repeat' (first | (with_reducible exact Fr.refl _ _) | (with_reducible assumption) | (with_reducible refine Fr.drew ?_) | (with_reducible refine Fr.drewN ?_ _) | (with_reducible refine Fr.alloc ?_ _) | ((with_reducible refine Fr.setNew ?_ _ ?_ _); rotate_left; (focus (first | (with_reducible assumption) | exact Nat.le_of_lt (by with_reducible assumption) | (focus (simp +arith; done)) | exact Nat.le_trans (by with_reducible assumption) (by simp +arith; done) | (simp; done)))) | ((with_reducible refine Fr.setOld ?_ _ ?_ _); rotate_left; (focus (simp; done)))))
      exact ⟨⟨v, rfl, T4.out.frA F5 hqn.out.1 hqn.out.2.1 hqn.out.2.2.1 hqn.out.2.2.2.1, fun y hy => Or.inl hy⟩, F4.trans' F5 (by intro x hx; simp at hx; subst hx; exact Or.inr hqn.out.2.2.2.2)⟩
  case rest =>
    clear T3 Q3 F3
    obtain ⟨v1, hok, rfl, T1, U1, Q1, F1⟩ := hcut
    obtain ⟨ok, i, ⟨ys, us2, la2, L2, E2⟩⟩ := R
    obtain ⟨X, hX, hXn, hXm, hus, hyl⟩ := HWX.out hok
    simp only at hok hX hus hyl T1 ⊢
    subst hok
    have T1 : TrkAt wc t tb b base size life most deg blk v1 ys us2 la2 L2 E2 := T1
    have hil : i < ys.length := (List.getElem?_eq_some_iff.1 hX).1
    have HT := Lib.hid T1
    have HX1 := T1.ht
    have HU1 := Lib.hid U1
    have HV1 : Hid (accV deg blk count (true, i, ⟨ys, us2, la2, L2, E2⟩) = .agg #[.int .i64 X.id, .int .i64 (arF X.nx X.ah X.gg count blk), .int .i64 (arC X.nx X.ah X.pp X.gg count deg blk)]) := by
      unfold Hid accV; simp only [if_true]; rw [hX]
    have HTS : Hid (accT deg blk count (true, i, ⟨ys, us2, la2, L2, E2⟩) = ⟨ys.set i (rdS deg blk count us2 X), us2, la2, L2, E2⟩) := by
      unfold Hid accT; simp only [if_true]
      congr 1
      apply List.ext_getElem?
      intro k
      rw [List.getElem?_modify, List.getElem?_set]
      by_cases e : i = k
      · have hXe := (List.getElem?_eq_some_iff.1 hX).2
        subst e; simp [hil, hXe]
      · simp [e]
    have HRD := Lib.hid (fun w => aread_ok X.nx X.ah X.pp X.gg count deg blk hXm (by rw [withinB_iff]; omega) (by omega) w)
    obtain ⟨_, hz0 | ⟨g, cap, cur, hsl, hg, hbk, hc, hmx, hz, ht9⟩⟩ := T1.ow
    · exfalso; obtain ⟨_, hz0⟩ := hz0; omega
    subst hsl
    have hb' : wc.heap[g]? = some (.cells cur 59 (0, 0)) := hbk
    have ht' : cur.toList.take (ys.length * 6) = eS.cs ys := ht9
    have hz' : cur.size = cap * 6 := hz
    have hcell : ∀ j u, j < 6 → (eS.f X)[j]? = some u → cur[i * 6 + j]? = some u := by
      intro j u hj hu
      have h1 := eSok.cs_get ys i j X hX hj
      have h1' : (eS.cs ys)[i * 6 + j]? = (eS.f X)[j]? := h1
      rw [← ht', List.getElem?_take, if_pos (by omega), Array.getElem?_toList] at h1'
      rw [h1', hu]
    have k0 := hcell 0 _ (by decide) rfl
    have k1 := hcell 1 _ (by decide) rfl
    have k2 := hcell 2 _ (by decide) rfl
    have k3 := hcell 3 _ (by decide) rfl
    have k4 := hcell 4 _ (by decide) rfl
    have k5 := hcell 5 _ (by decide) rfl
    have HCELL := Lib.hid hcell
    have hgt : g ≠ t := by have := T1.lt; have hg' : base ≤ g := hg; omega
    have hil' : (i : Int) < (ys.length : Int) := by omega
    have HD := Lib.hid (And.intro ht' (And.intro hz' (And.intro hg (And.intro hc hmx))))
    clear T1 U1 hbk ht9 hz ht' hz' hg hc hmx hcell hX hXn hXm hus
    have HRR : Hid (∀ w1 w2 S, (∀ x ∈ S, wc.heap.size ≤ x) → Fr [] wc w1 → Fr S w1 w2 → Fr [] wc w2) := fun w1 w2 S hS h f => h.trans' f (fun x hx => Or.inr (hS x hx))
    apply blk_use HX1; intro hg5 hc5 hz5 _ _ _ _ _
    go_wp2_with fail
    clear hg5 hc5 hz5
    obtain ⟨n1, hn1⟩ : ∃ n1, n1 = X.nx + count := ⟨_, rfl⟩
    obtain ⟨n2, hn2⟩ : ∃ n2, n2 = arA X.nx X.ah count + arC X.nx X.ah X.pp X.gg count deg blk := ⟨_, rfl⟩
    obtain ⟨n3, hn3⟩ : ∃ n3, n3 = arP X.nx X.ah X.pp count deg := ⟨_, rfl⟩
    obtain ⟨n4, hn4⟩ : ∃ n4, n4 = arF X.nx X.ah X.gg count blk := ⟨_, rfl⟩
    obtain ⟨n5, hn5⟩ : ∃ n5, n5 = arC X.nx X.ah X.pp X.gg count deg blk := ⟨_, rfl⟩
    have HRS : Hid (rdS deg blk count us2 X = ⟨X.id, n1, n2, n3, X.gg, us2⟩) := by unfold Hid rdS; rw [hn1, hn2, hn3]
    rw [← hn1, ← hn2, ← hn3, ← hn4, ← hn5] at HRD
    rw [← hn4, ← hn5] at HV1
    clear hn1 hn2 hn3 hn4 hn5
    refine wp_region_seqM_lit (CutS wc.heap.size (fun w1 => Fr [] wc w1) 18 20 19 21 57 36 #[.int .i64 0, .int .i64 0, .int .i64 0, .int .i64 0] #[.int .i64 n1, .int .i64 n2, .int .i64 n3, .int .i64 X.gg] #[.int .i64 0, .int .i64 0] #[.int .i64 n4, .int .i64 n5])
      (fun k => if k = 18 then .cells #[.int .i64 0, .int .i64 0, .int .i64 0, .int .i64 0] 57 else .cells #[.int .i64 0, .int .i64 0] 36) fol (by kernel_rfl) (fun β β' b w hβ h => h.cong hβ)
      ⟨(Fr.refl _ _).drew, fun h => (by cases h), fun h => (by cases h), fun h => (by cases h), Nat.le_refl _, fun h => (by cases h), fun h => (by cases h)⟩ ?_
    (repeat (first | (refine SeqM.alloc rfl (fun a w => by go_wp2 <;> exact ⟨rfl, rfl, rfl⟩) ?_ ?_; (focus (intro βv bv wv hbv hdv hSv; first | exact hSv.allocx HRR.out (by decide) hbv | exact hSv.allocy HRR.out (by decide) hbv)); (try simp only [Act.put, List.setIfInBounds_toArray, List.set_cons_zero, List.set_cons_succ, Nat.reduceAdd, Nat.zero_add])) | (apply SeqM.cons rfl; (focus (intro βv bv wv hbv hdv hSv; have v0 := hSv.r; have x1 := v0.heap HX1 (by simp); apply blk_use x1; intro hg21 hc21 hz21 _ _ _ _ _; have x2 := v0.heap hb' (by simp); apply blk_use x2; intro hg22 hc22 hz22 _ _ _ _ _; go_wp2_with (go_at_call 52; (with_reducible refine (HRD.out _).mono ?_); rintro e w6 ⟨rfl, f6⟩); exact StepPost.mk rfl (hSv.plain HRR.out (by decide) (by first | (with_reducible exact Fr.refl _ _) | assumption)))); (try simp only [Act.put, List.setIfInBounds_toArray, List.set_cons_zero, List.set_cons_succ, Nat.reduceAdd, Nat.zero_add]))))
    (apply SeqM.cons (v := undef) rfl; (focus (intro βv bv wv hbv hdv hSv; have hk0 : bv 18 = true := hdv { on := 18, ground := .data } (by simp) rfl; have hs0 : bv 20 = false := hbv; obtain ⟨v1, v2⟩ := hSv.x hk0; rw [hs0] at v2; simp only [cond_false] at v2; apply blk_use v2; intro hg21 hc21 hz21 _ _ _ _ _; go_wp2; refine StepPost.mk rfl (hSv.storex HRR.out (by decide) hk0 ?_ ?_); (focus (apply heap_eq_of; (focus (repeat (first | (with_reducible assumption) | ((with_reducible refine heap_alloc_at ?_ _); first | (with_reducible rfl) | (focus (simp; done))) | (with_reducible apply heap_alloc_old) | ((with_reducible apply heap_set_other); (case hne => (first | (with_reducible assumption) | exact Nat.ne_of_lt (by with_reducible assumption) | exact Nat.ne_of_gt (by with_reducible assumption) | (focus (simp +arith; done)) | (simp; done)))) | (with_reducible apply heap_set_eq) | (with_reducible apply heap_drew_of) | (with_reducible apply heap_drewN_of)))); (focus (first | (simp; done) | rfl)))); (focus (exact (by repeat' (first | (with_reducible exact Fr.refl _ _) | (with_reducible assumption) | (with_reducible refine Fr.drew ?_) | (with_reducible refine Fr.drewN ?_ _) | (with_reducible refine Fr.alloc ?_ _) | ((with_reducible refine Fr.setNew ?_ _ ?_ _); rotate_left; (focus (first | (with_reducible assumption) | exact Nat.le_of_lt (by with_reducible assumption) | (focus (simp +arith; done)) | exact Nat.le_trans (by with_reducible assumption) (by simp +arith; done) | (simp; done)))) | ((with_reducible refine Fr.setOld ?_ _ ?_ _); rotate_left; (focus (simp; done))))))))); (try simp only [Act.put, List.setIfInBounds_toArray, List.set_cons_zero, List.set_cons_succ, Nat.reduceAdd, Nat.zero_add]))
    (apply SeqM.cons (v := undef) rfl; (focus (intro βv bv wv hbv hdv hSv; have hk0 : bv 19 = true := hdv { on := 19, ground := .data } (by simp) rfl; have hs0 : bv 21 = false := hbv; obtain ⟨v1, v2⟩ := hSv.y hk0; rw [hs0] at v2; simp only [cond_false] at v2; apply blk_use v2; intro hg21 hc21 hz21 _ _ _ _ _; go_wp2; refine StepPost.mk rfl (hSv.storey HRR.out (by decide) hk0 ?_ ?_); (focus (apply heap_eq_of; (focus (repeat (first | (with_reducible assumption) | ((with_reducible refine heap_alloc_at ?_ _); first | (with_reducible rfl) | (focus (simp; done))) | (with_reducible apply heap_alloc_old) | ((with_reducible apply heap_set_other); (case hne => (first | (with_reducible assumption) | exact Nat.ne_of_lt (by with_reducible assumption) | exact Nat.ne_of_gt (by with_reducible assumption) | (focus (simp +arith; done)) | (simp; done)))) | (with_reducible apply heap_set_eq) | (with_reducible apply heap_drew_of) | (with_reducible apply heap_drewN_of)))); (focus (first | (simp; done) | rfl)))); (focus (exact (by repeat' (first | (with_reducible exact Fr.refl _ _) | (with_reducible assumption) | (with_reducible refine Fr.drew ?_) | (with_reducible refine Fr.drewN ?_ _) | (with_reducible refine Fr.alloc ?_ _) | ((with_reducible refine Fr.setNew ?_ _ ?_ _); rotate_left; (focus (first | (with_reducible assumption) | exact Nat.le_of_lt (by with_reducible assumption) | (focus (simp +arith; done)) | exact Nat.le_trans (by with_reducible assumption) (by simp +arith; done) | (simp; done)))) | ((with_reducible refine Fr.setOld ?_ _ ?_ _); rotate_left; (focus (simp; done))))))))); (try simp only [Act.put, List.setIfInBounds_toArray, List.set_cons_zero, List.set_cons_succ, Nat.reduceAdd, Nat.zero_add]))
    (repeat (first | (refine SeqM.alloc rfl (fun a w => by go_wp2 <;> exact ⟨rfl, rfl, rfl⟩) ?_ ?_; (focus (intro βv bv wv hbv hdv hSv; first | exact hSv.allocx HRR.out (by decide) hbv | exact hSv.allocy HRR.out (by decide) hbv)); (try simp only [Act.put, List.setIfInBounds_toArray, List.set_cons_zero, List.set_cons_succ, Nat.reduceAdd, Nat.zero_add])) | (apply SeqM.cons rfl; (focus (intro βv bv wv hbv hdv hSv; skip; go_wp2_with (fail); exact StepPost.mk rfl (hSv.plain HRR.out (by decide) (by first | (with_reducible exact Fr.refl _ _) | assumption)))); (try simp only [Act.put, List.setIfInBounds_toArray, List.set_cons_zero, List.set_cons_succ, Nat.reduceAdd, Nat.zero_add]))))
    refine SeqM.nil ?_
    intro β bq w7 hbq hS7
    obtain ⟨F7, hx7, hy7, hxy, _, _, _⟩ := hS7
    obtain ⟨hx1, hx2⟩ := hx7 (hbq 18 (by decide))
    obtain ⟨hy1, hy2⟩ := hy7 (hbq 19 (by decide))
    have hne7 := hxy (hbq 18 (by decide)) (hbq 19 (by decide))
    rw [hbq 20 (by decide), cond_true] at hx2
    rw [hbq 21 (by decide), cond_true] at hy2
    dsimp only
    generalize β 18 = p1 at *
    generalize β 19 = p2 at *
    have HX7 := F7.heap HX1 (by simp)
    have B7 := F7.heap hb' (by simp)
    have hq7 : wc.heap[q]? = some (.cells #[.int .i64 0, .int .i64 0, .int .i64 0] 38) := Q1
    have Q7 := F7.heap Q1 (by simp)
    clear hx7 hy7 hxy hbq
    have l1 := lt_of_heap HX1
    have l2 := lt_of_heap hb'
    have l3 := lt_of_heap Q1
    have d1 : p1 ≠ g := by omega
    have d2 : p2 ≠ g := by omega
    have d3 : p1 ≠ t := by omega
    have d4 : p2 ≠ t := by omega
    have d5 : q ≠ p1 := by omega
    have d6 : q ≠ p2 := by omega
    apply blk_use HX7; intro hg1 hc1 hz1 _ _ _ _ _
    apply blk_use B7; intro hg2 hc2 hz2 _ _ _ _ _
    apply blk_use hx2; intro hg3 hc3 hz3 _ _ _ _ _
    apply blk_use hy2; intro hg4 hc4 hz4 _ _ _ _ _
    go_wp2_with fail
    go_region
    have F8 : Fr [g] wc ((((((w7.setCell ⟨g, i * 6 + 1, none⟩ (.int .i64 n1)).setCell ⟨g, i * 6 + 1 + 1, none⟩ (.int .i64 n2)).setCell ⟨g, i * 6 + 1 + 2, none⟩ (.int .i64 n3)).setCell ⟨g, i * 6 + 1 + 3, none⟩ (.int .i64 X.gg)).setCell ⟨g, i * 6 + 5, none⟩ (.int .i64 us2)).drew) := (F7.mono (by simp)).trans (by repeat' (first | (with_reducible exact Fr.refl _ _) | (with_reducible assumption) | (with_reducible refine Fr.drew ?_) | (with_reducible refine Fr.drewN ?_ _) | (with_reducible refine Fr.alloc ?_ _) | ((with_reducible refine Fr.setNew ?_ _ ?_ _); rotate_left; (focus (first | (with_reducible assumption) | exact Nat.le_of_lt (by with_reducible assumption) | (focus (simp +arith; done)) | exact Nat.le_trans (by with_reducible assumption) (by simp +arith; done) | (simp; done)))) | ((with_reducible refine Fr.setOld ?_ _ ?_ _); rotate_left; (focus (simp; done)))))
    have B8 : ((((((w7.setCell ⟨g, i * 6 + 1, none⟩ (.int .i64 n1)).setCell ⟨g, i * 6 + 1 + 1, none⟩ (.int .i64 n2)).setCell ⟨g, i * 6 + 1 + 2, none⟩ (.int .i64 n3)).setCell ⟨g, i * 6 + 1 + 3, none⟩ (.int .i64 X.gg)).setCell ⟨g, i * 6 + 5, none⟩ (.int .i64 us2)).drew).heap[g]? = some (.cells (((((cur.setIfInBounds (i * 6 + 1) (.int .i64 n1)).setIfInBounds (i * 6 + 1 + 1) (.int .i64 n2)).setIfInBounds (i * 6 + 1 + 2) (.int .i64 n3)).setIfInBounds (i * 6 + 1 + 3) (.int .i64 X.gg)).setIfInBounds (i * 6 + 5) (.int .i64 us2)) 59) := by (apply heap_eq_of; (focus (repeat (first | (with_reducible assumption) | ((with_reducible refine heap_alloc_at ?_ _); first | (with_reducible rfl) | (focus (simp; done))) | (with_reducible apply heap_alloc_old) | ((with_reducible apply heap_set_other); (case hne => (first | (with_reducible assumption) | exact Nat.ne_of_lt (by with_reducible assumption) | exact Nat.ne_of_gt (by with_reducible assumption) | (focus (simp +arith; done)) | (simp; done)))) | (with_reducible apply heap_set_eq) | (with_reducible apply heap_drew_of) | (with_reducible apply heap_drewN_of)))); (focus (first | (simp; done) | rfl)))
    have hqg : q ≠ g := by
      intro e
      have Q9 := Q1
      rw [e, hb'] at Q9
      simp at Q9
    have Q8 := F8.heap Q1 (by simpa using hqg)
    have P8 : ((((((w7.setCell ⟨g, i * 6 + 1, none⟩ (.int .i64 n1)).setCell ⟨g, i * 6 + 1 + 1, none⟩ (.int .i64 n2)).setCell ⟨g, i * 6 + 1 + 2, none⟩ (.int .i64 n3)).setCell ⟨g, i * 6 + 1 + 3, none⟩ (.int .i64 X.gg)).setCell ⟨g, i * 6 + 5, none⟩ (.int .i64 us2)).drew).heap[p2]? = some (.cells #[.int .i64 n4, .int .i64 n5] 36) := by (apply heap_eq_of; (focus (repeat (first | (with_reducible assumption) | ((with_reducible refine heap_alloc_at ?_ _); first | (with_reducible rfl) | (focus (simp; done))) | (with_reducible apply heap_alloc_old) | ((with_reducible apply heap_set_other); (case hne => (first | (with_reducible assumption) | exact Nat.ne_of_lt (by with_reducible assumption) | exact Nat.ne_of_gt (by with_reducible assumption) | (focus (simp +arith; done)) | (simp; done)))) | (with_reducible apply heap_set_eq) | (with_reducible apply heap_drew_of) | (with_reducible apply heap_drewN_of)))); (focus (first | (simp; done) | rfl)))
    generalize (((((w7.setCell ⟨g, i * 6 + 1, none⟩ (.int .i64 n1)).setCell ⟨g, i * 6 + 1 + 1, none⟩ (.int .i64 n2)).setCell ⟨g, i * 6 + 1 + 2, none⟩ (.int .i64 n3)).setCell ⟨g, i * 6 + 1 + 3, none⟩ (.int .i64 X.gg)).setCell ⟨g, i * 6 + 5, none⟩ (.int .i64 us2)).drew = w8 at *
    clear hg1 hc1 hz1 hg2 hc2 hz2 hg3 hc3 hz3 hg4 hc4 hz4
    obtain ⟨e1, e2, e3, e4, e5⟩ := HD.out
    have hsz : i * 6 + 5 < cur.size := by omega
    have O8 : eS.Own w8 base (.slice (some ⟨g, 0, none⟩) ys.length cap) (ys.set i ⟨X.id, n1, n2, n3, X.gg, us2⟩) := by
      refine own_upd rfl e1 e2 e3 e4 e5 hil B8 (by simp) (fun j hj => ?_) (fun k hk => ?_)
      · simp only [Array.getElem?_setIfInBounds, Array.size_setIfInBounds]
        rcases (by omega : j = 0 ∨ j = 1 ∨ j = 2 ∨ j = 3 ∨ j = 4 ∨ j = 5) with rfl | rfl | rfl | rfl | rfl | rfl
        all_goals
          (repeat (first | rw [if_pos (by omega)] | rw [if_neg (by omega)]))
          first | rfl | (exact HCELL.out 0 _ (by decide) rfl)
      · simp only [Array.getElem?_setIfInBounds, Array.size_setIfInBounds]
        (repeat (first | rw [if_neg (by omega)]))
    have HO8 := Lib.hid O8
    have hsz0 : ∃ z, cur[i * 6]? = some z := ⟨_, Array.getElem?_eq_getElem (by omega)⟩
    have hid8 : w8.cell? ⟨g, i * 6, none⟩ = some (.int .i64 X.id) := by
      rw [blk_cell B8]
      simp only [Array.getElem?_setIfInBounds, Array.size_setIfInBounds]
      (repeat (first | rw [if_neg (by omega)]))
      exact HCELL.out 0 _ (by decide) rfl
    have HQG : Hid (t ∉ [q] ∧ tb ∉ [q] ∧ b ∉ [q] ∧ g ∉ [q] ∧ w.heap.size ≤ q) := by
      have h1 := HQ.out
      have h2 := HH.out.tp.lt
      exact ⟨by simp; omega, by simp; omega, by simp; omega, by simpa using Ne.symm hqg, by omega⟩
    have HG8 := Lib.hid F8
    have hqp : p2 ≠ q := Ne.symm d6
    clear O8 e1 e2 e3 e4 e5 hsz B8 F8 F7 B7 HX7 Q7 hx2 hy2 k0 k1 k2 k3 k4 k5 hb' hq7 hsz0
    apply blk_use Q8; intro hg1 hc1 hz1 _ _ _ _ _
    apply blk_use P8; intro hg2 hc2 hz2 _ _ _ _ _
    go_wp2_with fail
    go_region
    go_wp2_with fail
    refine bodyPost_ret (v := .tuple #[.agg #[.int .i64 X.id, .int .i64 n4, .int .i64 n5], .int .i64 0]) (by simp [results, Try.results17, go_sem, *]) rfl ?_
    have F9 : Fr [q] w8 (((w8.setCell ⟨q, 0, none⟩ (.int .i64 X.id)).setCell ⟨q, 1, none⟩ (.int .i64 n4)).setCell ⟨q, 2, none⟩ (.int .i64 n5)).drew := (by repeat' (first | (with_reducible exact Fr.refl _ _) | (with_reducible assumption) | (with_reducible refine Fr.drew ?_) | (with_reducible refine Fr.drewN ?_ _) | (with_reducible refine Fr.alloc ?_ _) | ((with_reducible refine Fr.setNew ?_ _ ?_ _); rotate_left; (focus (first | (with_reducible assumption) | exact Nat.le_of_lt (by with_reducible assumption) | (focus (simp +arith; done)) | exact Nat.le_trans (by with_reducible assumption) (by simp +arith; done) | (simp; done)))) | ((with_reducible refine Fr.setOld ?_ _ ?_ _); rotate_left; (focus (simp; done)))))
    have F10 : Fr (t :: tb :: b :: v.ownBlock.toList) w (((w8.setCell ⟨q, 0, none⟩ (.int .i64 X.id)).setCell ⟨q, 1, none⟩ (.int .i64 n4)).setCell ⟨q, 2, none⟩ (.int .i64 n5)).drew := (F1.trans' HG8.out (by
      intro x hx; simp at hx; subst hx
      exact (HU1.out _ (by simp [Value.ownBlock])).imp (fun z => by simp [z]) id)).trans' F9 (by intro x hx; simp at hx; subst hx; exact Or.inr HQG.out.2.2.2.2)
    have K9 : TrkAt w8 t tb b base size life most deg blk (.slice (some ⟨g, 0, none⟩) ys.length cap) (ys.set i ⟨X.id, n1, n2, n3, X.gg, us2⟩) us2 la2 L2 E2 := ⟨HG8.out.heap HX1 (by simpa using Ne.symm hgt), HO8.out, HT.out.tp.fr HG8.out (fun z => HT.out.own.2.1 (by simpa [Value.ownBlock] using z)) (fun z => HT.out.own.2.2 (by simpa [Value.ownBlock] using z)), HT.out.lt, HT.out.ne, Nat.le_trans HT.out.bs HG8.out.size⟩
    rw [HV1.out, HTS.out, HRS.out]
    exact ⟨⟨_, rfl, K9.frA F9 HQG.out.1 HQG.out.2.1 HQG.out.2.2.1 (by intro x hx; simp [Value.ownBlock] at hx; subst hx; exact HQG.out.2.2.2.1), HU1.out⟩, F10⟩
end
end Go.Proofs.Ytoapobhdpgcmbaa
