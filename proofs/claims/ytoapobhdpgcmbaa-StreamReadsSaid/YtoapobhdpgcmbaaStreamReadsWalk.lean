/- StreamReads answers true at every degree, beginning and counts, and changes nothing that was there. -/
import Derived.Test.YtoapobhdpgcmbaaStrM
namespace Go.Proofs.Ytoapobhdpgcmbaa
open Go.RowKit Go.Lib

/-- A tracker that one reader reads on in: behind i accesses it is at 'at', and what was asked for ends at 'en'. -/
structure RdI (P : Prm) (i : Nat) (at_ en : Int) (s : TS) : Prop where
  ok : SOk P s
  us : s.us ≤ i
  h0 : i = 0 → s = ⟨[], 0, 0, 0, []⟩ ∧ en = at_
  h1 : i = 1 → s = ⟨[], 1, 0, 1, [(at_, 1)]⟩ ∧ en = at_
  h2 : 2 ≤ i → ∃ x, s.xs = [x] ∧ x.id = 1 ∧ x.nx = at_ ∧ x.ah = en ∧ s.E = []
theorem fndS_nil (f : Int) : fndS f [] = -1 := rfl
theorem fndS_one (x : Str) : fndS x.nx [x] = 0 := by
  unfold fndS
  rw [show [x].length = 0 + 1 from rfl, bestF_take (X := x) (B := -1) rfl rfl (by simp) (Or.inl (by simp))]; rfl
theorem begX_nil {m : Int} (h : 1 ≤ m) : begX m [] = [] := by unfold begX; rw [if_neg (by simp; omega)]
theorem RdI.step {d : Int} (hP : (⟨4, 4, 4, d, 256⟩ : Prm).Ok) {i : Nat} {a e n : Int} {s : TS} (h : RdI ⟨4, 4, 4, d, 256⟩ i a e s) (h0 : 0 ≤ a) (n1 : 1 ≤ n) (n2 : n ≤ 8) (hr : a + n ≤ 256) :
    (accR ⟨4, 4, 4, d, 256⟩ a n s).cd = 0 ∧ (i = 0 → (accR ⟨4, 4, 4, d, 256⟩ a n s).id = 0 ∧ (accR ⟨4, 4, 4, d, 256⟩ a n s).af = 0 ∧ (accR ⟨4, 4, 4, d, 256⟩ a n s).an = 0) ∧ (0 < i → (accR ⟨4, 4, 4, d, 256⟩ a n s).id = 1) ∧
    (0 < (accR ⟨4, 4, 4, d, 256⟩ a n s).an → (accR ⟨4, 4, 4, d, 256⟩ a n s).af = max e (a + n)) ∧ 0 ≤ (accR ⟨4, 4, 4, d, 256⟩ a n s).an ∧ (accR ⟨4, 4, 4, d, 256⟩ a n s).an ≤ 16 ∧ RdI ⟨4, 4, 4, d, 256⟩ (i + 1) (a + n) (max e (a + n) + (accR ⟨4, 4, 4, d, 256⟩ a n s).an) (accR ⟨4, 4, 4, d, 256⟩ a n s).s := by
  have hb : ¬ badA ⟨4, 4, 4, d, 256⟩ a n := by unfold badA; simp only; omega
  have hd := hP.dg
  have hok := h.ok.acc hP a n
  have hus := acc_us ⟨4, 4, 4, d, 256⟩ a n s
  have hw := accR_way s hb
  have hu := h.us
  generalize accR ⟨4, 4, 4, d, 256⟩ a n s = r at *
  have ha : ¬ (a < 0 ∨ 1048576 < a ∨ n < 1 ∨ 8 < n) := by omega
  have fin : ∀ (x : Str) (u : Int), x.nx = a → x.ah = e → x.id = 1 → amayB x.nx x.ah x.pp x.gg d 256 = true → 
      (0 < arC x.nx x.ah x.pp x.gg n d 256 → arF x.nx x.ah x.gg n 256 = max e (a + n)) ∧ 0 ≤ arC x.nx x.ah x.pp x.gg n d 256 ∧ arC x.nx x.ah x.pp x.gg n d 256 ≤ 16 ∧ (rdS d 256 n u x).id = 1 ∧ (rdS d 256 n u x).nx = a + n ∧ (rdS d 256 n u x).ah = max e (a + n) + arC x.nx x.ah x.pp x.gg n d 256 := by
    intro x u x1 x2 x3 hm
    obtain ⟨q1, q2, q3, q4⟩ := rd_facts hm n1 n2 (by omega)
    have hA : arA x.nx x.ah n = max e (a + n) := by unfold arA; rw [x1, x2]
    refine ⟨fun hc => ?_, q2, by simp only at hd; omega, x3, by simp only [rdS]; omega, by simp only [rdS]; rw [hA]⟩
    rw [← hA]; exact (q4 hc).1
  rcases (by omega : i = 0 ∨ i = 1 ∨ 2 ≤ i) with hi | hi | hi
  · obtain ⟨rfl, rfl⟩ := h.h0 hi
    cases hw with
    | old j x hx hn hf => simp at hx
    | new hf hl => unfold lookB at hl; rw [if_neg ha] at hl; simp at hl
    | no hf hl =>
      have hE : lookE 4 4 e n (0, []) = (1, [(e + n, 1)]) := by unfold lookE; rw [if_neg ha]; simp [cutk]
      refine ⟨rfl, fun _ => ⟨rfl, rfl, rfl⟩, fun q => by omega, fun q => by simp at q, by simp, by simp, hok, by simp only at hus ⊢; omega, fun q => by omega, fun _ => ?_, fun q => by omega⟩
      simp only [hE]
      refine ⟨by simp, by omega⟩
  · obtain ⟨rfl, rfl⟩ := h.h1 hi
    have hB : lookB 4 e n (1, [(e, 1)]) = true := by unfold lookB; rw [if_neg ha]; simp [young]
    have hE : lookE 4 4 e n (1, [(e, 1)]) = (2, []) := by unfold lookE; rw [if_neg ha]; simp [young, cutk]
    cases hw with
    | old j x hx hn hf => simp at hx
    | no hf hl => rw [hB] at hl; cases hl
    | new hf hl =>
      have hm := new_may (f := e) hP h0 (by simp only; omega)
      obtain ⟨f1, f2, f3, f4, f5, f6⟩ := fin ⟨1, e, e, 1, 0, 0⟩ (1 + 1) rfl rfl rfl hm
      refine ⟨rfl, fun q => by omega, fun _ => rfl, f1, f2, f3, hok, by simp only at hus ⊢; omega, fun q => by omega, fun q => by omega, fun _ => ⟨_, ?_, f4, f5, f6, ?_⟩⟩
      · simp only [begX_nil (show (1 : Int) ≤ 4 by decide), List.nil_append]; rfl
      · simp only [hE]
  · obtain ⟨x, hx, x1, x2, x3, x4⟩ := h.h2 hi
    have hf0 : fndS a s.xs = 0 := by rw [hx, ← x2]; exact fndS_one x
    cases hw with
    | new hf hl => rw [hf0] at hf; cases hf
    | no hf hl => rw [hf0] at hf; cases hf
    | old j y hy hn hf =>
      have hj : j = 0 := by rw [hf0] at hf; omega
      subst hj
      have hyx : y = x := by rw [hx] at hy; simpa using hy.symm
      subst hyx
      obtain ⟨f1, f2, f3, f4, f5, f6⟩ := fin y (s.us + 1) x2 x3 x1 (h.ok.may y (by rw [hx]; simp))
      exact ⟨rfl, fun q => by omega, fun _ => x1, f1, f2, f3, hok, by simp only at hus ⊢; omega, fun q => by omega, fun q => by omega, fun _ => ⟨_, by simp only [hx]; rfl, f4, f5, f6, x4⟩⟩
theorem RdI.en {d : Int} {i : Nat} {a e : Int} {s : TS} (h : RdI ⟨4, 4, 4, d, 256⟩ i a e s) (ha : a ≤ 256) : e ≤ 256 := by
  rcases (by omega : i = 0 ∨ i = 1 ∨ 2 ≤ i) with hi | hi | hi
  · rw [(h.h0 hi).2]; exact ha
  · rw [(h.h1 hi).2]; exact ha
  · obtain ⟨x, hx, _, _, x3, _⟩ := h.h2 hi
    have := (amayB_iff _ _ _ _ _ _).1 (h.ok.may x (by rw [hx]; simp))
    simp only at this; omega
theorem RdI.few {P : Prm} {i : Nat} {a e : Int} {s : TS} (h : RdI P i a e s) : s.E.length ≤ 1 := by
  rcases (by omega : i = 0 ∨ i = 1 ∨ 2 ≤ i) with hi | hi | hi
  · rw [(h.h0 hi).1]; simp
  · rw [(h.h1 hi).1]; simp
  · obtain ⟨x, _, _, _, _, x4⟩ := h.h2 hi; rw [x4]; simp

set_option maxRecDepth 100000 in
set_option maxHeartbeats 8000000 in
theorem sreads_walk (g f : Int) (A : Option Addr) (len cap : Nat) (wf0 : (Lit.int .u8 g).wf = true) (wf1 : (Lit.int .u8 f).wf = true) (hn : len ≤ maxLen) (w : World) (hA : IntsAt w [.u8] A len) :
    Calls Try.prog 5 #[.int .u8 g, .int .u8 f, .slice A len cap] w fun e w' => e = .returned (.bool true) ∧ Fr [] w w' := by
  obtain ⟨u0, u1⟩ := u8_bounds wf0
  obtain ⟨u2, u3⟩ := u8_bounds wf1
  obtain ⟨b0, off, F, hb, hF⟩ := hA
  have HB := Lib.hid hb
  have HF := Lib.hid hF
  have hn' : len ≤ 9223372036854775807 := by simpa [maxLen] using hn
  obtain ⟨d, hd⟩ : ∃ d : Int, d = 1 + g % 16 := ⟨_, rfl⟩
  have HD := Lib.hid hd
  have hP : (⟨4, 4, 4, d, 256⟩ : Prm).Ok := ⟨by simp only; omega, by simp only; omega, by simp only; omega, by simp only; omega, by simp only; omega⟩
  have HN := Lib.hid (fun w => snewM hP w)
  have HP := Lib.hid hP
  have heq := eq_fnd
  clear hb hF hn wf0 wf1 hd hP
  go_enter Try.func5, Try.ntmps5
  go_wp2_with fail
  with_reducible refine (sawake _).mono ?_
  rintro e w1 ⟨rfl, f1⟩
  go_wp2_with fail
  rw [← HD.out]
  with_reducible refine (HN.out _).mono ?_
  rintro e w2 ⟨⟨t, rfl, T2⟩, f2⟩
  have F2 := f1.trans f2
  have hwB : w.heap.size ≤ w1.heap.size := f1.size
  have HWB := Lib.hid hwB
  have z2 : w1.heap.size ≤ w2.heap.size := f2.size
  have T2 := Lib.hid T2
  clear f1 f2 hwB
  generalize w1.heap.size = B at *
  go_wp2_with fail
  go_loopw [9, 10, 11] (fun y x v wr => ∃ (i : Nat) (a e : Int) (s : TS), v = .int .i64 i ∧ y = .int .i64 a ∧ x = .int .i64 e ∧ i ≤ len ∧ i ≤ 60 ∧ 0 ≤ a ∧ a ≤ 256 ∧ 0 ≤ e ∧ e ≤ 10000 ∧ RdI ⟨4, 4, 4, d, 256⟩ i a e s ∧ TrkM wr B [] t ⟨4, 4, 4, d, 256⟩ s ∧ Fr [] w wr ∧ B ≤ wr.heap.size) (fun _ _ v _ => 61 - (intOf v).toNat)
  case atStart => exact ⟨0, f, f, _, rfl, rfl, rfl, by omega, by omega, by omega, by omega, by omega, by omega, ⟨SOk.new _ HP.out, by simp, fun _ => ⟨rfl, rfl⟩, fun q => by omega, fun q => by omega⟩, T2.out, F2, z2⟩
  case round =>
    obtain ⟨i, a, e, s, rfl, rfl, rfl, i1, i2, a0, a1, e0, e1, hR, hT, hFr, hz⟩ := hrel
    have HR := Lib.hid hR
    have HT := Lib.hid hT
    have hus : s.us ≤ 60 := by have := hR.us; omega
    clear hR hT T2 F2 z2
    by_cases hi : i < len ∧ i < 60
    · obtain ⟨hi1, hi2⟩ := hi
      obtain ⟨rfl, hb⟩ := HB.out (by omega)
      obtain ⟨m0, m0w⟩ := HF.out i hi1 0 _ rfl
      simp only [List.length_cons, List.length_nil, Nat.reduceAdd, Nat.add_zero, Nat.mul_one] at m0
      generalize F i 0 = c at *
      obtain ⟨v0, v1⟩ := u8_bounds m0w
      have c0 := (hFr.cell (off := off + i) hb).trans m0
      obtain ⟨n, hn⟩ : ∃ n : Int, n = 1 + c % 8 := ⟨_, rfl⟩
      have hn1 : 1 ≤ n := by omega
      have hn2 : n ≤ 8 := by omega
      have HNN := Lib.hid hn
      clear m0 m0w
      by_cases hr : a + n ≤ 256
      · obtain ⟨r1, r2, r3, r4, r5, r6, r7⟩ := HR.out.step HP.out a0 hn1 hn2 hr
        have HC := Lib.hid (saccessM HP.out a n (by omega) hz HT.out)
        generalize accR ⟨4, 4, 4, d, 256⟩ a n s = r at *
        obtain ⟨id, af, an, cd, s2⟩ := r
        simp only at r1 r2 r3 r4 r5 r6 r7 HC
        subst r1
        have R7 := Lib.hid r7
        have e7 := r7.en hr
        clear r7
        go_upto_if 52 with fail
        rw [← HNN.out]
        clear c0 v0 v1 hn
        go_wp2_with fail
        with_reducible refine HC.out.mono ?_
        rintro ex w5 ⟨rfl, T5, K5⟩
        have F5 := K5.fr hFr HWB.out
        have z5 := K5.size
        have HT5 := Lib.hid T5
        clear T5 K5
        have f6 : Fr [] w5 (w5.alloc (.cells #[.int .i64 id, .int .i64 af, .int .i64 an] 38)) := (by repeat' (first | (with_reducible exact Fr.refl _ _) | (with_reducible assumption) | (with_reducible refine Fr.drew ?_) | (with_reducible refine Fr.drewN ?_ _) | (with_reducible refine Fr.alloc ?_ _) | ((with_reducible refine Fr.setNew ?_ _ ?_ _); rotate_left; (focus (first | (with_reducible assumption) | exact Nat.le_of_lt (by with_reducible assumption) | (focus (simp +arith; done)) | exact Nat.le_trans (by with_reducible assumption) (by simp +arith; done) | (simp; done)))) | ((with_reducible refine Fr.setOld ?_ _ ?_ _); rotate_left; (focus (simp; done)))))
        have T6 := Lib.hid (HT5.out.fr0 f6)
        have Q6 : (w5.alloc (.cells #[.int .i64 id, .int .i64 af, .int .i64 an] 38)).heap[w5.heap.size]? = some (.cells #[.int .i64 id, .int .i64 af, .int .i64 an] 38) := by (apply heap_eq_of; (focus (repeat (first | (with_reducible assumption) | ((with_reducible refine heap_alloc_at ?_ _); first | (with_reducible rfl) | (focus (simp; done))) | (with_reducible apply heap_alloc_old) | ((with_reducible apply heap_set_other); (case hne => (first | (with_reducible assumption) | exact Nat.ne_of_lt (by with_reducible assumption) | exact Nat.ne_of_gt (by with_reducible assumption) | (focus (simp +arith; done)) | (simp; done)))) | (with_reducible apply heap_set_eq) | (with_reducible apply heap_drew_of) | (with_reducible apply heap_drewN_of)))); (focus (first | (simp; done) | rfl)))
        have F6 := F5.trans f6
        have z6 : B ≤ (w5.alloc (.cells #[.int .i64 id, .int .i64 af, .int .i64 an] 38)).heap.size := by simp; omega
        clear f6
        rcases Nat.eq_zero_or_pos i with h0 | h0
        · subst h0
          obtain ⟨rfl, rfl, rfl⟩ := r2 rfl
          clear r2 r3 r4 r5 r6
          have R8 : Hid (RdI ⟨4, 4, 4, d, 256⟩ (0 + 1) (a + n) (max e (a + n)) s2) := by have := R7.out; rw [Int.add_zero] at this; exact this
          go_wp2_with fail
          go_roundw
          case rel => exact ⟨0 + 1, _, _, s2, by go_num, rfl, rfl, by omega, by omega, by omega, by omega, by omega, by omega, R8.out, T6.out, F6, z6⟩
          case measure => simp [intOf]
        · obtain rfl := r3 h0
          have hi0 : ¬ ((i : Int) = 0) := by omega
          have hip : (0 : Int) < (i : Int) := by omega
          clear r2 r3
          by_cases han : 0 < an
          · obtain rfl := r4 han
            clear r4
            go_wp2_with fail
            go_roundw
            case rel => exact ⟨i + 1, _, _, s2, by go_num, rfl, rfl, by omega, by omega, by omega, by omega, by omega, by omega, R7.out, T6.out, F6, z6⟩
            case measure => simp [intOf]; omega
          · obtain rfl : an = 0 := by omega
            clear r4 r5 r6
            have R8 : Hid (RdI ⟨4, 4, 4, d, 256⟩ (i + 1) (a + n) (max e (a + n)) s2) := by have := R7.out; rw [Int.add_zero] at this; exact this
            go_wp2_with fail
            go_roundw
            case rel => exact ⟨i + 1, _, _, s2, by go_num, rfl, rfl, by omega, by omega, by omega, by omega, by omega, by omega, R8.out, T6.out, F6, z6⟩
            case measure => simp [intOf]; omega
      · have hbad : accR ⟨4, 4, 4, d, 256⟩ a n s = ⟨0, 0, 0, 1, s⟩ := by unfold accR; rw [if_pos (by unfold badA; simp only; omega)]
        have HC := Lib.hid (saccessM HP.out a n (by omega) hz HT.out)
        rw [hbad] at HC
        clear hbad
        go_upto_if 52 with fail
        rw [← HNN.out]
        clear c0 v0 v1 hn
        go_wp2_with fail
        with_reducible refine HC.out.mono ?_
        rintro ex w5 ⟨rfl, T5, K5⟩
        have F5 := K5.fr hFr HWB.out
        clear T5 K5
        go_wp2_with fail
        go_ret
        exact ⟨rfl, F5.trans (by repeat' (first | (with_reducible exact Fr.refl _ _) | (with_reducible assumption) | (with_reducible refine Fr.drew ?_) | (with_reducible refine Fr.drewN ?_ _) | (with_reducible refine Fr.alloc ?_ _) | ((with_reducible refine Fr.setNew ?_ _ ?_ _); rotate_left; (focus (first | (with_reducible assumption) | exact Nat.le_of_lt (by with_reducible assumption) | (focus (simp +arith; done)) | exact Nat.le_trans (by with_reducible assumption) (by simp +arith; done) | (simp; done)))) | ((with_reducible refine Fr.setOld ?_ _ ?_ _); rotate_left; (focus (simp; done)))))⟩
    · have hfew := HR.out.few
      have hfew' : (s.E.length : Int) ≤ 1 := by omega
      have HC := Lib.hid (sexpectedM HP.out (by omega) HT.out)
      by_cases q1 : i < len <;> by_cases q2 : i < 60
      · exact absurd ⟨q1, q2⟩ hi
      all_goals
        clear hi
        go_wp2_with fail
        with_reducible refine HC.out.mono ?_
        rintro ex w5 ⟨⟨A5, c5, rfl, O5⟩, f5⟩
        clear O5
        go_wp2_with fail
        go_ret
        exact ⟨ret_bool (by first | (simp; done) | (simp; omega)), hFr.trans f5⟩
end Go.Proofs.Ytoapobhdpgcmbaa
