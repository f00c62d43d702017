/- PoolPlays answers true at every count and script, and changes nothing that was there. -/
import Derived.Test.YtmhdnafdbgbmfaaPoolStep
import Derived.Test.YtmhdnafdbgbmfaaSlice
namespace Go.Proofs.Ytmhdnafdbgbmfaa
open Go.RowKit

theorem cnt_sum : ∀ (l : List Fm), (∀ f ∈ l, 0 ≤ f.s ∧ f.s ≤ 3) → cntS l 0 + cntS l 1 + cntS l 2 + cntS l 3 = l.length
  | [], _ => rfl
  | f :: r, h => by
    have ih := cnt_sum r (fun g hg => h g (by simp [hg]))
    obtain ⟨h1, h2⟩ := h f (by simp)
    have e : ∀ s, cntS (f :: r) s = cntS r s + if f.s = s then 1 else 0 := by
      intro s
      unfold cntS
      rw [List.countP_cons]
      by_cases hs : f.s = s <;> simp [hs]
    rw [e, e, e, e, List.length_cons]
    rcases (by omega : f.s = 0 ∨ f.s = 1 ∨ f.s = 2 ∨ f.s = 3) with q | q | q | q <;> simp [q] <;> omega

section
variable {N : Int} {bp bf rp rf : Nat} {l : List Fm} {w : World}
theorem pstep_same (k i n v : Int) (hl : Sane N l) (hN : N ≤ 999999) (hP : PoolAt pT w bp bf l) (hR : PoolAt rT w rp rf l) (hd : Apart bp bf rp rf) :
    Calls Try.prog 28 #[.pointer (some ⟨bp, 0, none⟩), .pointer (some ⟨rp, 0, none⟩), .agg #[.int .i64 k, .int .i64 i, .int .i64 n, .int .u64 v]] w fun e w' =>
      e = .returned (.bool true) ∧ PoolAt pT w' bp bf (actL l k i n v) ∧ PoolAt rT w' rp rf (actL l k i n v) ∧ Fr [bf, rf] w w' := by
  have := pstep bp bf rp rf l l k i n v N hl hl hN w hP hR hd
  rw [actB_same] at this; exact this
theorem pstepe (l2 : List Fm) (k i n v : Int) (hg : actL l k i n v = l2) (hl : Sane N l) (hN : N ≤ 999999) (hP : PoolAt pT w bp bf l) (hR : PoolAt rT w rp rf l) (hd : Apart bp bf rp rf) :
    Calls Try.prog 28 #[.pointer (some ⟨bp, 0, none⟩), .pointer (some ⟨rp, 0, none⟩), .agg #[.int .i64 k, .int .i64 i, .int .i64 n, .int .u64 v]] w fun e w' =>
      e = .returned (.bool true) ∧ PoolAt pT w' bp bf l2 ∧ PoolAt rT w' rp rf l2 ∧ Fr [bf, rf] w w' := by
  subst hg; exact pstep_same k i n v hl hN hP hR hd
theorem pcounta (c0 c1 c2 c3 : Int) (hc : cntS l 0 = c0 ∧ cntS l 1 = c1 ∧ cntS l 2 = c2 ∧ cntS l 3 = c3) (hs : Sane N l) (hP : PoolAt rT w bp bf l) :
    Calls Try.prog 30 #[.pointer (some ⟨bp, 0, none⟩)] w fun e w' => e = .returned (.agg #[.int .i64 c0, .int .i64 c1, .int .i64 c2, .int .i64 c3]) ∧ Fr [] w w' := by
  obtain ⟨rfl, rfl, rfl, rfl⟩ := hc
  exact rcount bp bf l hs.n hs.s w hP
theorem rpinsc (s : Int) (hc : sumP l = s) (hs : Sane N l) (hN : N ≤ 999999) (hP : PoolAt rT w bp bf l) :
    Calls Try.prog 32 #[.pointer (some ⟨bp, 0, none⟩)] w fun e w' => e = .returned (.int .i64 s) ∧ w = w' := by
  subst hc; exact rpins bp bf l hs.n (hs.p hN) w hP
theorem rnewc (n : Int) (k : Nat) (hk : n = k) (h2 : k ≤ 64) :
    Calls Try.prog 27 #[.int .i64 n] w fun e w' => e = .returned (.pointer (some ⟨w.heap.size + 1, 0, none⟩)) ∧ PoolAt rT w' (w.heap.size + 1) w.heap.size (List.replicate k fm0) ∧ Fr [] w w' := by
  subst hk; exact rnew k h2 w
theorem pframed (i : Int) (f : Fm) (h0 : 0 ≤ i) (hE : l[i.toNat]? = some f) (hP : PoolAt pT w bp bf l) :
    Calls Try.prog 33 #[.pointer (some ⟨bp, 0, none⟩), .int .i64 i] w fun e w' => e = .returned (.tuple #[.agg #[.int .i64 f.s, .int .i64 f.b, .int .i64 f.g, .int .i64 f.p, .int .u64 f.v], .bool true]) ∧ Fr [] w w' := by
  have := pframe_ok bp bf l i.toNat f hE w hP
  rw [Int.toNat_of_nonneg h0] at this; exact this
end

set_option maxRecDepth 100000 in
set_option maxHeartbeats 4000000 in
theorem plays_bad (n : Int) (A : Option Addr) (len cap : Nat) (h : n < 1 ∨ 64 < n) (w : World) :
    Calls Try.prog 9 #[.int .i64 n, .slice A len cap] w fun e w' => e = .returned (.bool true) ∧ Fr [] w w' := by
  have HN := Lib.hid h
  rcases h with h | h
  · go_enter Try.func9, Try.ntmps9
    go_wp2_with (first
      | (go_at_call 25; (with_reducible refine (pawake _).mono ?_); rintro e w1 ⟨rfl, f1⟩)
      | (go_at_call 26; (with_reducible refine (pnew_no n HN.out _).mono ?_); rintro e w2 ⟨rfl, rfl⟩))
    go_ret
    exact ⟨rfl, f1⟩
  · have h' : ¬ n < 1 := by omega
    go_enter Try.func9, Try.ntmps9
    go_wp2_with (first
      | (go_at_call 25; (with_reducible refine (pawake _).mono ?_); rintro e w1 ⟨rfl, f1⟩)
      | (go_at_call 26; (with_reducible refine (pnew_no n HN.out _).mono ?_); rintro e w2 ⟨rfl, rfl⟩))
    go_ret
    exact ⟨rfl, f1⟩

set_option maxRecDepth 100000 in
set_option maxHeartbeats 4000000 in
theorem plays_ok (n : Nat) (A : Option Addr) (len cap : Nat) (h1 : 1 ≤ n) (h2 : n ≤ 64) (hn : len ≤ maxLen) (w : World) (hA : IntsAt w [.i64, .i64, .i64, .u64] A len) :
    Calls Try.prog 9 #[.int .i64 n, .slice A len cap] w fun e w' => e = .returned (.bool true) ∧ Fr [] w w' := by
  have h3 : ¬ (n : Int) < 1 := by omega
  have h4 : ¬ 64 < (n : Int) := by omega
  obtain ⟨b, off, F, hb, hF⟩ := hA
  have HB := Lib.hid hb
  have HF := Lib.hid hF
  have hn' : len ≤ 9223372036854775807 := by simpa [maxLen] using hn
  have heq := eq_arr4
  have fol : Try.prog.follows .mixedOrders = true := by kernel_rfl
  clear hb hF hn
  go_enter Try.func9, Try.ntmps9
  go_wp2_with (first
    | (go_at_call 25; (with_reducible refine (pawake _).mono ?_); rintro e w1 ⟨rfl, f1⟩)
    | (go_at_call 26; (with_reducible refine (pnew_ok n h1 h2 _).mono ?_); rintro e w2 ⟨rfl, P2, f2⟩)
    | (go_at_call 27; (with_reducible refine (rnew n h2 _).mono ?_); rintro e w3 ⟨rfl, R3, f3⟩))
  have F3 : Fr [] w w3 := (f1.trans f2).trans f3
  have P3 := P2.fr f3 (by simp) (by simp)
  have B1 : w.heap.size ≤ w1.heap.size := f1.size
  have B2 : w1.heap.size + 1 < w2.heap.size := P2.lt.1
  have HD : Hid (Apart (w1.heap.size + 1) w1.heap.size (w2.heap.size + 1) w2.heap.size) := ⟨by omega, by omega, by omega⟩
  generalize hbp : w1.heap.size + 1 = bp at *
  generalize hbf : w1.heap.size = bf at *
  generalize hrp : w2.heap.size + 1 = rp at *
  generalize hrf : w2.heap.size = rf at *
  have B3 : Hid (w.heap.size ≤ bf ∧ w.heap.size ≤ rf) := ⟨by omega, by omega⟩
  clear B1 B2 hbp hbf hrp hrf f1 f2 f3 P2
  go_loopw [8] (fun v w' => ∃ (i : Nat) (l : List Fm), v = .int .i64 i ∧ i ≤ len ∧ i ≤ 100 ∧ l.length = n ∧ Sane i l ∧ PoolAt pT w' bp bf l ∧ PoolAt rT w' rp rf l ∧ Fr [] w w') (fun v _ => 101 - (intOf v).toNat)
  case atStart => exact ⟨0, List.replicate n fm0, rfl, by omega, by omega, by simp, ⟨by simpa using h2, fun f hf => by rw [(List.mem_replicate.1 hf).2]; exact fm0_ok (by simp)⟩, P3, R3, F3⟩
  case round =>
    clear P3 R3 F3
    obtain ⟨i, l, rfl, i1, i2, hl, hs, P3, R3, F3⟩ := hrel
    by_cases hi : i < len ∧ i < 100
    · obtain ⟨hi1, hi2⟩ := hi
      obtain ⟨rfl, hb⟩ := HB.out (by omega)
      obtain ⟨m0, m0w⟩ := HF.out i hi1 0 _ rfl
      obtain ⟨m1, m1w⟩ := HF.out i hi1 1 _ rfl
      obtain ⟨m2, m2w⟩ := HF.out i hi1 2 _ rfl
      obtain ⟨m3, m3w⟩ := HF.out i hi1 3 _ rfl
      simp only [List.length_cons, List.length_nil, Nat.reduceAdd, Nat.add_zero] at m0 m1 m2 m3
      generalize F i 0 = y0 at *
      generalize F i 1 = y1 at *
      generalize F i 2 = y2 at *
      generalize F i 3 = y3 at *
      clear m0w m1w m2w m3w
      have c0 := (F3.cell (off := off + i * 4) hb).trans m0
      have c1 := (F3.cell (off := off + i * 4 + 1) hb).trans m1
      have c2 := (F3.cell (off := off + i * 4 + 2) hb).trans m2
      have c3 := (F3.cell (off := off + i * 4 + 3) hb).trans m3
      have HS := Lib.hid hs
      have HS2 := Lib.hid (actL_sane hs (by omega) y0 y1 y2 y3)
      have HL2 := Lib.hid ((actL_len (l := l) y0 y1 y2 y3).trans hl)
      generalize hg : actL l y0 y1 y2 y3 = l2 at *
      have HG := Lib.hid hg
      have HP3 := Lib.hid P3
      have HR3 := Lib.hid R3
      clear m0 m1 m2 m3 hs hg P3 R3
      go_wp2_with (first
        | (go_at_call 28; (with_reducible refine (pstepe l2 y0 y1 y2 y3 HG.out HS.out (by omega) HP3.out HR3.out HD.out).mono ?_); rintro e w4 ⟨rfl, P4, R4, f4⟩; have F4 : Fr [] w w4 := Fr.trans' F3 f4 (by have := B3.out; simp; omega); clear f4 F3)
        | (go_at_call 29; (with_reducible refine (pcountc _ _ _ _ ⟨rfl, rfl, rfl, rfl⟩ HS2.out P4).mono ?_); rintro e w5 ⟨rfl, f5⟩; have F5 := F4.trans f5; have P5 := P4.fr f5 (by simp) (by simp); have R5 := R4.fr f5 (by simp) (by simp); clear P4 R4 F4 f5)
        | (go_at_call 30; (with_reducible refine (pcounta _ _ _ _ ⟨rfl, rfl, rfl, rfl⟩ HS2.out R5).mono ?_); rintro e w6 ⟨rfl, f6⟩; have F6 := F5.trans f6; have P6 := P5.fr f6 (by simp) (by simp); have R6 := R5.fr f6 (by simp) (by simp); clear P5 R5 F5 f6)
        | (go_at_call 31; (with_reducible refine (ppinsc _ rfl HS2.out (by omega) P6).mono ?_); rintro e w7 ⟨rfl, f7⟩; have F7 := F6.trans f7; have P7 := P6.fr f7 (by simp) (by simp); have R7 := R6.fr f7 (by simp) (by simp); clear P6 R6 F6 f7)
        | (go_at_call 32; (with_reducible refine (rpinsc _ rfl HS2.out (by omega) R7).mono ?_); rintro e w8 ⟨rfl, rfl⟩))
      have HL3 : Hid (l2.length = n) := HL2.out
      have nl : l2.length = n := HL2.out
      go_loopw [9] (fun v w' => ∃ k : Int, v = .int .i64 k ∧ -1 ≤ k ∧ k ≤ n + 1 ∧ PoolAt pT w' bp bf l2 ∧ PoolAt rT w' rp rf l2 ∧ Fr [] w w') (fun v _ => (n + 2 - intOf v).toNat)
      case atStart => exact ⟨-1, rfl, by omega, by omega, P7, R7, F7⟩
      case round =>
        clear P7 R7 F7 HP3 HR3 HG HS
        obtain ⟨k, rfl, k1, k2, P9, R9, F9⟩ := hrel
        have HP9 := Lib.hid P9
        have HR9 := Lib.hid R9
        clear P9 R9
        rcases (by omega : k = -1 ∨ k = n ∨ k = n + 1 ∨ (0 ≤ k ∧ k < n)) with q | q | q | q
        · subst q
          have HO : Hid ((-1 : Int) < 0 ∨ (l2.length : Int) ≤ -1) := by unfold Hid; omega
          clear nl
          go_wp2_with (go_at_call 33; (with_reducible refine (pframe_no bp bf l2 _ HO.out _ HP9.out).mono ?_); rintro e w10 ⟨rfl, f10⟩; have F10 := F9.trans f10; have P10 := HP9.out.fr f10 (by simp) (by simp); have R10 := HR9.out.fr f10 (by simp) (by simp); clear F9 f10)
          refine wp_name (fun w11 f11 => ?_)
          apply f11.use (k := w10.heap.size); (focus (repeat (first | (with_reducible assumption) | ((with_reducible refine heap_alloc_at ?_ _); first | (with_reducible rfl) | (focus (simp; done))) | (with_reducible apply heap_alloc_old) | ((with_reducible apply heap_set_other); (case hne => (first | (with_reducible assumption) | exact Nat.ne_of_lt (by with_reducible assumption) | exact Nat.ne_of_gt (by with_reducible assumption) | (focus (simp +arith; done)) | (simp; done)))) | (with_reducible apply heap_set_eq) | (with_reducible apply heap_drew_of) | (with_reducible apply heap_drewN_of)))); (focus (first | (simp; done) | (simp; assumption))); intro hg11 hc11 hz11 _ _ _ _ _; (try simp only [List.setIfInBounds_toArray, List.set_cons_zero, List.set_cons_succ] at hg11 hc11)
          have F11 : Fr [] w w11 := Fr.trans (by repeat' (first | (with_reducible exact Fr.refl _ _) | (with_reducible assumption) | (with_reducible refine Fr.drew ?_) | (with_reducible refine Fr.drewN ?_ _) | (with_reducible refine Fr.alloc ?_ _) | ((with_reducible refine Fr.setNew ?_ _ ?_ _); rotate_left; (focus (first | (with_reducible assumption) | exact Nat.le_of_lt (by with_reducible assumption) | (focus (simp +arith; done)) | exact Nat.le_trans (by with_reducible assumption) (by simp +arith; done) | (simp; done)))) | ((with_reducible refine Fr.setOld ?_ _ ?_ _); rotate_left; (focus (simp; done))))) f11
          have P11 : PoolAt pT w11 bp bf l2 := (P10.fr (S := []) (by repeat' (first | (with_reducible exact Fr.refl _ _) | (with_reducible assumption) | (with_reducible refine Fr.drew ?_) | (with_reducible refine Fr.drewN ?_ _) | (with_reducible refine Fr.alloc ?_ _) | ((with_reducible refine Fr.setNew ?_ _ ?_ _); rotate_left; (focus (first | (with_reducible assumption) | exact Nat.le_of_lt (by with_reducible assumption) | (focus (simp +arith; done)) | exact Nat.le_trans (by with_reducible assumption) (by simp +arith; done) | (simp; done)))) | ((with_reducible refine Fr.setOld ?_ _ ?_ _); rotate_left; (focus (simp; done))))) (by simp) (by simp)).fr f11 (by simp) (by simp)
          have R11 : PoolAt rT w11 rp rf l2 := (R10.fr (S := []) (by repeat' (first | (with_reducible exact Fr.refl _ _) | (with_reducible assumption) | (with_reducible refine Fr.drew ?_) | (with_reducible refine Fr.drewN ?_ _) | (with_reducible refine Fr.alloc ?_ _) | ((with_reducible refine Fr.setNew ?_ _ ?_ _); rotate_left; (focus (first | (with_reducible assumption) | exact Nat.le_of_lt (by with_reducible assumption) | (focus (simp +arith; done)) | exact Nat.le_trans (by with_reducible assumption) (by simp +arith; done) | (simp; done)))) | ((with_reducible refine Fr.setOld ?_ _ ?_ _); rotate_left; (focus (simp; done))))) (by simp) (by simp)).fr f11 (by simp) (by simp)
          refine wp_region_seq_lit (fun w' => w'.heap[w10.heap.size]? = some (.cells #[.int .i64 0, .int .i64 0, .int .i64 0, .int .i64 0, .int .u64 0] 59) ∧ PoolAt pT w' bp bf l2 ∧ PoolAt rT w' rp rf l2 ∧ Fr [] w w') fol (by kernel_rfl)
            ⟨hg11, P11.fr (S := []) (Fr.drew (Fr.refl _ _)) (by simp) (by simp), R11.fr (S := []) (Fr.drew (Fr.refl _ _)) (by simp) (by simp), F11.drew⟩ ?_
          clear hg11 hc11 hz11 F11 P11 R11 f11 F10 P10 R10
          (repeat (apply SeqS.cons; (focus (intro wv hSv; obtain ⟨s1, s2, s3, s4⟩ := hSv; apply blk_use s1; intro hg21 hc21 hz21 _ _ _ _ _; go_wp2_with (fail); exact StepPost.mk rfl ⟨s1, s2, s3, s4⟩)); (try simp only [Act.put, List.setIfInBounds_toArray, List.set_cons_zero, List.set_cons_succ])))
          refine SeqS.nil ?_
          intro w12 hS12
          obtain ⟨s1, P12, R12, F12⟩ := hS12
          clear s1
          go_wp2
          go_roundw
          case rel => exact ⟨0, by go_num, by omega, by omega, P12, R12, F12⟩
          case measure => simp [intOf]; omega
        · subst q
          have HO : Hid ((n : Int) < 0 ∨ (l2.length : Int) ≤ n) := by unfold Hid; omega
          clear nl
          go_wp2_with (go_at_call 33; (with_reducible refine (pframe_no bp bf l2 _ HO.out _ HP9.out).mono ?_); rintro e w10 ⟨rfl, f10⟩; have F10 := F9.trans f10; have P10 := HP9.out.fr f10 (by simp) (by simp); have R10 := HR9.out.fr f10 (by simp) (by simp); clear F9 f10)
          refine wp_name (fun w11 f11 => ?_)
          apply f11.use (k := w10.heap.size); (focus (repeat (first | (with_reducible assumption) | ((with_reducible refine heap_alloc_at ?_ _); first | (with_reducible rfl) | (focus (simp; done))) | (with_reducible apply heap_alloc_old) | ((with_reducible apply heap_set_other); (case hne => (first | (with_reducible assumption) | exact Nat.ne_of_lt (by with_reducible assumption) | exact Nat.ne_of_gt (by with_reducible assumption) | (focus (simp +arith; done)) | (simp; done)))) | (with_reducible apply heap_set_eq) | (with_reducible apply heap_drew_of) | (with_reducible apply heap_drewN_of)))); (focus (first | (simp; done) | (simp; assumption))); intro hg11 hc11 hz11 _ _ _ _ _; (try simp only [List.setIfInBounds_toArray, List.set_cons_zero, List.set_cons_succ] at hg11 hc11)
          have F11 : Fr [] w w11 := Fr.trans (by repeat' (first | (with_reducible exact Fr.refl _ _) | (with_reducible assumption) | (with_reducible refine Fr.drew ?_) | (with_reducible refine Fr.drewN ?_ _) | (with_reducible refine Fr.alloc ?_ _) | ((with_reducible refine Fr.setNew ?_ _ ?_ _); rotate_left; (focus (first | (with_reducible assumption) | exact Nat.le_of_lt (by with_reducible assumption) | (focus (simp +arith; done)) | exact Nat.le_trans (by with_reducible assumption) (by simp +arith; done) | (simp; done)))) | ((with_reducible refine Fr.setOld ?_ _ ?_ _); rotate_left; (focus (simp; done))))) f11
          have P11 : PoolAt pT w11 bp bf l2 := (P10.fr (S := []) (by repeat' (first | (with_reducible exact Fr.refl _ _) | (with_reducible assumption) | (with_reducible refine Fr.drew ?_) | (with_reducible refine Fr.drewN ?_ _) | (with_reducible refine Fr.alloc ?_ _) | ((with_reducible refine Fr.setNew ?_ _ ?_ _); rotate_left; (focus (first | (with_reducible assumption) | exact Nat.le_of_lt (by with_reducible assumption) | (focus (simp +arith; done)) | exact Nat.le_trans (by with_reducible assumption) (by simp +arith; done) | (simp; done)))) | ((with_reducible refine Fr.setOld ?_ _ ?_ _); rotate_left; (focus (simp; done))))) (by simp) (by simp)).fr f11 (by simp) (by simp)
          have R11 : PoolAt rT w11 rp rf l2 := (R10.fr (S := []) (by repeat' (first | (with_reducible exact Fr.refl _ _) | (with_reducible assumption) | (with_reducible refine Fr.drew ?_) | (with_reducible refine Fr.drewN ?_ _) | (with_reducible refine Fr.alloc ?_ _) | ((with_reducible refine Fr.setNew ?_ _ ?_ _); rotate_left; (focus (first | (with_reducible assumption) | exact Nat.le_of_lt (by with_reducible assumption) | (focus (simp +arith; done)) | exact Nat.le_trans (by with_reducible assumption) (by simp +arith; done) | (simp; done)))) | ((with_reducible refine Fr.setOld ?_ _ ?_ _); rotate_left; (focus (simp; done))))) (by simp) (by simp)).fr f11 (by simp) (by simp)
          refine wp_region_seq_lit (fun w' => w'.heap[w10.heap.size]? = some (.cells #[.int .i64 0, .int .i64 0, .int .i64 0, .int .i64 0, .int .u64 0] 59) ∧ PoolAt pT w' bp bf l2 ∧ PoolAt rT w' rp rf l2 ∧ Fr [] w w') fol (by kernel_rfl)
            ⟨hg11, P11.fr (S := []) (Fr.drew (Fr.refl _ _)) (by simp) (by simp), R11.fr (S := []) (Fr.drew (Fr.refl _ _)) (by simp) (by simp), F11.drew⟩ ?_
          clear hg11 hc11 hz11 F11 P11 R11 f11 F10 P10 R10
          (repeat (apply SeqS.cons; (focus (intro wv hSv; obtain ⟨s1, s2, s3, s4⟩ := hSv; apply blk_use s1; intro hg21 hc21 hz21 _ _ _ _ _; go_wp2_with (fail); exact StepPost.mk rfl ⟨s1, s2, s3, s4⟩)); (try simp only [Act.put, List.setIfInBounds_toArray, List.set_cons_zero, List.set_cons_succ])))
          refine SeqS.nil ?_
          intro w12 hS12
          obtain ⟨s1, P12, R12, F12⟩ := hS12
          clear s1
          go_wp2
          go_roundw
          case rel => exact ⟨n + 1, by go_num, by omega, by omega, P12, R12, F12⟩
          case measure => simp [intOf]; omega
        · subst q
          clear nl
          have P9 := HP9.out
          have R9 := HR9.out
          have hsum : (wrap64 (wrap64 (wrap64 (cntS l2 0 + cntS l2 1) + cntS l2 2) + cntS l2 3) != ↑n) = false := by
            have e := cnt_sum l2 HS2.out.s
            rw [HL3.out] at e
            have e0 := cntS_le l2 0
            have e1 := cntS_le l2 1
            have e2 := cntS_le l2 2
            have e3 := cntS_le l2 3
            have w0 : ∀ x : Int, 0 ≤ x → x ≤ 1000 → wrap64 x = x := by intro x h1 h2; unfold wrap64; omega
            rw [HL3.out] at e0 e1 e2 e3
            rw [w0 (cntS l2 0 + cntS l2 1) (by omega) (by omega), w0 (cntS l2 0 + cntS l2 1 + cntS l2 2) (by omega) (by omega), w0 (cntS l2 0 + cntS l2 1 + cntS l2 2 + cntS l2 3) (by omega) (by omega)]
            simp; omega
          go_wp2_with (go_at_call 29; (with_reducible refine (pcountc _ _ _ _ ⟨rfl, rfl, rfl, rfl⟩ HS2.out P9).mono ?_); rintro e w10 ⟨rfl, f10⟩; have F10 := F9.trans f10; have P10 := P9.fr f10 (by simp) (by simp); have R10 := R9.fr f10 (by simp) (by simp); clear P9 R9 F9 f10)
          go_roundw
          case rel => exact ⟨i + 1, l2, by go_num, by omega, by omega, HL3.out, by simpa using HS2.out, P10.fr (S := []) (by repeat' (first | (with_reducible exact Fr.refl _ _) | (with_reducible assumption) | (with_reducible refine Fr.drew ?_) | (with_reducible refine Fr.drewN ?_ _) | (with_reducible refine Fr.alloc ?_ _) | ((with_reducible refine Fr.setNew ?_ _ ?_ _); rotate_left; (focus (first | (with_reducible assumption) | exact Nat.le_of_lt (by with_reducible assumption) | (focus (simp +arith; done)) | exact Nat.le_trans (by with_reducible assumption) (by simp +arith; done) | (simp; done)))) | ((with_reducible refine Fr.setOld ?_ _ ?_ _); rotate_left; (focus (simp; done))))) (by simp) (by simp), R10.fr (S := []) (by repeat' (first | (with_reducible exact Fr.refl _ _) | (with_reducible assumption) | (with_reducible refine Fr.drew ?_) | (with_reducible refine Fr.drewN ?_ _) | (with_reducible refine Fr.alloc ?_ _) | ((with_reducible refine Fr.setNew ?_ _ ?_ _); rotate_left; (focus (first | (with_reducible assumption) | exact Nat.le_of_lt (by with_reducible assumption) | (focus (simp +arith; done)) | exact Nat.le_trans (by with_reducible assumption) (by simp +arith; done) | (simp; done)))) | ((with_reducible refine Fr.setOld ?_ _ ?_ _); rotate_left; (focus (simp; done))))) (by simp) (by simp), (by repeat' (first | (with_reducible exact Fr.refl _ _) | (with_reducible assumption) | (with_reducible refine Fr.drew ?_) | (with_reducible refine Fr.drewN ?_ _) | (with_reducible refine Fr.alloc ?_ _) | ((with_reducible refine Fr.setNew ?_ _ ?_ _); rotate_left; (focus (first | (with_reducible assumption) | exact Nat.le_of_lt (by with_reducible assumption) | (focus (simp +arith; done)) | exact Nat.le_trans (by with_reducible assumption) (by simp +arith; done) | (simp; done)))) | ((with_reducible refine Fr.setOld ?_ _ ?_ _); rotate_left; (focus (simp; done)))))⟩
          case measure => simp [intOf]; omega
        · obtain ⟨q1, q2⟩ := q
          obtain ⟨kk, rfl⟩ := Int.eq_ofNat_of_zero_le q1
          have hkk : kk < l2.length := by omega
          obtain ⟨f, hi⟩ : ∃ f, l2[kk]? = some f := ⟨l2[kk], by simp [hkk]⟩
          have HI := Lib.hid hi
          have hr : kk < l2.length := hkk
          clear nl
          go_wp2_with (go_at_call 33; (with_reducible refine (pframe_ok bp bf l2 kk f HI.out _ HP9.out).mono ?_); rintro e w10 ⟨rfl, f10⟩; have F10 := F9.trans f10; have P10 := HP9.out.fr f10 (by simp) (by simp); have R10 := HR9.out.fr f10 (by simp) (by simp); clear F9 f10)
          refine wp_name (fun w11 f11 => ?_)
          apply f11.use (k := w10.heap.size); (focus (repeat (first | (with_reducible assumption) | ((with_reducible refine heap_alloc_at ?_ _); first | (with_reducible rfl) | (focus (simp; done))) | (with_reducible apply heap_alloc_old) | ((with_reducible apply heap_set_other); (case hne => (first | (with_reducible assumption) | exact Nat.ne_of_lt (by with_reducible assumption) | exact Nat.ne_of_gt (by with_reducible assumption) | (focus (simp +arith; done)) | (simp; done)))) | (with_reducible apply heap_set_eq) | (with_reducible apply heap_drew_of) | (with_reducible apply heap_drewN_of)))); (focus (first | (simp; done) | (simp; assumption))); intro hg11 hc11 hz11 _ _ _ _ _; (try simp only [List.setIfInBounds_toArray, List.set_cons_zero, List.set_cons_succ] at hg11 hc11)
          have F11 : Fr [] w w11 := Fr.trans (by repeat' (first | (with_reducible exact Fr.refl _ _) | (with_reducible assumption) | (with_reducible refine Fr.drew ?_) | (with_reducible refine Fr.drewN ?_ _) | (with_reducible refine Fr.alloc ?_ _) | ((with_reducible refine Fr.setNew ?_ _ ?_ _); rotate_left; (focus (first | (with_reducible assumption) | exact Nat.le_of_lt (by with_reducible assumption) | (focus (simp +arith; done)) | exact Nat.le_trans (by with_reducible assumption) (by simp +arith; done) | (simp; done)))) | ((with_reducible refine Fr.setOld ?_ _ ?_ _); rotate_left; (focus (simp; done))))) f11
          have P11 : PoolAt pT w11 bp bf l2 := (P10.fr (S := []) (by repeat' (first | (with_reducible exact Fr.refl _ _) | (with_reducible assumption) | (with_reducible refine Fr.drew ?_) | (with_reducible refine Fr.drewN ?_ _) | (with_reducible refine Fr.alloc ?_ _) | ((with_reducible refine Fr.setNew ?_ _ ?_ _); rotate_left; (focus (first | (with_reducible assumption) | exact Nat.le_of_lt (by with_reducible assumption) | (focus (simp +arith; done)) | exact Nat.le_trans (by with_reducible assumption) (by simp +arith; done) | (simp; done)))) | ((with_reducible refine Fr.setOld ?_ _ ?_ _); rotate_left; (focus (simp; done))))) (by simp) (by simp)).fr f11 (by simp) (by simp)
          have R11 : PoolAt rT w11 rp rf l2 := (R10.fr (S := []) (by repeat' (first | (with_reducible exact Fr.refl _ _) | (with_reducible assumption) | (with_reducible refine Fr.drew ?_) | (with_reducible refine Fr.drewN ?_ _) | (with_reducible refine Fr.alloc ?_ _) | ((with_reducible refine Fr.setNew ?_ _ ?_ _); rotate_left; (focus (first | (with_reducible assumption) | exact Nat.le_of_lt (by with_reducible assumption) | (focus (simp +arith; done)) | exact Nat.le_trans (by with_reducible assumption) (by simp +arith; done) | (simp; done)))) | ((with_reducible refine Fr.setOld ?_ _ ?_ _); rotate_left; (focus (simp; done))))) (by simp) (by simp)).fr f11 (by simp) (by simp)
          refine wp_region_seq_lit (fun w' => w'.heap[w10.heap.size]? = some (.cells #[.int .i64 f.s, .int .i64 f.b, .int .i64 f.g, .int .i64 f.p, .int .u64 f.v] 59) ∧ PoolAt pT w' bp bf l2 ∧ PoolAt rT w' rp rf l2 ∧ Fr [] w w') fol (by kernel_rfl)
            ⟨hg11, P11.fr (S := []) (Fr.drew (Fr.refl _ _)) (by simp) (by simp), R11.fr (S := []) (Fr.drew (Fr.refl _ _)) (by simp) (by simp), F11.drew⟩ ?_
          clear hg11 hc11 hz11 F11 P11 R11 f11 F10 P10 R10
          (repeat (apply SeqS.cons; (focus (intro wv hSv; obtain ⟨s1, s2, s3, s4⟩ := hSv; apply blk_use s1; intro hg21 hc21 hz21 _ _ _ _ _; apply blk_use s3.hp; intro hg22 hc22 hz22 _ _ _ _ _; have c0 := (s3).cell hi 0 (by omega); have c1 := (s3).cell hi 1 (by omega); have c2 := (s3).cell hi 2 (by omega); have c3 := (s3).cell hi 3 (by omega); have c4 := (s3).cell hi 4 (by omega); simp [Fm.cells] at c0 c1 c2 c3 c4; go_wp2_with (fail); exact StepPost.mk rfl ⟨s1, s2, s3, s4⟩)); (try simp only [Act.put, List.setIfInBounds_toArray, List.set_cons_zero, List.set_cons_succ])))
          refine SeqS.nil ?_
          intro w12 hS12
          obtain ⟨s1, P12, R12, F12⟩ := hS12
          clear s1
          go_wp2
          go_roundw
          case rel => exact ⟨(kk : Int) + 1, by go_num, by omega, by omega, P12, R12, F12⟩
          case measure => simp [intOf]; omega
    · have hfalse : (decide (i < len) && decide (i < 100)) = false := by
        by_cases q1 : i < len
        · have : ¬ i < 100 := fun q2 => hi ⟨q1, q2⟩
          simp [this]
        · simp [q1]
      clear hi
      by_cases q1 : i < len <;> by_cases q2 : i < 100
      · simp [q1, q2] at hfalse
      all_goals
        clear hfalse
        go_wp2
        go_ret
        exact ⟨rfl, F3⟩

theorem plays_walk (n : Int) (A : Option Addr) (len cap : Nat) (_ : (Lit.int .i64 n).wf = true) (hn : len ≤ maxLen) (w : World) (hA : IntsAt w [.i64, .i64, .i64, .u64] A len) :
    Calls Try.prog 9 #[.int .i64 n, .slice A len cap] w fun e w' => e = .returned (.bool true) ∧ Fr [] w w' := by
  by_cases h : n < 1 ∨ 64 < n
  · exact plays_bad n A len cap h w
  · obtain ⟨k, rfl⟩ := Int.eq_ofNat_of_zero_le (by omega : 0 ≤ n)
    exact plays_ok k A len cap (by omega) (by omega) hn w hA

end Go.Proofs.Ytmhdnafdbgbmfaa
