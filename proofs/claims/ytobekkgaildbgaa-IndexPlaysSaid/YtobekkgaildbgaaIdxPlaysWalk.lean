/- IndexPlays answers true at every count of places and script, and changes nothing that was there. -/
import Derived.Test.YtobekkgaildbgaaIdxRef5
namespace Go.Proofs.Ytobekkgaildbgaa
open Go.RowKit

/-- A loop's round: one step done. -/
structure PlI (N : Nat) (w w' : World) (x b r bi bk bn : Nat) : Prop where
  ex : ∃ (T : Tb) (c : Int), IOk N T c ∧ IdxAt w' x b N T c ∧ ∃ K V, RIx w' r bi bk bn N T K V ∧ Agr N T K V
  fr : Fr [] w w'
theorem get_key0 {N : Nat} {T : Tb} {c : Int} (hk : IOk N T c) (key : Int) : (if (getL N T key).2 = true then (getL N T key).1 else 0) = (getL N T key).1 := by
  by_cases h : (getL N T key).2 = true
  · rw [if_pos h]
  · rw [if_neg h]
    unfold getL at h ⊢
    by_cases hr : rightK key = false
    · rw [if_pos hr]
    · rw [if_neg hr] at h ⊢
      simp only [decide_eq_true_eq] at h
      have w := hk.ok.wf _ (hk.found (key + 1)).lt
      rw [w.2.2 (by omega)]

/-- Two operations turn the world, each a part of its own; whatever their order. -/
structure TwS (k1 k2 : Nat) (S : List Nat) (w0 : World) (A1 B1 A2 B2 : World → Prop) (b : Nat → Bool) (V : Nat → Value) (w : World) : Prop where
  fr : Fr S w0 w
  a1 : b k1 = false → A1 w
  b1 : b k1 = true → B1 w
  a2 : b k2 = false → A2 w
  b2 : b k2 = true → B2 w
/-- What stays where nothing old is touched but S. -/
def Stab (S : List Nat) (A : World → Prop) : Prop := ∀ w w', Fr S w w' → A w → A w'
section
variable {k1 k2 : Nat} {S : List Nat} {w0 : World} {A1 B1 A2 B2 : World → Prop} {b : Nat → Bool} {V : Nat → Value} {w w' : World}
theorem TwS.start (h1 : A1 w0.drew) (h2 : A2 w0.drew) : TwS k1 k2 S w0 A1 B1 A2 B2 (fun _ => false) V w0.drew := ⟨(Fr.refl _ _).drew, fun _ => h1, by simp, fun _ => h2, by simp⟩
theorem TwS.plain (h : TwS k1 k2 S w0 A1 B1 A2 B2 b V w) {k : Nat} (hk : k1 ≠ k ∧ k2 ≠ k) (f : Fr [] w w') (s1 : Stab [] A1) (s2 : Stab [] B1) (s3 : Stab [] A2) (s4 : Stab [] B2) : TwS k1 k2 S w0 A1 B1 A2 B2 (updD b k) V w' :=
  ⟨h.fr.trans (f.mono (by simp)), fun q => s1 _ _ f (h.a1 (by rwa [dD_ne hk.1] at q)), fun q => s2 _ _ f (h.b1 (by rwa [dD_ne hk.1] at q)), fun q => s3 _ _ f (h.a2 (by rwa [dD_ne hk.2] at q)), fun q => s4 _ _ f (h.b2 (by rwa [dD_ne hk.2] at q))⟩
theorem TwS.one (h : TwS k1 k2 S w0 A1 B1 A2 B2 b V w) (hk : k1 ≠ k2) {S1 : List Nat} (f : Fr S1 w w') (hS : ∀ x ∈ S1, x ∈ S) (s3 : Stab S1 A2) (s4 : Stab S1 B2) (hB : B1 w') : TwS k1 k2 S w0 A1 B1 A2 B2 (updD b k1) V w' :=
  ⟨h.fr.trans' f (fun x hx => Or.inl (hS x hx)), fun q => (by rw [dD_eq] at q; cases q), fun _ => hB, fun q => s3 _ _ f (h.a2 (by rwa [dD_ne (Ne.symm hk)] at q)), fun q => s4 _ _ f (h.b2 (by rwa [dD_ne (Ne.symm hk)] at q))⟩
theorem TwS.two (h : TwS k1 k2 S w0 A1 B1 A2 B2 b V w) (hk : k1 ≠ k2) {S1 : List Nat} (f : Fr S1 w w') (hS : ∀ x ∈ S1, x ∈ S) (s3 : Stab S1 A1) (s4 : Stab S1 B1) (hB : B2 w') : TwS k1 k2 S w0 A1 B1 A2 B2 (updD b k2) V w' :=
  ⟨h.fr.trans' f (fun x hx => Or.inl (hS x hx)), fun q => s3 _ _ f (h.a1 (by rwa [dD_ne hk] at q)), fun q => s4 _ _ f (h.b1 (by rwa [dD_ne hk] at q)), fun q => (by rw [dD_eq] at q; cases q), fun _ => hB⟩
end
def ReA (r bi bk bn N : Nat) (T : Tb) (w : World) : Prop := ∃ K V, RIx w r bi bk bn N T K V ∧ Agr N T K V
theorem ReA.stab {S : List Nat} {r bi bk bn N : Nat} {T : Tb} (h1 : r ∉ S) (h2 : bi ∉ S) (h3 : bk ∉ S) (h4 : bn ∉ S) : Stab S (ReA r bi bk bn N T) := fun _ _ f ⟨K, V, h, a⟩ => ⟨K, V, h.fr f h1 h2 h3 h4, a⟩
theorem idx_stab {S : List Nat} {x b N : Nat} {T : Tb} {c : Int} (h1 : x ∉ S) (h2 : b ∉ S) : Stab S (fun w => IdxAt w x b N T c) := fun _ _ f h => h.fr f h1 h2

set_option maxRecDepth 100000 in
set_option maxHeartbeats 8000000 in
theorem iplays_walk (p : Int) (A : Option Addr) (len cap : Nat) (wf0 : (Lit.int .i64 p).wf = true) (hn : len ≤ maxLen) (w : World) (hA : IntsAt w [.i64, .i64, .i64] A len) :
    Calls Try.prog 3 #[.int .i64 p, .slice A len cap] w fun e w' => e = .returned (.bool true) ∧ Fr [] w w' := by
  have fol : Try.prog.follows .mixedOrders = true := by kernel_rfl
  obtain ⟨b0, off, F, hb, hF⟩ := hA
  have HB := Lib.hid hb
  have HF := Lib.hid hF
  have hn' : len ≤ 9223372036854775807 := by simpa [maxLen] using hn
  clear hb hF hn wf0
  by_cases hm : mayB p = false
  · have HM := Lib.hid (fun w => rx_may p w)
    rw [hm] at HM
    have HN := Lib.hid (fun w => idx_new_no p hm w)
    clear hm
    go_enter Try.func3, Try.ntmps3
    go_wp2_with fail
    with_reducible refine (iawake _).mono ?_
    rintro e w1 ⟨rfl, f1⟩
    go_wp2_with fail
    with_reducible refine (HN.out _).mono ?_
    rintro e w2 ⟨rfl, rfl⟩
    go_wp2_with fail
    with_reducible refine (HM.out _).mono ?_
    rintro e w2 ⟨rfl, rfl⟩
    go_wp2_with fail
    go_ret
    exact ⟨rfl, f1⟩
  · have hm' : mayB p = true := by simpa using hm
    have HM := Lib.hid (fun w => rx_may p w)
    rw [hm'] at HM
    obtain ⟨k, k1, k8, rfl⟩ := mayB_pow hm'
    have K2 : IOk (2 ^ k) (List.replicate (2 ^ k) (0, 0)) 0 := IOk.new k1 k8
    have hp2 : 2 ≤ 2 ^ k ∧ 2 ^ k ≤ 256 := ⟨by have := K2.ok.pos; exact this, K2.le⟩
    have HN := Lib.hid (fun w => idx_new k k1 k8 ((2 ^ k : Nat) : Int) rfl w)
    have HRN := Lib.hid (fun w => rx_new (2 ^ k) (by omega) hp2.2 ((2 ^ k : Nat) : Int) rfl w)
    have A2 := agr_new (2 ^ k)
    clear hm hm'
    generalize List.replicate (2 ^ k) ((0 : Int), (0 : Int)) = T0 at *
    generalize 2 ^ k = N at *
    obtain ⟨hN2, hN8⟩ := hp2
    go_enter Try.func3, Try.ntmps3
    go_wp2_with fail
    with_reducible refine (iawake _).mono ?_
    rintro e w1 ⟨rfl, f1⟩
    go_wp2_with fail
    with_reducible refine (HN.out _).mono ?_
    rintro e w2 ⟨rfl, I2, f2⟩
    have F2 := f1.trans f2
    have h1 := f1.size
    have h2 := f2.size
    obtain ⟨x, hx⟩ : ∃ x, x = w1.heap.size + 1 := ⟨_, rfl⟩
    obtain ⟨b, hb⟩ : ∃ b, b = w1.heap.size := ⟨_, rfl⟩
    rw [← hx, ← hb] at I2
    rw [← hx]
    have lt2 := I2.lt
    have hxw : w.heap.size ≤ x ∧ w.heap.size ≤ b := ⟨by omega, by omega⟩
    clear hx hb
    go_wp2_with fail
    with_reducible refine (HM.out _).mono ?_
    rintro e w2' ⟨rfl, rfl⟩
    go_wp2_with fail
    with_reducible refine (HRN.out _).mono ?_
    rintro e w3 ⟨⟨r, bi, bk, bn, rfl, R3, g1, g2, g3, g4⟩, f3⟩
    have I3 := I2.fr f3 (by simp) (by simp)
    have F3 := F2.trans f3
    have hd : Hid (w.heap.size ≤ x ∧ w.heap.size ≤ b ∧ w.heap.size ≤ r ∧ w.heap.size ≤ bi ∧ w.heap.size ≤ bk ∧ w.heap.size ≤ bn) := ⟨by omega, by omega, by omega, by omega, by omega, by omega⟩
    have ha : Hid (x ≠ r ∧ x ≠ bi ∧ x ≠ bk ∧ x ≠ bn ∧ b ≠ r ∧ b ≠ bi ∧ b ≠ bk ∧ b ≠ bn) := ⟨by omega, by omega, by omega, by omega, by omega, by omega, by omega, by omega⟩
    have P3 : PlI N w w3 x b r bi bk bn := ⟨⟨T0, 0, K2, I3, _, _, R3, A2⟩, F3⟩
    have n1 : (N : Int) ≤ 256 := by omega
    clear hxw f1 f2 h1 h2 I2 F2 K2 A2 R3 I3 F3 f3 lt2 g1 g2 g3 g4 HN HRN HM k1 k8
    go_wp2_with fail
    go_loopw [8] (fun v wr => ∃ i : Nat, v = .int .i64 i ∧ i ≤ len ∧ i ≤ 120 ∧ PlI N w wr x b r bi bk bn) (fun v _ => 121 - (intOf v).toNat)
    case atStart => exact ⟨0, rfl, by omega, by omega, P3⟩
    case round =>
      clear P3
      obtain ⟨i, rfl, i1, i2, hP⟩ := hrel
      by_cases hi : i < len ∧ i < 120
      · obtain ⟨hi1, hi2⟩ := hi
        obtain ⟨rfl, hb⟩ := HB.out (by omega)
        obtain ⟨m0, m0w⟩ := HF.out i hi1 0 _ rfl
        obtain ⟨m1, m1w⟩ := HF.out i hi1 1 _ rfl
        obtain ⟨m2, m2w⟩ := HF.out i hi1 2 _ rfl
        simp only [List.length_cons, List.length_nil, Nat.reduceAdd, Nat.add_zero] at m0 m1 m2
        generalize F i 0 = y0 at *
        generalize F i 1 = y1 at *
        generalize F i 2 = y2 at *
        have hFr := hP.fr
        have c0 := (hFr.cell (off := off + i * 3) hb).trans m0
        have c1 := (hFr.cell (off := off + i * 3 + 1) hb).trans m1
        have c2 := (hFr.cell (off := off + i * 3 + 2) hb).trans m2
        have hbr := Nat.lt_of_lt_of_le hb hFr.size
        obtain ⟨T, c, hk, hI, hR⟩ := hP.ex
        have HI := Lib.hid hI
        have HK := Lib.hid hk
        have HR := Lib.hid hR
        have hlt := hI.lt
        have hltr : r < wr.heap.size ∧ bi < wr.heap.size ∧ bk < wr.heap.size ∧ bn < wr.heap.size := by obtain ⟨K, V, h, _⟩ := hR; exact h.lt
        clear m0 m1 m2 m0w m1w m2w hI hk hR hP
        go_upto_if 57 with fail
        clear c0 c1 c2
        have q0 : ((wr.alloc (.cells #[.int .i64 y0, .int .i64 y1, .int .i64 y2] 32)).heap[wr.heap.size]? = some (.cells #[.int .i64 y0, .int .i64 y1, .int .i64 y2] 32)) := heap_alloc_new _ _
        have I3 := Lib.hid (HI.out.fr (S := []) (w' := (wr.alloc (.cells #[.int .i64 y0, .int .i64 y1, .int .i64 y2] 32))) (by repeat' (first | (with_reducible exact Fr.refl _ _) | (with_reducible assumption) | (with_reducible refine Fr.drew ?_) | (with_reducible refine Fr.drewN ?_ _) | (with_reducible refine Fr.alloc ?_ _) | ((with_reducible refine Fr.setNew ?_ _ ?_ _); rotate_left; (focus (first | (with_reducible assumption) | exact Nat.le_of_lt (by with_reducible assumption) | (focus (simp +arith; done)) | exact Nat.le_trans (by with_reducible assumption) (by simp +arith; done) | (simp; done)))) | ((with_reducible refine Fr.setOld ?_ _ ?_ _); rotate_left; (focus (simp; done))))) (by simp) (by simp))
        have ER := Lib.hid (ReA.stab (S := []) (by simp) (by simp) (by simp) (by simp) _ (wr.alloc (.cells #[.int .i64 y0, .int .i64 y1, .int .i64 y2] 32)) (by repeat' (first | (with_reducible exact Fr.refl _ _) | (with_reducible assumption) | (with_reducible refine Fr.drew ?_) | (with_reducible refine Fr.drewN ?_ _) | (with_reducible refine Fr.alloc ?_ _) | ((with_reducible refine Fr.setNew ?_ _ ?_ _); rotate_left; (focus (first | (with_reducible assumption) | exact Nat.le_of_lt (by with_reducible assumption) | (focus (simp +arith; done)) | exact Nat.le_trans (by with_reducible assumption) (by simp +arith; done) | (simp; done)))) | ((with_reducible refine Fr.setOld ?_ _ ?_ _); rotate_left; (focus (simp; done))))) HR.out)
        have F3 : Fr [] w (wr.alloc (.cells #[.int .i64 y0, .int .i64 y1, .int .i64 y2] 32)) := (by repeat' (first | (with_reducible exact Fr.refl _ _) | (with_reducible assumption) | (with_reducible refine Fr.drew ?_) | (with_reducible refine Fr.drewN ?_ _) | (with_reducible refine Fr.alloc ?_ _) | ((with_reducible refine Fr.setNew ?_ _ ?_ _); rotate_left; (focus (first | (with_reducible assumption) | exact Nat.le_of_lt (by with_reducible assumption) | (focus (simp +arith; done)) | exact Nat.le_trans (by with_reducible assumption) (by simp +arith; done) | (simp; done)))) | ((with_reducible refine Fr.setOld ?_ _ ?_ _); rotate_left; (focus (simp; done)))))
        have hq : Hid (wr.heap.size ≠ x ∧ wr.heap.size ≠ b ∧ wr.heap.size ≠ bi ∧ wr.heap.size ≠ bk ∧ wr.heap.size ≠ bn) := ⟨by omega, by omega, by omega, by omega, by omega⟩
        generalize wr.alloc (.cells #[.int .i64 y0, .int .i64 y1, .int .i64 y2] 32) = w3 at *
        generalize wr.heap.size = q at *
        clear hlt hltr hbr HI HR hFr
        go_cut [10] (fun v wc => v = .bool true ∧ PlI N w wc x b r bi bk bn ∧ wc.heap[q]? = some (.cells #[.int .i64 y0, .int .i64 y1, .int .i64 y2] 32))
        case first =>
          by_cases hy : y0 = 0
          · obtain ⟨⟨T9, c9, κ⟩, hp⟩ : ∃ R, putL N T c y1 y2 = R := ⟨_, rfl⟩
            have K9 := HK.out.put y1 y2
            rw [hp] at K9
            have K9 : Hid (IOk N T9 c9) := K9
            have C1 := Lib.hid (fun w' (h : IdxAt w' x b N T c) => idx_putc (w := w') y1 y2 κ hp HK.out h)
            have C2 : Hid (∀ w', ReA r bi bk bn N T w' → Calls Try.prog 18 #[.pointer (some ⟨r, 0, none⟩), .int .i64 y1, .int .i64 y2] w' fun e w'' => e = .returned (.int .i64 κ) ∧ ReA r bi bk bn N T9 w'' ∧ Fr [bi, bk, bn] w' w'') := by
              rintro w' ⟨K, V, h, a⟩
              refine (rx_put HK.out a y1 y2 h).mono ?_
              rintro e w'' ⟨⟨K', V', rfl, h', a'⟩, f⟩
              rw [hp] at h' a' ⊢
              exact ⟨rfl, ⟨K', V', h', a'⟩, f⟩
            clear hp
            subst hy
            apply blk_use q0; intro hg3 hc3 hz3 _ _ _ _ _
            go_wp2_with fail
            clear hg3 hc3 hz3
            refine wp_region_seqV_lit (TwS 5 11 [x, b, bi, bk, bn] w3 (fun w => IdxAt w x b N T c) (fun w => IdxAt w x b N T9 c9) (ReA r bi bk bn N T) (ReA r bi bk bn N T9)) fol (by kernel_rfl) (TwS.start (I3.out.fr (S := []) (Fr.refl _ _).drew (by simp) (by simp)) (ReA.stab (S := []) (by simp) (by simp) (by simp) (by simp) _ _ (Fr.refl _ _).drew ER.out)) ?_
            (repeat (apply SeqV.cons; (focus (intro Vv bv wv hbv hdv hsh hSv; have fq := hSv.fr.heap q0 (by have := hq.out; simp; omega); apply blk_use fq; intro hg21 hc21 hz21 _ _ _ _ _; clear hsh hdv; go_wp2_with fail; exact StepPost.mk rfl (hSv.plain (by decide) (by repeat' (first | (with_reducible exact Fr.refl _ _) | (with_reducible assumption) | (with_reducible refine Fr.drew ?_) | (with_reducible refine Fr.drewN ?_ _) | (with_reducible refine Fr.alloc ?_ _) | ((with_reducible refine Fr.setNew ?_ _ ?_ _); rotate_left; (focus (first | (with_reducible assumption) | exact Nat.le_of_lt (by with_reducible assumption) | (focus (simp +arith; done)) | exact Nat.le_trans (by with_reducible assumption) (by simp +arith; done) | (simp; done)))) | ((with_reducible refine Fr.setOld ?_ _ ?_ _); rotate_left; (focus (simp; done))))) (idx_stab (by simp) (by simp)) (idx_stab (by simp) (by simp)) (ReA.stab (by simp) (by simp) (by simp) (by simp)) (ReA.stab (by simp) (by simp) (by simp) (by simp))))); (try simp only [Act.put, List.setIfInBounds_toArray, List.set_cons_zero, List.set_cons_succ, Nat.reduceAdd, Nat.zero_add])))
            apply SeqV.cons (v := .int .i64 κ); (focus (intro Vv bv wv hbv hdv hsh hSv; have i0 := hSv.a1 hbv; clear hsh hdv; go_wp2_with fail; with_reducible refine (C1.out _ i0).mono ?_; rintro e ww ⟨rfl, j0, ff⟩; go_wp2_with fail; exact StepPost.mk rfl (hSv.one (by decide) ff (by simp) (ReA.stab (by have := ha.out; simp; omega) (by have := ha.out; simp; omega) (by have := ha.out; simp; omega) (by have := ha.out; simp; omega)) (ReA.stab (by have := ha.out; simp; omega) (by have := ha.out; simp; omega) (by have := ha.out; simp; omega) (by have := ha.out; simp; omega)) j0))); (try simp only [Act.put, List.setIfInBounds_toArray, List.set_cons_zero, List.set_cons_succ, Nat.reduceAdd, Nat.zero_add])
            (repeat (apply SeqV.cons; (focus (intro Vv bv wv hbv hdv hsh hSv; have fq := hSv.fr.heap q0 (by have := hq.out; simp; omega); apply blk_use fq; intro hg21 hc21 hz21 _ _ _ _ _; clear hsh hdv; go_wp2_with fail; exact StepPost.mk rfl (hSv.plain (by decide) (by repeat' (first | (with_reducible exact Fr.refl _ _) | (with_reducible assumption) | (with_reducible refine Fr.drew ?_) | (with_reducible refine Fr.drewN ?_ _) | (with_reducible refine Fr.alloc ?_ _) | ((with_reducible refine Fr.setNew ?_ _ ?_ _); rotate_left; (focus (first | (with_reducible assumption) | exact Nat.le_of_lt (by with_reducible assumption) | (focus (simp +arith; done)) | exact Nat.le_trans (by with_reducible assumption) (by simp +arith; done) | (simp; done)))) | ((with_reducible refine Fr.setOld ?_ _ ?_ _); rotate_left; (focus (simp; done))))) (idx_stab (by simp) (by simp)) (idx_stab (by simp) (by simp)) (ReA.stab (by simp) (by simp) (by simp) (by simp)) (ReA.stab (by simp) (by simp) (by simp) (by simp))))); (try simp only [Act.put, List.setIfInBounds_toArray, List.set_cons_zero, List.set_cons_succ, Nat.reduceAdd, Nat.zero_add])))
            apply SeqV.cons (v := .int .i64 κ); (focus (intro Vv bv wv hbv hdv hsh hSv; have i0 := hSv.a2 hbv; clear hsh hdv; go_wp2_with fail; with_reducible refine (C2.out _ i0).mono ?_; rintro e ww ⟨rfl, j0, ff⟩; go_wp2_with fail; exact StepPost.mk rfl (hSv.two (by decide) ff (by simp) (idx_stab (by have := ha.out; simp; omega) (by have := ha.out; simp; omega)) (idx_stab (by have := ha.out; simp; omega) (by have := ha.out; simp; omega)) j0))); (try simp only [Act.put, List.setIfInBounds_toArray, List.set_cons_zero, List.set_cons_succ, Nat.reduceAdd, Nat.zero_add])
            (repeat (apply SeqV.cons; (focus (intro Vv bv wv hbv hdv hsh hSv; have fq := hSv.fr.heap q0 (by have := hq.out; simp; omega); apply blk_use fq; intro hg21 hc21 hz21 _ _ _ _ _; clear hsh hdv; go_wp2_with fail; exact StepPost.mk rfl (hSv.plain (by decide) (by repeat' (first | (with_reducible exact Fr.refl _ _) | (with_reducible assumption) | (with_reducible refine Fr.drew ?_) | (with_reducible refine Fr.drewN ?_ _) | (with_reducible refine Fr.alloc ?_ _) | ((with_reducible refine Fr.setNew ?_ _ ?_ _); rotate_left; (focus (first | (with_reducible assumption) | exact Nat.le_of_lt (by with_reducible assumption) | (focus (simp +arith; done)) | exact Nat.le_trans (by with_reducible assumption) (by simp +arith; done) | (simp; done)))) | ((with_reducible refine Fr.setOld ?_ _ ?_ _); rotate_left; (focus (simp; done))))) (idx_stab (by simp) (by simp)) (idx_stab (by simp) (by simp)) (ReA.stab (by simp) (by simp) (by simp) (by simp)) (ReA.stab (by simp) (by simp) (by simp) (by simp))))); (try simp only [Act.put, List.setIfInBounds_toArray, List.set_cons_zero, List.set_cons_succ, Nat.reduceAdd, Nat.zero_add])))
            refine SeqV.nil ?_
            intro Vv bv w5 hb5 hSv
            have I5 := hSv.b1 (hb5 5 (by decide))
            have R5 := hSv.b2 (hb5 11 (by decide))
            have F5 : Fr [] w w5 := F3.trans' hSv.fr (by have := hd.out; simp; omega)
            have q5 := hSv.fr.heap q0 (by have := hq.out; simp; omega)
            clear hSv hb5
            go_wp2_with fail
            go_meet
            exact ⟨rfl, ⟨⟨T9, c9, K9.out, I5, R5⟩, F5⟩, q5⟩
          · have hyb : (y0 == 0) = false := by rw [beq_eq_false_iff_ne]; exact hy
            clear hy
            go_wp2_with fail
            go_meet
            exact ⟨rfl, ⟨⟨T, c, HK.out, I3.out, ER.out⟩, F3⟩, q0⟩
        case rest =>
          clear q0 I3 ER F3 HK
          obtain ⟨rfl, hP, q0⟩ := hcut
          obtain ⟨w3, rfl⟩ : ∃ x, x = wc := ⟨_, rfl⟩
          obtain ⟨T, c, hk, hI, hR⟩ := hP.ex
          have F3 := hP.fr
          have I3 := Lib.hid hI
          have HK := Lib.hid hk
          have ER : Hid (ReA r bi bk bn N T w3) := hR
          clear hI hk hR hP
          apply blk_use q0; intro hg3 hc3 hz3 _ _ _ _ _
          go_upto_if 73 with fail
          clear hg3 hc3 hz3
          go_cut [10] (fun v wc => v = .bool true ∧ PlI N w wc x b r bi bk bn ∧ wc.heap[q]? = some (.cells #[.int .i64 y0, .int .i64 y1, .int .i64 y2] 32))
          case first =>
            by_cases hy : y0 = 1
            · obtain ⟨T9, c9, K9, C1, C2⟩ : ∃ T9 c9, Hid (IOk N T9 c9) ∧ Hid (∀ w', IdxAt w' x b N T c → Calls Try.prog 19 #[.pointer (some ⟨x, 0, none⟩), .int .i64 y1] w' fun e w'' => e = .returned (.bool (getL N T y1).2) ∧ IdxAt w'' x b N T9 c9 ∧ Fr [x, b] w' w'') ∧
                  Hid (∀ w', ReA r bi bk bn N T w' → Calls Try.prog 20 #[.pointer (some ⟨r, 0, none⟩), .int .i64 y1] w' fun e w'' => e = .returned (.bool (getL N T y1).2) ∧ ReA r bi bk bn N T9 w'' ∧ Fr [bi, bk, bn] w' w'') := by
                by_cases hn : (getL N T y1).2 = true
                · obtain ⟨e, he⟩ := HK.out.hole hn
                  refine ⟨_, _, HK.out.del hn he, fun w' h => ?_, ?_⟩
                  · rw [hn]; exact idx_del_ok y1 e HK.out hn he h
                  · rintro w' ⟨K, V, h, a⟩
                    refine (rx_del HK.out a y1 e hn he h).mono ?_
                    rintro e w'' ⟨⟨K', V', rfl, h', a'⟩, f⟩
                    rw [hn]
                    exact ⟨rfl, ⟨K', V', h', a'⟩, f⟩
                · have hn' : (getL N T y1).2 = false := by simpa using hn
                  refine ⟨T, c, HK.out, fun w' h => ?_, ?_⟩
                  · rw [hn']
                    refine (idx_del_no y1 HK.out hn' h).mono ?_
                    rintro e w'' ⟨rfl, rfl⟩
                    exact ⟨rfl, h, Fr.refl _ _⟩
                  · rintro w' ⟨K, V, h, a⟩
                    refine (rx_del_no HK.out a y1 hn' h).mono ?_
                    rintro e w'' ⟨rfl, rfl⟩
                    rw [hn']
                    exact ⟨rfl, ⟨K, V, h, a⟩, Fr.refl _ _⟩
              generalize (getL N T y1).2 = β at *
              subst hy
              go_wp2_with fail
              refine wp_region_seqV_lit (TwS 3 7 [x, b, bi, bk, bn] w3 (fun w => IdxAt w x b N T c) (fun w => IdxAt w x b N T9 c9) (ReA r bi bk bn N T) (ReA r bi bk bn N T9)) fol (by kernel_rfl) (TwS.start (I3.out.fr (S := []) (Fr.refl _ _).drew (by simp) (by simp)) (ReA.stab (S := []) (by simp) (by simp) (by simp) (by simp) _ _ (Fr.refl _ _).drew ER.out)) ?_
              (repeat (apply SeqV.cons; (focus (intro Vv bv wv hbv hdv hsh hSv; have fq := hSv.fr.heap q0 (by have := hq.out; simp; omega); apply blk_use fq; intro hg21 hc21 hz21 _ _ _ _ _; clear hsh hdv; go_wp2_with fail; exact StepPost.mk rfl (hSv.plain (by decide) (by repeat' (first | (with_reducible exact Fr.refl _ _) | (with_reducible assumption) | (with_reducible refine Fr.drew ?_) | (with_reducible refine Fr.drewN ?_ _) | (with_reducible refine Fr.alloc ?_ _) | ((with_reducible refine Fr.setNew ?_ _ ?_ _); rotate_left; (focus (first | (with_reducible assumption) | exact Nat.le_of_lt (by with_reducible assumption) | (focus (simp +arith; done)) | exact Nat.le_trans (by with_reducible assumption) (by simp +arith; done) | (simp; done)))) | ((with_reducible refine Fr.setOld ?_ _ ?_ _); rotate_left; (focus (simp; done))))) (idx_stab (by simp) (by simp)) (idx_stab (by simp) (by simp)) (ReA.stab (by simp) (by simp) (by simp) (by simp)) (ReA.stab (by simp) (by simp) (by simp) (by simp))))); (try simp only [Act.put, List.setIfInBounds_toArray, List.set_cons_zero, List.set_cons_succ, Nat.reduceAdd, Nat.zero_add])))
              apply SeqV.cons (v := .bool β); (focus (intro Vv bv wv hbv hdv hsh hSv; have i0 := hSv.a1 hbv; clear hsh hdv; go_wp2_with fail; with_reducible refine (C1.out _ i0).mono ?_; rintro e ww ⟨rfl, j0, ff⟩; go_wp2_with fail; exact StepPost.mk rfl (hSv.one (by decide) ff (by simp) (ReA.stab (by have := ha.out; simp; omega) (by have := ha.out; simp; omega) (by have := ha.out; simp; omega) (by have := ha.out; simp; omega)) (ReA.stab (by have := ha.out; simp; omega) (by have := ha.out; simp; omega) (by have := ha.out; simp; omega) (by have := ha.out; simp; omega)) j0))); (try simp only [Act.put, List.setIfInBounds_toArray, List.set_cons_zero, List.set_cons_succ, Nat.reduceAdd, Nat.zero_add])
              (repeat (apply SeqV.cons; (focus (intro Vv bv wv hbv hdv hsh hSv; have fq := hSv.fr.heap q0 (by have := hq.out; simp; omega); apply blk_use fq; intro hg21 hc21 hz21 _ _ _ _ _; clear hsh hdv; go_wp2_with fail; exact StepPost.mk rfl (hSv.plain (by decide) (by repeat' (first | (with_reducible exact Fr.refl _ _) | (with_reducible assumption) | (with_reducible refine Fr.drew ?_) | (with_reducible refine Fr.drewN ?_ _) | (with_reducible refine Fr.alloc ?_ _) | ((with_reducible refine Fr.setNew ?_ _ ?_ _); rotate_left; (focus (first | (with_reducible assumption) | exact Nat.le_of_lt (by with_reducible assumption) | (focus (simp +arith; done)) | exact Nat.le_trans (by with_reducible assumption) (by simp +arith; done) | (simp; done)))) | ((with_reducible refine Fr.setOld ?_ _ ?_ _); rotate_left; (focus (simp; done))))) (idx_stab (by simp) (by simp)) (idx_stab (by simp) (by simp)) (ReA.stab (by simp) (by simp) (by simp) (by simp)) (ReA.stab (by simp) (by simp) (by simp) (by simp))))); (try simp only [Act.put, List.setIfInBounds_toArray, List.set_cons_zero, List.set_cons_succ, Nat.reduceAdd, Nat.zero_add])))
              apply SeqV.cons (v := .bool β); (focus (intro Vv bv wv hbv hdv hsh hSv; have i0 := hSv.a2 hbv; clear hsh hdv; go_wp2_with fail; with_reducible refine (C2.out _ i0).mono ?_; rintro e ww ⟨rfl, j0, ff⟩; go_wp2_with fail; exact StepPost.mk rfl (hSv.two (by decide) ff (by simp) (idx_stab (by have := ha.out; simp; omega) (by have := ha.out; simp; omega)) (idx_stab (by have := ha.out; simp; omega) (by have := ha.out; simp; omega)) j0))); (try simp only [Act.put, List.setIfInBounds_toArray, List.set_cons_zero, List.set_cons_succ, Nat.reduceAdd, Nat.zero_add])
              (repeat (apply SeqV.cons; (focus (intro Vv bv wv hbv hdv hsh hSv; have fq := hSv.fr.heap q0 (by have := hq.out; simp; omega); apply blk_use fq; intro hg21 hc21 hz21 _ _ _ _ _; clear hsh hdv; go_wp2_with fail; exact StepPost.mk rfl (hSv.plain (by decide) (by repeat' (first | (with_reducible exact Fr.refl _ _) | (with_reducible assumption) | (with_reducible refine Fr.drew ?_) | (with_reducible refine Fr.drewN ?_ _) | (with_reducible refine Fr.alloc ?_ _) | ((with_reducible refine Fr.setNew ?_ _ ?_ _); rotate_left; (focus (first | (with_reducible assumption) | exact Nat.le_of_lt (by with_reducible assumption) | (focus (simp +arith; done)) | exact Nat.le_trans (by with_reducible assumption) (by simp +arith; done) | (simp; done)))) | ((with_reducible refine Fr.setOld ?_ _ ?_ _); rotate_left; (focus (simp; done))))) (idx_stab (by simp) (by simp)) (idx_stab (by simp) (by simp)) (ReA.stab (by simp) (by simp) (by simp) (by simp)) (ReA.stab (by simp) (by simp) (by simp) (by simp))))); (try simp only [Act.put, List.setIfInBounds_toArray, List.set_cons_zero, List.set_cons_succ, Nat.reduceAdd, Nat.zero_add])))
              refine SeqV.nil ?_
              intro Vv bv w5 hb5 hSv
              have I5 := hSv.b1 (hb5 3 (by decide))
              have R5 := hSv.b2 (hb5 7 (by decide))
              have F5 : Fr [] w w5 := F3.trans' hSv.fr (by have := hd.out; simp; omega)
              have q5 := hSv.fr.heap q0 (by have := hq.out; simp; omega)
              clear hSv hb5
              go_wp2_with fail
              go_meet
              exact ⟨by simp, ⟨⟨T9, c9, K9.out, I5, R5⟩, F5⟩, q5⟩
            · have hyb : (y0 == 1) = false := by rw [beq_eq_false_iff_ne]; exact hy
              clear hy
              go_wp2_with fail
              go_meet
              exact ⟨rfl, ⟨⟨T, c, HK.out, I3.out, ER.out⟩, F3⟩, q0⟩
          case rest =>
            clear q0 I3 ER F3 HK hq
            obtain ⟨rfl, hP, q0⟩ := hcut
            obtain ⟨w3, rfl⟩ : ∃ x, x = wc := ⟨_, rfl⟩
            obtain ⟨T, c, hk, hI, K, V, hR, hA⟩ := hP.ex
            have F3 := hP.fr
            have HK := Lib.hid hk
            have HA := Lib.hid hA
            have I3 := Lib.hid hI
            have R3 := Lib.hid hR
            have h256 : (keysL T).length ≤ 256 := by rw [keysL_cnt]; have := hk.lt; have := hk.le; omega
            have h2562 : ((keysL T).length : Int) ≤ 256 := by omega
            obtain rfl : c = ((keysL T).length : Int) := by rw [keysL_cnt]; exact hk.cn
            have HLN : Hid (∀ w', RIx w' r bi bk bn N T K V → Calls Try.prog 24 #[.pointer (some ⟨r, 0, none⟩)] w' fun e w'' => e = .returned (.int .i64 ((keysL T).length : Nat)) ∧ w' = w'') := fun w' h => by rw [keysL_cnt]; exact rx_len hk.ok.len hk.le h
            obtain ⟨⟨nn, nβ⟩, hg⟩ : ∃ rr, getL N T y1 = rr := ⟨_, rfl⟩
            have HG := Lib.hid hg
            have HRG : Hid (∀ w', RIx w' r bi bk bn N T K V → Calls Try.prog 22 #[.pointer (some ⟨r, 0, none⟩), .int .i64 y1] w' fun e w'' => e = .returned (.tuple #[.int .i64 nn, .bool nβ]) ∧ w' = w'') := fun w' h => by
              have := rx_get hk hA y1 h
              rw [get_key0 hk, hg] at this
              exact this
            clear hk hI hR hA hP hg
            apply blk_use q0; intro hg3 hc3 hz3 _ _ _ _ _
            go_wp2_with fail
            with_reducible refine (idx_getc y1 nn nβ HG.out HK.out I3.out).mono ?_
            rintro e w4 ⟨rfl, f4⟩
            have I4 := Lib.hid (I3.out.fr f4 (by simp) (by simp))
            have R4 := Lib.hid (R3.out.fr f4 (by simp) (by simp) (by simp) (by simp))
            have F4 := F3.trans f4
            have q4 := f4.heap q0 (by simp)
            clear hg3 hc3 hz3 f4
            apply blk_use q4; intro hg4 hc4 hz4 _ _ _ _ _
            go_wp2_with fail
            with_reducible refine (HRG.out _ R4.out).mono ?_
            rintro e w5 ⟨rfl, rfl⟩
            clear hg4 hc4 hz4
            go_wp2_with fail
            with_reducible refine (idx_len I4.out).mono ?_
            rintro e w5 ⟨rfl, rfl⟩
            go_wp2_with fail
            with_reducible refine (HLN.out _ R4.out).mono ?_
            rintro e w5 ⟨rfl, rfl⟩
            go_wp2_with fail
            with_reducible refine (idx_keysc (keysL T) rfl HK.out I4.out).mono ?_
            rintro e w5 ⟨⟨A5, c5, rfl, O5⟩, f5⟩
            have I5 := Lib.hid (I4.out.fr f5 (by simp) (by simp))
            have R5 := Lib.hid (R4.out.fr f5 (by simp) (by simp) (by simp) (by simp))
            have F5 := F4.trans f5
            have S5 := Lib.hid (O5.sl (M := []) (by simp))
            clear f5 O5
            go_wp2_with fail
            with_reducible refine (rx_keys HK.out HA.out R5.out).mono ?_
            rintro e w6 ⟨⟨v6, rfl, O6⟩, f6⟩
            have I6 := Lib.hid (I5.out.fr f6 (by simp) (by simp))
            have R6 := Lib.hid (R5.out.fr f6 (by simp) (by simp) (by simp) (by simp))
            have F6 := F5.trans f6
            have S6 := Lib.hid (O6.sl (M := []) (by simp))
            have S56 := Lib.hid (S5.out.fr f6 (by simp))
            clear f6 O6
            go_wp2_with fail
            with_reducible refine (r5_ints _ _ (keysL T) (by omega) _ _ _ S56.out S6.out).mono ?_
            rintro e w7 ⟨rfl, f7⟩
            have I7 := Lib.hid (I6.out.fr f7 (by simp) (by simp))
            have R7 := Lib.hid (R6.out.fr f7 (by simp) (by simp) (by simp) (by simp))
            have F7 := F6.trans f7
            clear f7
            go_wp2_with fail
            with_reducible refine (rx_keys HK.out HA.out R7.out).mono ?_
            rintro e w8 ⟨⟨v8, rfl, O8⟩, f8⟩
            have I8 := Lib.hid (I7.out.fr f8 (by simp) (by simp))
            have R8 := Lib.hid (R7.out.fr f8 (by simp) (by simp) (by simp) (by simp))
            have F8 := F7.trans f8
            obtain ⟨A8, c8, rfl⟩ := O8.shape
            obtain ⟨A11, c11, he11, _, h11⟩ := O8.sl (M := []) (by simp)
            injection he11 with e1 e2 e3
            subst e1 e3
            have H11 := Lib.hid h11
            clear O8 e2 h11 f8
            go_wp2_with fail
            go_loopw [16] (fun v wr => ∃ k : Nat, v = .int .i64 k ∧ k ≤ (keysL T).length ∧ Fr [] w8 wr) (fun v _ => (keysL T).length - (intOf v).toNat)
            case atStart => exact ⟨0, rfl, by omega, Fr.refl _ _⟩
            case round =>
              obtain ⟨k, rfl, k1, G⟩ := hrel
              by_cases hlt : k < (keysL T).length
              · rcases H11.out with hz | ⟨b9, o9, rfl, hb9, _, hcl⟩
                · rw [hz] at hlt; simp at hlt
                have ck := enat hcl (List.getElem?_eq_getElem hlt)
                obtain ⟨fr, hfr⟩ : ∃ fr, farL N T (keysL T)[k] = fr := ⟨_, rfl⟩
                have FRH := Lib.hid hfr
                have HRF : Hid (∀ w', RIx w' r bi bk bn N T K V → Calls Try.prog 29 #[.pointer (some ⟨r, 0, none⟩), .int .i64 (keysL T)[k]] w' fun e w'' => e = .returned (.int .i64 fr) ∧ w' = w'') := fun w' h => by rw [← hfr]; exact rx_far HK.out HA.out _ h
                generalize (keysL T)[k] = key at *
                have hkl : (k : Int) < ((keysL T).length : Int) := by omega
                have GI := Lib.hid (I8.out.fr G (by simp) (by simp))
                have GR := Lib.hid (R8.out.fr G (by simp) (by simp) (by simp) (by simp))
                have d0 := (G.cell (off := o9 + k) hb9).trans ck
                have hb9' := Nat.lt_of_lt_of_le hb9 G.size
                clear hcl hfr ck
                go_wp2_with fail
                refine wp_region_seqV_lit (fun _ _ w' => Fr [] wr w') fol (by kernel_rfl) (Fr.refl _ _).drew ?_
                (repeat (first | (apply SeqV.cons; (focus (intro Vv bv wv hbv hdv hsh hSv; (have d1 := (hSv.cell (off := o9 + k) hb9').trans d0); go_wp2_with (first | (go_at_call 28; (with_reducible refine (idx_farc key fr FRH.out HK.out (GI.out.fr hSv (by simp) (by simp))).mono ?_); rintro e ww ⟨rfl, ff⟩; have ff2 : Fr [] wr ww := hSv.trans ff) | (go_at_call 29; (with_reducible refine (HRF.out _ (GR.out.fr hSv (by simp) (by simp) (by simp) (by simp))).mono ?_); rintro e ww ⟨rfl, rfl⟩)); exact StepPost.mk rfl (Fr.trans (S := []) hSv (by repeat' (first | (with_reducible exact Fr.refl _ _) | (with_reducible assumption) | (with_reducible refine Fr.drew ?_) | (with_reducible refine Fr.drewN ?_ _) | (with_reducible refine Fr.alloc ?_ _) | ((with_reducible refine Fr.setNew ?_ _ ?_ _); rotate_left; (focus (first | (with_reducible assumption) | exact Nat.le_of_lt (by with_reducible assumption) | (focus (simp +arith; done)) | exact Nat.le_trans (by with_reducible assumption) (by simp +arith; done) | (simp; done)))) | ((with_reducible refine Fr.setOld ?_ _ ?_ _); rotate_left; (focus (simp; done)))))))); (try simp only [Act.put, List.setIfInBounds_toArray, List.set_cons_zero, List.set_cons_succ, Nat.reduceAdd, Nat.zero_add])) | (apply SeqV.cons (v := undef); (focus (intro Vv bv wv hbv hdv hsh hSv; (have d1 := (hSv.cell (off := o9 + k) hb9').trans d0); go_wp2_with (first | (go_at_call 28; (with_reducible refine (idx_farc key fr FRH.out HK.out (GI.out.fr hSv (by simp) (by simp))).mono ?_); rintro e ww ⟨rfl, ff⟩; have ff2 : Fr [] wr ww := hSv.trans ff) | (go_at_call 29; (with_reducible refine (HRF.out _ (GR.out.fr hSv (by simp) (by simp) (by simp) (by simp))).mono ?_); rintro e ww ⟨rfl, rfl⟩)); exact StepPost.mk rfl (Fr.trans (S := []) hSv (by repeat' (first | (with_reducible exact Fr.refl _ _) | (with_reducible assumption) | (with_reducible refine Fr.drew ?_) | (with_reducible refine Fr.drewN ?_ _) | (with_reducible refine Fr.alloc ?_ _) | ((with_reducible refine Fr.setNew ?_ _ ?_ _); rotate_left; (focus (first | (with_reducible assumption) | exact Nat.le_of_lt (by with_reducible assumption) | (focus (simp +arith; done)) | exact Nat.le_trans (by with_reducible assumption) (by simp +arith; done) | (simp; done)))) | ((with_reducible refine Fr.setOld ?_ _ ?_ _); rotate_left; (focus (simp; done)))))))); (try simp only [Act.put, List.setIfInBounds_toArray, List.set_cons_zero, List.set_cons_succ, Nat.reduceAdd, Nat.zero_add]))))
                refine SeqV.nil ?_
                intro Vv bv w9 hb9q hSv
                have G9 := G.trans hSv
                clear hb9q hSv G d0
                go_wp2_with fail
                go_roundw
                case rel => exact ⟨k + 1, by go_num, by omega, G9⟩
                case measure => simp [intOf]; omega
              · obtain rfl : k = (keysL T).length := by omega
                go_wp2_with fail
                exact ⟨⟨i + 1, by go_num, by omega, by omega, ⟨⟨T, _, HK.out, I8.out.fr G (by simp) (by simp), K, V, R8.out.fr G (by simp) (by simp) (by simp) (by simp), HA.out⟩, F8.trans G⟩⟩, by simp [intOf]; omega⟩
      · have hqq : ¬ i < len ∨ (i < len ∧ ¬ i < 120) := by omega
        rcases hqq with q1 | ⟨q1, q2⟩
        all_goals
          obtain ⟨T, c, hk, hI, hR⟩ := hP.ex
          have hgn : getL N T (-1) = (0, false) := by unfold getL; rw [if_pos (by decide)]
          have hfn : farL N T (-1) = -1 := by unfold farL; rw [hgn]; rfl
          have HFN := Lib.hid hfn
          have HK := Lib.hid hk
          clear hi hk hR hgn hfn
          go_wp2_with fail
          with_reducible refine (idx_farc (-1) (-1) HFN.out HK.out hI).mono ?_
          rintro e w5 ⟨rfl, f5⟩
          go_wp2_with fail
          go_ret
          exact ⟨rfl, hP.fr.trans f5⟩
end Go.Proofs.Ytobekkgaildbgaa
