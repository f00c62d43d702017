/- PoolLeast answers true at every count, script and block, and changes nothing that was there. -/
import Derived.Test.YtmhdnafdbgbmfaaPoolPlaysWalk
namespace Go.Proofs.Ytmhdnafdbgbmfaa
open Go.RowKit

/-- Where a step's new reference lies once it is made. -/
def NewStep (s0 : Nat) (m m' : List Fm) (b : Nat → Bool) (w : World) : Prop := (b 2 = false → w.heap.size = s0 ∧ b 7 = false) ∧ (b 2 = true → PoolAt rT w (s0 + 1) s0 (bif b 7 then m' else m))

/-- The least free frame from c on. -/
def LeastR (l : List Fm) (c : Nat) (r : Option Nat) : Prop := (∀ j g, c ≤ j → l[j]? = some g → (∀ q, r = some q → j < q) → g.s ≠ 0) ∧ (∀ q, r = some q → c ≤ q ∧ ∃ g, l[q]? = some g ∧ g.s = 0)
def fmOf (l : List Fm) : Option Nat → Fm | some q => l[q]?.getD fm0 | none => fm0
theorem leastR_all {l : List Fm} {K : Nat} (h : l.length = K) : LeastR l K none := ⟨fun j g hj hg _ => by
  have := (List.getElem?_eq_some_iff.1 hg).1; omega, fun q hq => by cases hq⟩
theorem leastR_hit {l : List Fm} {q : Nat} {f : Fm} (hf : l[q]? = some f) (hs : f.s = 0) : LeastR l q (some q) := ⟨fun j g hj hg h => by
  have := h q rfl; omega, fun p hp => by cases hp; exact ⟨Nat.le_refl _, f, hf, hs⟩⟩
theorem leastR_miss {l : List Fm} {q : Nat} {r : Option Nat} {f : Fm} (h : LeastR l (q + 1) r) (hf : l[q]? = some f) (hs : f.s ≠ 0) : LeastR l q r := by
  refine ⟨fun j g hj hg hr => ?_, fun p hp => ?_⟩
  · by_cases hjq : j = q
    · subst hjq; rw [hf] at hg; cases hg; exact hs
    · exact h.1 j g (by omega) hg hr
  · obtain ⟨h1, h2⟩ := h.2 p hp
    exact ⟨by omega, h2⟩
theorem leastR_zero {l : List Fm} {r : Option Nat} (h : LeastR l 0 r) : freeIx l = r := by
  cases r with
  | none => exact freeIx_none (fun j g hg => h.1 j g (by omega) hg (fun q hq => by cases hq))
  | some q =>
    obtain ⟨_, g, hg, hs⟩ := h.2 q rfl
    exact freeIx_some hg hs (fun j hj g' hg' => h.1 j g' (by omega) hg' (fun p hp => by cases hp; exact hj))

def LeastS (s0 bp bf : Nat) (m m' l l' : List Fm) (w0 : World) (b : Nat → Bool) (w : World) : Prop := NewStep s0 m m' b w ∧ PoolAt pT w bp bf (bif b 7 then l' else l) ∧ Fr [] w0 w

theorem rnewd {w : World} (n : Int) (k s0 : Nat) (hk : n = k) (h2 : k ≤ 64) (hs : w.heap.size = s0) :
    Calls Try.prog 27 #[.int .i64 n] w fun e w' => e = .returned (.pointer (some ⟨s0 + 1, 0, none⟩)) ∧ PoolAt rT w' (s0 + 1) s0 (List.replicate k fm0) ∧ Fr [] w w' := by
  subst hs; exact rnewc n k hk h2
theorem replicate_sane {N : Int} (hN : 0 ≤ N) {K : Nat} (hK : K ≤ 64) : Sane N (List.replicate K fm0) := ⟨by simpa using hK, fun f hf => by rw [(List.mem_replicate.1 hf).2]; exact fm0_ok hN⟩
theorem pstepf {N : Int} {bp bf rp rf : Nat} {l m : List Fm} {w : World} (l2 m2 : List Fm) (k i n v : Int) (hg : actL l k i n v = l2) (hg2 : actL m k i n v = m2) (hl : Sane N l) (hm : Sane N m) (hN : N ≤ 999999) (hP : PoolAt pT w bp bf l) (hR : PoolAt rT w rp rf m) (hd : Apart bp bf rp rf) :
    Calls Try.prog 28 #[.pointer (some ⟨bp, 0, none⟩), .pointer (some ⟨rp, 0, none⟩), .agg #[.int .i64 k, .int .i64 i, .int .i64 n, .int .u64 v]] w fun e w' =>
      e = .returned (.bool (actB l m k i n v)) ∧ PoolAt pT w' bp bf l2 ∧ PoolAt rT w' rp rf m2 ∧ Fr [bf, rf] w w' := by
  subst hg; subst hg2; exact pstep bp bf rp rf l m k i n v N hl hm hN w hP hR hd

set_option maxRecDepth 100000 in
set_option maxHeartbeats 8000000 in
theorem least_any (n : Int) (A : Option Addr) (len cap : Nat) (blk : Int) (n0 : 0 ≤ n) (n1 : n ≤ 255) (q0 : 0 ≤ blk) (q1 : blk ≤ 65535) (hn : len ≤ maxLen) (w : World) (hA : IntsAt w [.i64, .i64, .i64, .u64] A len) :
    Calls Try.prog 11 #[.int .u8 n, .slice A len cap, .int .u16 blk] w fun e w' => e = .returned (.bool true) ∧ Fr [] w w' := by
  obtain ⟨K, hK⟩ : ∃ K : Nat, (K : Int) = 1 + n % 64 := ⟨(1 + n % 64).toNat, by omega⟩
  have k1 : 1 ≤ K := by omega
  have k2 : K ≤ 64 := by omega
  have HK := Lib.hid hK
  have HKs := Lib.hid hK.symm
  obtain ⟨b, off, F, hb, hF⟩ := hA
  have HB := Lib.hid hb
  have HF := Lib.hid hF
  have hn' : len ≤ 9223372036854775807 := by simpa [maxLen] using hn
  have fol : Try.prog.follows .mixedOrders = true := by kernel_rfl
  clear hb hF hn hK
  go_enter Try.func11, Try.ntmps11
  go_wp2_with (first
    | (go_at_call 25; (with_reducible refine (pawake _).mono ?_); rintro e w1 ⟨rfl, f1⟩)
    | (go_at_call 26; (with_reducible refine (pnewc (1 + n % 64) K HKs.out k1 k2).mono ?_); rintro e w2 ⟨rfl, P2, f2⟩; have F2 : Fr [] w w2 := Fr.trans f1 f2))
  have B1 : w.heap.size ≤ w1.heap.size := f1.size
  have B0 : w1.heap.size + 1 < w2.heap.size := P2.lt.1
  generalize hbp : w1.heap.size + 1 = bp at *
  generalize hbf : w1.heap.size = bf at *
  have B2 : Hid (w.heap.size ≤ bf ∧ bp = bf + 1) := ⟨by omega, by omega⟩
  clear B1 B0 hbp hbf f1 f2
  go_loopw [10] (fun v w' => ∃ (i : Nat) (l : List Fm), v = .int .i64 i ∧ i ≤ len ∧ i ≤ 100 ∧ l.length = K ∧ Sane i l ∧ PoolAt pT w' bp bf l ∧ Fr [] w w') (fun v _ => 101 - (intOf v).toNat)
  case atStart => exact ⟨0, List.replicate K fm0, rfl, by omega, by omega, by simp, replicate_sane (by simp) k2, P2, F2⟩
  case round =>
    clear P2 F2
    obtain ⟨i, l, rfl, i1, i2, hl, hs, P3, F3⟩ := hrel
    by_cases hi : i < len ∧ i < 100
    · obtain ⟨hi1, hi2⟩ := hi
      obtain ⟨rfl, hb⟩ := HB.out (by omega)
      obtain ⟨m0, _⟩ := HF.out i hi1 0 _ rfl
      obtain ⟨m1, _⟩ := HF.out i hi1 1 _ rfl
      obtain ⟨m2, _⟩ := HF.out i hi1 2 _ rfl
      obtain ⟨m3, _⟩ := HF.out i hi1 3 _ rfl
      simp only [List.length_cons, List.length_nil, Nat.reduceAdd, Nat.add_zero] at m0 m1 m2 m3
      generalize F i 0 = y0 at *
      generalize F i 1 = y1 at *
      generalize F i 2 = y2 at *
      generalize F i 3 = y3 at *
      have HS := Lib.hid hs
      have HS2 := Lib.hid (actL_sane hs (by omega) y0 y1 y2 y3)
      have HL2 := Lib.hid ((actL_len (l := l) y0 y1 y2 y3).trans hl)
      have HR0 : Hid (Sane (i : Int) (List.replicate K fm0)) := replicate_sane (by omega) k2
      generalize hg : actL l y0 y1 y2 y3 = l2 at *
      obtain ⟨mm, hg2⟩ : ∃ mm, actL (List.replicate K fm0) y0 y1 y2 y3 = mm := ⟨_, rfl⟩
      have HG := Lib.hid hg
      have HG2 := Lib.hid hg2
      have HP3 := Lib.hid P3
      have HD : Hid (Apart bp bf (wr.heap.size + 1) wr.heap.size) := by
        have := P3.lt; exact ⟨by omega, by omega, by omega⟩
      have M := Lib.hid (And.intro m0 (And.intro m1 (And.intro m2 m3)))
      have HFr := Lib.hid F3
      clear m0 m1 m2 m3 hs hg hg2 P3 F3
      go_wp2_with fail
      refine wp_region_seqB_lit (LeastS wr.heap.size bp bf (List.replicate K fm0) mm l l2 w) fol (by kernel_rfl)
        ⟨⟨fun _ => ⟨rfl, rfl⟩, fun h => by cases h⟩, HP3.out.fr (S := []) (Fr.drew (Fr.refl _ _)) (by simp) (by simp), HFr.out.drew⟩ ?_
      (repeat (apply SeqB.cons; (focus (intro bv wv hbv hdv hSv; obtain ⟨s1, s2, s4⟩ := hSv; have c0 := (s4.cell (off := off + i * 4) hb).trans M.out.1; have c1 := (s4.cell (off := off + i * 4 + 1) hb).trans M.out.2.1; have c2 := (s4.cell (off := off + i * 4 + 2) hb).trans M.out.2.2.1; have c3 := (s4.cell (off := off + i * 4 + 3) hb).trans M.out.2.2.2; go_wp2_with (first
        | (go_at_call 27; have hb2 : bv 2 = false := (by simpa using hbv); have hsz := s1.1 hb2; (with_reducible refine (rnewd (1 + n % 64) K wr.heap.size HKs.out k2 hsz.1).mono ?_); rintro e w5 ⟨rfl, r5, f5⟩; have hb7 := hsz.2; have s1 : NewStep wr.heap.size (List.replicate K fm0) mm (fun j => if j = 2 then true else bv j) w5 := ⟨fun h => (by simp at h), fun _ => (by simpa [hb7] using r5)⟩; have s2 := s2.fr f5 (by simp) (by simp); have s4 := s4.trans f5)
        | (go_at_call 28; have hb7 : bv 7 = false := (by simpa using hbv); have hb2 : bv 2 = true := hdv { on := 2, ground := .data } (by simp) rfl; have r4 := s1.2 hb2; rw [hb7] at r4 s2; (with_reducible refine (pstepf l2 mm y0 y1 y2 y3 HG.out HG2.out HS.out HR0.out (by omega) s2 r4 HD.out).mono ?_); rintro e w5 ⟨rfl, q5, r5, f5⟩; have s1 : NewStep wr.heap.size (List.replicate K fm0) mm (fun j => if j = 7 then true else bv j) w5 := ⟨fun h => (by simp [hb2] at h), fun _ => (by simpa using r5)⟩; have s2 := q5; have s4 := Fr.trans' s4 f5 (by have := HFr.out.size; have := B2.out; simp; omega))); exact StepPost.mk rfl ⟨by simpa [NewStep] using s1, by simpa using s2, s4⟩)); (try simp only [Act.put, List.setIfInBounds_toArray, List.set_cons_zero, List.set_cons_succ])))
      refine SeqB.nil ?_
      intro b5 w5 hb5 hS5
      obtain ⟨s1, P5, F5⟩ := hS5
      rw [hb5 7 (by decide)] at P5
      clear s1
      go_wp2
      go_roundw
      case rel => exact ⟨i + 1, l2, by go_num, by omega, by omega, HL2.out, by simpa using HS2.out, P5, F5⟩
      case measure => simp [intOf]; omega
    · have HP3 := Lib.hid P3
      have HS := Lib.hid hs
      have HL := Lib.hid hl
      clear P3 hs
      by_cases z1 : i < len
      all_goals
        first
        | (have z2 : ¬ i < 100 := fun z2 => hi ⟨z1, z2⟩
           clear hi)
        | clear hi
        go_wp2_with fail
        refine wp_name (fun w5 f5 => ?_)
        apply f5.use (k := wr.heap.size); (focus (repeat (first | (with_reducible assumption) | ((with_reducible refine heap_alloc_at ?_ _); first | (with_reducible rfl) | (focus (simp; done))) | (with_reducible apply heap_alloc_old) | ((with_reducible apply heap_set_other); (case hne => (first | (with_reducible assumption) | exact Nat.ne_of_lt (by with_reducible assumption) | exact Nat.ne_of_gt (by with_reducible assumption) | (focus (simp +arith; done)) | (simp; done)))) | (with_reducible apply heap_set_eq) | (with_reducible apply heap_drew_of) | (with_reducible apply heap_drewN_of)))); (focus (first | (simp; done) | (simp; assumption))); intro hg5 hc5 hz5 _ _ _ _ _; (try simp only [List.setIfInBounds_toArray, List.set_cons_zero, List.set_cons_succ] at hg5 hc5)
        have F5 : Fr [] wr w5 := Fr.trans (by repeat' (first | (with_reducible exact Fr.refl _ _) | (with_reducible assumption) | (with_reducible refine Fr.drew ?_) | (with_reducible refine Fr.drewN ?_ _) | (with_reducible refine Fr.alloc ?_ _) | ((with_reducible refine Fr.setNew ?_ _ ?_ _); rotate_left; (focus (first | (with_reducible assumption) | exact Nat.le_of_lt (by with_reducible assumption) | (focus (simp +arith; done)) | exact Nat.le_trans (by with_reducible assumption) (by simp +arith; done) | (simp; done)))) | ((with_reducible refine Fr.setOld ?_ _ ?_ _); rotate_left; (focus (simp; done))))) f5
        have P5 := HP3.out.fr F5 (by simp) (by simp)
        have F6 := F3.trans F5
        have B6 : Hid (w.heap.size ≤ wr.heap.size) := F3.size
        have NZ : Hid (bp < wr.heap.size ∧ bf < wr.heap.size) := HP3.out.lt
        clear f5 hc5 hz5 F5
        generalize hz : wr.heap.size = z at *
        clear hz
        go_loopw [11, 13] (fun u v w' => ∃ (c : Nat) (r : Option Nat), v = .int .i64 ((c : Int) - 1) ∧ c ≤ K ∧ u = .int .i64 (ixOf r) ∧ LeastR l c r ∧
          w'.heap[z]? = some (.cells #[.int .i64 (fmOf l r).s, .int .i64 (fmOf l r).b, .int .i64 (fmOf l r).g, .int .i64 (fmOf l r).p, .int .u64 (fmOf l r).v] 59) ∧ PoolAt pT w' bp bf l ∧ Fr [] w w') (fun _ v _ => (intOf v + 1).toNat)
        case atStart => exact ⟨K, none, by rw [HK.out], by omega, rfl, leastR_all HL.out, hg5, P5, F6⟩
        case round =>
          clear hg5 P5 F6 F3
          obtain ⟨c, r, rfl, c1, rfl, hr, s1, P7, F7⟩ := hrel
          have n7 := lt_of_heap s1
          by_cases hc : 0 < c
          · obtain ⟨q, rfl⟩ : ∃ q, c = q + 1 := ⟨c - 1, by omega⟩
            have hql : q < l.length := by have := HL.out; omega
            obtain ⟨f, hf⟩ : ∃ f, l[q]? = some f := ⟨l[q], by simp [hql]⟩
            have HI := Lib.hid hf
            have e1 : ((q + 1 : Nat) : Int) - 1 = (q : Int) := by omega
            rw [e1]
            by_cases hs0 : f.s = 0
            · have HR := Lib.hid (leastR_hit hf hs0)
              have HE : Hid (fmOf l (some q) = f) := by unfold Hid; simp [fmOf, hf]
              have hs1 : (f.s == 0) = true := by simpa using hs0
              clear hr hs0
              apply blk_use s1; intro hg1 hc1 hz1 _ _ _ _ _
              clear s1
              go_wp2_with (go_at_call 33; (with_reducible refine (pframe_ok bp bf l q f HI.out _ P7).mono ?_); rintro e w8 ⟨rfl, f8⟩; apply f8.use (k := z); (focus (repeat (first | (with_reducible assumption) | ((with_reducible refine heap_alloc_at ?_ _); first | (with_reducible rfl) | (focus (simp; done))) | (with_reducible apply heap_alloc_old) | ((with_reducible apply heap_set_other); (case hne => (first | (with_reducible assumption) | exact Nat.ne_of_lt (by with_reducible assumption) | exact Nat.ne_of_gt (by with_reducible assumption) | (focus (simp +arith; done)) | (simp; done)))) | (with_reducible apply heap_set_eq) | (with_reducible apply heap_drew_of) | (with_reducible apply heap_drewN_of)))); (focus (first | (simp; done) | (simp; assumption))); intro hg8 hc8 hz8 _ _ _ _ _; (try simp only [List.setIfInBounds_toArray, List.set_cons_zero, List.set_cons_succ] at hg8 hc8); have F8 := F7.trans f8; have P8 := P7.fr f8 (by simp) (by simp); clear P7 F7 f8)
              go_roundw
              case rel =>
                refine ⟨q, some q, by go_num, by omega, rfl, HR.out, ?_, ?_⟩
                · rw [HE.out]
                  (apply heap_eq_of; (focus (repeat (first | (with_reducible assumption) | ((with_reducible refine heap_alloc_at ?_ _); first | (with_reducible rfl) | (focus (simp; done))) | (with_reducible apply heap_alloc_old) | ((with_reducible apply heap_set_other); (case hne => (first | (with_reducible assumption) | exact Nat.ne_of_lt (by with_reducible assumption) | exact Nat.ne_of_gt (by with_reducible assumption) | (focus (simp +arith; done)) | (simp; done)))) | (with_reducible apply heap_set_eq) | (with_reducible apply heap_drew_of) | (with_reducible apply heap_drewN_of)))); (focus (first | (simp; done) | rfl)))
                · have B7 := B6.out
                  have N1 := NZ.out
                  exact ⟨P8.fr (S := [z]) (by repeat' (first | (with_reducible exact Fr.refl _ _) | (with_reducible assumption) | (with_reducible refine Fr.drew ?_) | (with_reducible refine Fr.drewN ?_ _) | (with_reducible refine Fr.alloc ?_ _) | ((with_reducible refine Fr.setNew ?_ _ ?_ _); rotate_left; (focus (first | (with_reducible assumption) | exact Nat.le_of_lt (by with_reducible assumption) | (focus (simp +arith; done)) | exact Nat.le_trans (by with_reducible assumption) (by simp +arith; done) | (simp; done)))) | ((with_reducible refine Fr.setOld ?_ _ ?_ _); rotate_left; (focus (simp; done))))) (by simp; omega) (by simp; omega), (by repeat' (first | (with_reducible exact Fr.refl _ _) | (with_reducible assumption) | (with_reducible refine Fr.drew ?_) | (with_reducible refine Fr.drewN ?_ _) | (with_reducible refine Fr.alloc ?_ _) | ((with_reducible refine Fr.setNew ?_ _ ?_ _); rotate_left; (focus (first | (with_reducible assumption) | exact Nat.le_of_lt (by with_reducible assumption) | (focus (simp +arith; done)) | exact Nat.le_trans (by with_reducible assumption) (by simp +arith; done) | (simp; done)))) | ((with_reducible refine Fr.setOld ?_ _ ?_ _); rotate_left; (focus (simp; done)))))⟩
              case measure => simp [intOf]
            · have HR := Lib.hid (leastR_miss hr hf hs0)
              have hs1 : (f.s == 0) = false := by simpa using hs0
              clear hr hs0
              apply blk_use s1; intro hg1 hc1 hz1 _ _ _ _ _
              clear s1
              go_wp2_with (go_at_call 33; (with_reducible refine (pframe_ok bp bf l q f HI.out _ P7).mono ?_); rintro e w8 ⟨rfl, f8⟩; apply f8.use (k := z); (focus (repeat (first | (with_reducible assumption) | ((with_reducible refine heap_alloc_at ?_ _); first | (with_reducible rfl) | (focus (simp; done))) | (with_reducible apply heap_alloc_old) | ((with_reducible apply heap_set_other); (case hne => (first | (with_reducible assumption) | exact Nat.ne_of_lt (by with_reducible assumption) | exact Nat.ne_of_gt (by with_reducible assumption) | (focus (simp +arith; done)) | (simp; done)))) | (with_reducible apply heap_set_eq) | (with_reducible apply heap_drew_of) | (with_reducible apply heap_drewN_of)))); (focus (first | (simp; done) | (simp; assumption))); intro hg8 hc8 hz8 _ _ _ _ _; (try simp only [List.setIfInBounds_toArray, List.set_cons_zero, List.set_cons_succ] at hg8 hc8); have F8 := F7.trans f8; have P8 := P7.fr f8 (by simp) (by simp); clear P7 F7 f8)
              go_roundw
              case rel =>
                refine ⟨q, r, by go_num, by omega, rfl, HR.out, ?_, P8.fr (S := []) (by repeat' (first | (with_reducible exact Fr.refl _ _) | (with_reducible assumption) | (with_reducible refine Fr.drew ?_) | (with_reducible refine Fr.drewN ?_ _) | (with_reducible refine Fr.alloc ?_ _) | ((with_reducible refine Fr.setNew ?_ _ ?_ _); rotate_left; (focus (first | (with_reducible assumption) | exact Nat.le_of_lt (by with_reducible assumption) | (focus (simp +arith; done)) | exact Nat.le_trans (by with_reducible assumption) (by simp +arith; done) | (simp; done)))) | ((with_reducible refine Fr.setOld ?_ _ ?_ _); rotate_left; (focus (simp; done))))) (by simp) (by simp), (by repeat' (first | (with_reducible exact Fr.refl _ _) | (with_reducible assumption) | (with_reducible refine Fr.drew ?_) | (with_reducible refine Fr.drewN ?_ _) | (with_reducible refine Fr.alloc ?_ _) | ((with_reducible refine Fr.setNew ?_ _ ?_ _); rotate_left; (focus (first | (with_reducible assumption) | exact Nat.le_of_lt (by with_reducible assumption) | (focus (simp +arith; done)) | exact Nat.le_trans (by with_reducible assumption) (by simp +arith; done) | (simp; done)))) | ((with_reducible refine Fr.setOld ?_ _ ?_ _); rotate_left; (focus (simp; done)))))⟩
                (apply heap_eq_of; (focus (repeat (first | (with_reducible assumption) | ((with_reducible refine heap_alloc_at ?_ _); first | (with_reducible rfl) | (focus (simp; done))) | (with_reducible apply heap_alloc_old) | ((with_reducible apply heap_set_other); (case hne => (first | (with_reducible assumption) | exact Nat.ne_of_lt (by with_reducible assumption) | exact Nat.ne_of_gt (by with_reducible assumption) | (focus (simp +arith; done)) | (simp; done)))) | (with_reducible apply heap_set_eq) | (with_reducible apply heap_drew_of) | (with_reducible apply heap_drewN_of)))); (focus (first | (simp; done) | rfl)))
              case measure => simp [intOf]
          · have hc' : c = 0 := by omega
            subst hc'
            have hx := leastR_zero hr
            have B7 := B6.out
            clear hr
            cases r with
            | none =>
              have HT := Lib.hid (takeL_none (b := blk) (by omega) hx)
              have HSN := Lib.hid HS.out
              clear hx
              simp only [ixOf]
              go_wp2_with (go_at_call 34; (with_reducible refine (ptakec blk 0 2 HT.out HSN.out (by omega) P7).mono ?_); rintro e w8 ⟨rfl, P8, f8⟩; have F8 : Fr [] w w8 := Fr.trans' F7 f8 (by have := B2.out; simp; omega))
              go_ret
              exact ⟨rfl, F8⟩
            | some q =>
              obtain ⟨f, hf, hs0⟩ := freeIx_spec hx
              have HT := Lib.hid (takeL_some (b := blk) (by omega) hx hf)
              have HSN := Lib.hid HS.out
              have hg := (HS.out.2 f (List.mem_of_getElem? hf)).g0
              have hg' := (HS.out.2 f (List.mem_of_getElem? hf)).gN
              have hE : fmOf l (some q) = f := by simp [fmOf, hf]
              rw [hE] at s1
              apply blk_use s1; intro hg1 hc1 hz1 _ _ _ _ _
              clear s1
              have HQ : Hid ((l.set q ⟨1, blk, f.g + 1, 0, 0⟩)[q]? = some ⟨1, blk, f.g + 1, 0, 0⟩) := by
                unfold Hid
                rw [List.getElem?_set]; simp [(List.getElem?_eq_some_iff.1 hf).1]
              have NZ2 : z ≠ bf := by have := NZ.out.2; omega
              clear hx hE hs0
              simp only [ixOf]
              go_wp2_with (first
                | (go_at_call 34; (with_reducible refine (ptakec blk q 0 HT.out HSN.out (by omega) P7).mono ?_); rintro e w8 ⟨rfl, P8, f8⟩; apply f8.use (k := z); (focus (repeat (first | (with_reducible assumption) | ((with_reducible refine heap_alloc_at ?_ _); first | (with_reducible rfl) | (focus (simp; done))) | (with_reducible apply heap_alloc_old) | ((with_reducible apply heap_set_other); (case hne => (first | (with_reducible assumption) | exact Nat.ne_of_lt (by with_reducible assumption) | exact Nat.ne_of_gt (by with_reducible assumption) | (focus (simp +arith; done)) | (simp; done)))) | (with_reducible apply heap_set_eq) | (with_reducible apply heap_drew_of) | (with_reducible apply heap_drewN_of)))); (focus (first | (simp; done) | (simp; assumption))); intro hg8 hc8 hz8 _ _ _ _ _; (try simp only [List.setIfInBounds_toArray, List.set_cons_zero, List.set_cons_succ] at hg8 hc8); have F8 : Fr [] w w8 := Fr.trans' F7 f8 (by have := B2.out; simp; omega); clear P7 F7 f8)
                | (go_at_call 33; (with_reducible refine (pframe_ok bp bf _ q _ HQ.out _ P8).mono ?_); rintro e w9 ⟨rfl, f9⟩; apply f9.use (k := z); (focus (repeat (first | (with_reducible assumption) | ((with_reducible refine heap_alloc_at ?_ _); first | (with_reducible rfl) | (focus (simp; done))) | (with_reducible apply heap_alloc_old) | ((with_reducible apply heap_set_other); (case hne => (first | (with_reducible assumption) | exact Nat.ne_of_lt (by with_reducible assumption) | exact Nat.ne_of_gt (by with_reducible assumption) | (focus (simp +arith; done)) | (simp; done)))) | (with_reducible apply heap_set_eq) | (with_reducible apply heap_drew_of) | (with_reducible apply heap_drewN_of)))); (focus (first | (simp; done) | (simp; assumption))); intro hg9 hc9 hz9 _ _ _ _ _; (try simp only [List.setIfInBounds_toArray, List.set_cons_zero, List.set_cons_succ] at hg9 hc9); have F9 := F8.trans f9; have P9 := P8.fr f9 (by simp) (by simp); clear P8 F8 f9))
              go_ret
              exact ⟨rfl, (by repeat' (first | (with_reducible exact Fr.refl _ _) | (with_reducible assumption) | (with_reducible refine Fr.drew ?_) | (with_reducible refine Fr.drewN ?_ _) | (with_reducible refine Fr.alloc ?_ _) | ((with_reducible refine Fr.setNew ?_ _ ?_ _); rotate_left; (focus (first | (with_reducible assumption) | exact Nat.le_of_lt (by with_reducible assumption) | (focus (simp +arith; done)) | exact Nat.le_trans (by with_reducible assumption) (by simp +arith; done) | (simp; done)))) | ((with_reducible refine Fr.setOld ?_ _ ?_ _); rotate_left; (focus (simp; done)))))⟩

theorem least_walk (n : Int) (A : Option Addr) (len cap : Nat) (blk : Int) (wn : (Lit.int .u8 n).wf = true) (hn : len ≤ maxLen) {w : World} (hA : IntsAt w [.i64, .i64, .i64, .u64] A len) (wb : (Lit.int .u16 blk).wf = true) :
    Calls Try.prog 11 #[.int .u8 n, .slice A len cap, .int .u16 blk] w fun e w' => e = .returned (.bool true) ∧ Fr [] w w' :=
  least_any n A len cap blk (u8_bounds wn).1 (u8_bounds wn).2 (u16_bounds wb).1 (u16_bounds wb).2 hn w hA

end Go.Proofs.Ytmhdnafdbgbmfaa
