/- StreamOldest answers true at every shape and script, and changes nothing that was there. -/
import Derived.Test.YtoapobhdpgcmbaaStrSame
namespace Go.Proofs.Ytoapobhdpgcmbaa
open Go.RowKit Go.Lib

theorem acc_new {P : Prm} {s : TS} (hs : SOk P s) (f c : Int) : ((accR P f c s).id ≤ s.la ∧ (accR P f c s).s.la = s.la) ∨ (¬ badA P f c ∧ (accR P f c s).id = s.la + 1 ∧ (accR P f c s).s.la = s.la + 1 ∧ ∃ z : Str, (accR P f c s).s.xs = begX P.most s.xs ++ [z] ∧ z.id = s.la + 1 ∧ z.nx = f + c) := by
  by_cases hb : badA P f c
  · left; unfold accR; rw [if_pos hb]; exact ⟨hs.la0, rfl⟩
  · have hw := accR_way s hb
    generalize accR P f c s = r at *
    cases hw with
    | old i x hx hn hf => left; exact ⟨(hs.idl x (List.mem_of_getElem? hx)).2, rfl⟩
    | new hf hl => right; exact ⟨hb, rfl, rfl, _, rfl, rfl, rfl⟩
    | no hf hl => left; exact ⟨hs.la0, rfl⟩
/-- Which one goes; -1: none. -/
def oldI (m : Int) (xs : List Str) : Int := if (xs.length : Int) = m then oldS xs else -1
/-- How many of the first k stay. -/
def jj (o : Int) (k : Nat) : Nat := if 0 ≤ o ∧ o < k then k - 1 else k
theorem beg_get {m : Int} {xs : List Str} (hm : 1 ≤ m) {k : Nat} (hk : k < xs.length) (hne : (k : Int) ≠ oldI m xs) : (begX m xs)[jj (oldI m xs) k]? = xs[k]? := by
  unfold begX oldI jj at *
  by_cases e : (xs.length : Int) = m
  · rw [if_pos e] at hne
    rw [if_pos e, if_pos e]
    obtain ⟨i, h1, h2⟩ := oldS_lt (xs := xs) (by rintro rfl; simp at e; omega)
    rw [h1] at hne ⊢
    rw [List.getElem?_eraseIdx, Int.toNat_natCast]
    by_cases h : i < k
    · rw [show (if (0 : Int) ≤ (i : Int) ∧ (i : Int) < (k : Int) then k - 1 else k) = k - 1 from if_pos (by omega), if_neg (by omega), show k - 1 + 1 = k by omega]
    · rw [show (if (0 : Int) ≤ (i : Int) ∧ (i : Int) < (k : Int) then k - 1 else k) = k from if_neg (by omega), if_pos (by omega)]
  · rw [if_neg e, if_neg e, if_neg (by omega)]
theorem beg_len {m : Int} {xs : List Str} (hm : 1 ≤ m) : (begX m xs).length = jj (oldI m xs) xs.length := by
  unfold begX oldI jj
  by_cases e : (xs.length : Int) = m
  · rw [if_pos e, if_pos e]
    obtain ⟨i, h1, h2⟩ := oldS_lt (xs := xs) (by rintro rfl; simp at e; omega)
    rw [h1, Int.toNat_natCast, List.length_eraseIdx, if_pos h2, if_pos (by omega)]
  · rw [if_neg e, if_neg e, if_neg (by omega)]
theorem oldI_ge (m : Int) (xs : List Str) : -1 ≤ oldI m xs := by
  unfold oldI oldS
  have := bestF_lt (fun _ => true) (fun a b => decide (a.us < b.us)) xs xs.length
  split <;> omega

set_option maxRecDepth 100000 in
set_option maxHeartbeats 8000000 in
theorem soldest_walk (h0 h1 h2 : Int) (A : Option Addr) (len cap : Nat) (wf0 : (Lit.int .u8 h0).wf = true) (wf1 : (Lit.int .u8 h1).wf = true) (wf2 : (Lit.int .u8 h2).wf = true) (hn : len ≤ maxLen) (w : World) (hA : IntsAt w [.i64, .i64, .i64] A len) :
    Calls Try.prog 6 #[.agg #[.int .u8 h0, .int .u8 h1, .int .u8 h2], .slice A len cap] w fun e w' => e = .returned (.bool true) ∧ Fr [] w w' := by
  obtain ⟨u0, u1⟩ := u8_bounds wf0
  obtain ⟨u2, u3⟩ := u8_bounds wf1
  obtain ⟨u4, u5⟩ := u8_bounds wf2
  obtain ⟨b0, off, F, hb, hF⟩ := hA
  have HB := Lib.hid hb
  have HF := Lib.hid hF
  have hn' : len ≤ 9223372036854775807 := by simpa [maxLen] using hn
  have fol : Try.prog.follows .mixedOrders = true := by kernel_rfl
  obtain ⟨m, hm⟩ : ∃ d : Int, d = 1 + h0 % 16 := ⟨_, rfl⟩
  obtain ⟨d, hd⟩ : ∃ d : Int, d = 1 + h1 % 16 := ⟨_, rfl⟩
  obtain ⟨n, hn2⟩ : ∃ d : Int, d = 1 + h2 := ⟨_, rfl⟩
  have HM := Lib.hid hm
  have HD := Lib.hid hd
  have HNB := Lib.hid hn2
  have hP : (⟨m, 8, 20, d, n⟩ : Prm).Ok := ⟨by simp only; omega, by simp only; omega, by simp only; omega, by simp only; omega, by simp only; omega⟩
  have HN := Lib.hid (fun w => snewM hP w)
  have HP := Lib.hid hP
  have n1 : 1 ≤ n := by omega
  have n2 : n ≤ 256 := by omega
  have m1 : 1 ≤ m := by omega
  have m2 : m ≤ 16 := by omega
  have heq := eq_str
  clear hb hF hn wf0 wf1 wf2 hm hd hn2 hP
  go_enter Try.func6, Try.ntmps6
  go_wp2_with fail
  with_reducible refine (sawake _).mono ?_
  rintro e w1 ⟨rfl, f1⟩
  apply f1.use (k := w.heap.size); (focus (repeat (first | (with_reducible assumption) | ((with_reducible refine heap_alloc_at ?_ _); first | (with_reducible rfl) | (focus (simp; done))) | (with_reducible apply heap_alloc_old) | ((with_reducible apply heap_set_other); (case hne => (first | (with_reducible assumption) | exact Nat.ne_of_lt (by with_reducible assumption) | exact Nat.ne_of_gt (by with_reducible assumption) | (focus (simp +arith; done)) | (simp; done)))) | (with_reducible apply heap_set_eq) | (with_reducible apply heap_drew_of) | (with_reducible apply heap_drewN_of)))); (focus (first | (simp; done) | (simp; assumption))); intro hg1 hc1 hz1 _ _ _ _ _; (try simp only [List.setIfInBounds_toArray, List.set_cons_zero, List.set_cons_succ] at hg1 hc1)
  have F1 : Fr [] w w1 := Fr.trans (by repeat' (first | (with_reducible exact Fr.refl _ _) | (with_reducible assumption) | (with_reducible refine Fr.drew ?_) | (with_reducible refine Fr.drewN ?_ _) | (with_reducible refine Fr.alloc ?_ _) | ((with_reducible refine Fr.setNew ?_ _ ?_ _); rotate_left; (focus (first | (with_reducible assumption) | exact Nat.le_of_lt (by with_reducible assumption) | (focus (simp +arith; done)) | exact Nat.le_trans (by with_reducible assumption) (by simp +arith; done) | (simp; done)))) | ((with_reducible refine Fr.setOld ?_ _ ?_ _); rotate_left; (focus (simp; done))))) f1
  clear f1
  go_wp2_with fail
  rw [← HM.out, ← HD.out, ← HNB.out]
  with_reducible refine (HN.out _).mono ?_
  rintro e w2 ⟨⟨t, rfl, T2⟩, f2⟩
  have F2 := F1.trans f2
  have HZ : Hid (w.heap.size ≤ w1.heap.size) := F1.size
  have z2 : w1.heap.size ≤ w2.heap.size := f2.size
  have T2 := Lib.hid T2
  clear F1 f2 hg1 hc1 hz1
  generalize w1.heap.size = B at *
  go_wp2_with fail
  go_loopw [8, 9] (fun g v wr => ∃ (i : Nat) (s : TS), v = .int .i64 i ∧ g = .int .i64 s.la ∧ i ≤ len ∧ i ≤ 150 ∧ s.us ≤ i ∧ TrkM wr B [] t ⟨m, 8, 20, d, n⟩ s ∧ Fr [] w wr ∧ B ≤ wr.heap.size) (fun _ v _ => 151 - (intOf v).toNat)
  case atStart => exact ⟨0, _, rfl, rfl, by omega, by omega, by simp, T2.out, F2, z2⟩
  case round =>
    clear T2 F2 z2
    obtain ⟨i, s, rfl, rfl, i1, i2, hus, hT, hFr, hz⟩ := hrel
    have HT := Lib.hid hT
    have hla : s.la ≤ s.us ∧ 0 ≤ s.la := ⟨hT.ok.lau, hT.ok.la0⟩
    obtain ⟨la1, la0⟩ := hla
    clear hT
    by_cases hi : i < len ∧ i < 150
    · obtain ⟨hi1, hi2⟩ := hi
      obtain ⟨rfl, hb⟩ := HB.out (by omega)
      obtain ⟨m0, m0w⟩ := HF.out i hi1 0 _ rfl
      obtain ⟨m1', m1w⟩ := HF.out i hi1 1 _ rfl
      obtain ⟨m2', m2w⟩ := HF.out i hi1 2 _ rfl
      simp only [List.length_cons, List.length_nil, Nat.reduceAdd, Nat.add_zero] at m0 m1' m2'
      generalize F i 0 = ck at *
      generalize F i 1 = ca at *
      generalize F i 2 = cb at *
      have c0 := (hFr.cell (off := off + i * 3) hb).trans m0
      have c1 := (hFr.cell (off := off + i * 3 + 1) hb).trans m1'
      have c2 := (hFr.cell (off := off + i * 3 + 2) hb).trans m2'
      clear m0 m1' m2' m0w m1w m2w
      have hus2 : s.us ≤ 150 := by omega
      go_upto_region 12 with fail
      have f1 : Fr [] wr (wr.alloc (.cells #[.int .i64 ck, .int .i64 ca, .int .i64 cb] 34)) := (by repeat' (first | (with_reducible exact Fr.refl _ _) | (with_reducible assumption) | (with_reducible refine Fr.drew ?_) | (with_reducible refine Fr.drewN ?_ _) | (with_reducible refine Fr.alloc ?_ _) | ((with_reducible refine Fr.setNew ?_ _ ?_ _); rotate_left; (focus (first | (with_reducible assumption) | exact Nat.le_of_lt (by with_reducible assumption) | (focus (simp +arith; done)) | exact Nat.le_trans (by with_reducible assumption) (by simp +arith; done) | (simp; done)))) | ((with_reducible refine Fr.setOld ?_ _ ?_ _); rotate_left; (focus (simp; done)))))
      have Q1 : (wr.alloc (.cells #[.int .i64 ck, .int .i64 ca, .int .i64 cb] 34)).heap[wr.heap.size]? = some (.cells #[.int .i64 ck, .int .i64 ca, .int .i64 cb] 34) := by (apply heap_eq_of; (focus (repeat (first | (with_reducible assumption) | ((with_reducible refine heap_alloc_at ?_ _); first | (with_reducible rfl) | (focus (simp; done))) | (with_reducible apply heap_alloc_old) | ((with_reducible apply heap_set_other); (case hne => (first | (with_reducible assumption) | exact Nat.ne_of_lt (by with_reducible assumption) | exact Nat.ne_of_gt (by with_reducible assumption) | (focus (simp +arith; done)) | (simp; done)))) | (with_reducible apply heap_set_eq) | (with_reducible apply heap_drew_of) | (with_reducible apply heap_drewN_of)))); (focus (first | (simp; done) | rfl)))
      have z9 : (wr.alloc (.cells #[.int .i64 ck, .int .i64 ca, .int .i64 cb] 34)).heap.size = wr.heap.size + 1 := by simp
      have T1 := Lib.hid (HT.out.turn (M' := [wr.heap.size]) f1 (by simp) (fun x hx => by simp at hx; subst hx; exact Or.inr ⟨Nat.le_refl _, by omega⟩))
      have F1 := hFr.trans f1
      have z1 := Nat.le_trans hz f1.size
      clear f1 z9 c0 c1 c2 HT hFr hz
      generalize wr.alloc (.cells #[.int .i64 ck, .int .i64 ca, .int .i64 cb] 34) = w1 at *
      generalize wr.heap.size = q at *
      apply blk_use Q1; intro hg1 hc1 hz1 _ _ _ _ _
      by_cases hk0 : ck = 0
      rotate_left
      ·
        --@late
        have HL := Lib.hid (slateM HP.out ca T1.out)
        generalize decide (0 ≤ idxS ca s.xs) = β at *
        go_wp2_with fail
        with_reducible refine HL.out.mono ?_
        rintro e w2 ⟨rfl, T2, K2⟩
        have F2 := K2.fr F1 HZ.out
        have z2 := Nat.le_trans z1 K2.size
        clear K2
        go_wp2_with fail
        go_roundw
        case rel => exact ⟨i + 1, tuneS true ca s, by go_num, rfl, by omega, by omega, by simp only [tuneS]; omega, T2.turn (M' := []) (Fr.refl [] _) (by simp) (by simp), F2, z2⟩
        case measure => simp [intOf]; omega
      · subst hk0
        have hsx : s.xs.length ≤ 16 := by have h8 := T1.out.ok.len; have h9 := HP.out.mo; simp only at h8 h9; omega
        go_wp2_with fail
        with_reducible refine (sstreamsM HP.out T1.out).mono ?_
        rintro e w3 ⟨⟨A1, c1, rfl, O1⟩, f3⟩
        obtain ⟨M3, hM3⟩ : ∃ M3, M3 = q :: (Value.slice A1 s.xs.length c1).ownBlock.toList := ⟨_, rfl⟩
        have T3 := Lib.hid (T1.out.turn (M' := M3) f3 (by simp) (fun x hx => by
          rw [hM3] at hx
          rcases List.mem_cons.1 hx with rfl | hx
          · exact Or.inl (by simp)
          · exact Or.inr ⟨O1.ge x hx, O1.lt x hx⟩))
        have S3 := Lib.hid (O1.sl (M := []) (by simp))
        have MQ : Hid (q ∈ M3) := by rw [hM3]; exact List.mem_cons_self
        have MS : Hid (∀ x ∈ (Value.slice A1 s.xs.length c1).ownBlock.toList, x ∈ M3) := fun x hx => by rw [hM3]; exact List.mem_cons_of_mem _ hx
        have Q3 := f3.heap Q1 (by simp)
        have F3 := F1.trans f3
        have z3 := Nat.le_trans z1 f3.size
        clear T1 Q1 F1 z1 f3 O1 hM3 hg1 hc1 hz1
        apply blk_use Q3; intro hg3 hc3 hz3 _ _ _ _ _
        have HC := Lib.hid (saccessM HP.out ca cb (by omega) z3 T3.out)
        have HF2 := Lib.hid (acc_new T3.out.ok ca cb)
        have hu2 := acc_us ⟨m, 8, 20, d, n⟩ ca cb s
        generalize accR ⟨m, 8, 20, d, n⟩ ca cb s = ac at *
        obtain ⟨ri, rf, rn, rc, s2⟩ := ac
        simp only at HC HF2 hu2
        go_wp2_with fail
        with_reducible refine HC.out.mono ?_
        rintro e w4 ⟨rfl, T4, K4⟩
        have Q4 := K4.heap Q3 MQ.out
        have S4 := Lib.hid (K4.sl S3.out MS.out)
        have F4 := K4.fr F3 HZ.out
        have z4 := Nat.le_trans z3 K4.size
        have T4 := Lib.hid T4
        clear K4 T3 Q3 S3 F3 z3 hg3 hc3 hz3 HC
        go_upto_if 77 with fail
        have f5 : Fr [] w4 (w4.alloc (.cells #[.int .i64 ri, .int .i64 rf, .int .i64 rn] 38)) := (by repeat' (first | (with_reducible exact Fr.refl _ _) | (with_reducible assumption) | (with_reducible refine Fr.drew ?_) | (with_reducible refine Fr.drewN ?_ _) | (with_reducible refine Fr.alloc ?_ _) | ((with_reducible refine Fr.setNew ?_ _ ?_ _); rotate_left; (focus (first | (with_reducible assumption) | exact Nat.le_of_lt (by with_reducible assumption) | (focus (simp +arith; done)) | exact Nat.le_trans (by with_reducible assumption) (by simp +arith; done) | (simp; done)))) | ((with_reducible refine Fr.setOld ?_ _ ?_ _); rotate_left; (focus (simp; done)))))
        have T5 := Lib.hid (T4.out.fr0 f5)
        have S5 := Lib.hid (S4.out.fr f5 (by simp))
        have Q5 := f5.heap Q4 (by simp)
        have F5 := F4.trans f5
        have z5 := Nat.le_trans z4 f5.size
        have R5 : (w4.alloc (.cells #[.int .i64 ri, .int .i64 rf, .int .i64 rn] 38)).heap[w4.heap.size]? = some (.cells #[.int .i64 ri, .int .i64 rf, .int .i64 rn] 38) := by (apply heap_eq_of; (focus (repeat (first | (with_reducible assumption) | ((with_reducible refine heap_alloc_at ?_ _); first | (with_reducible rfl) | (focus (simp; done))) | (with_reducible apply heap_alloc_old) | ((with_reducible apply heap_set_other); (case hne => (first | (with_reducible assumption) | exact Nat.ne_of_lt (by with_reducible assumption) | exact Nat.ne_of_gt (by with_reducible assumption) | (focus (simp +arith; done)) | (simp; done)))) | (with_reducible apply heap_set_eq) | (with_reducible apply heap_drew_of) | (with_reducible apply heap_drewN_of)))); (focus (first | (simp; done) | rfl)))
        clear f5 T4 S4 Q4 F4 z4
        generalize w4.alloc (.cells #[.int .i64 ri, .int .i64 rf, .int .i64 rn] 38) = w5 at *
        generalize w4.heap.size = r at *
        apply blk_use R5; intro hg6 hc6 hz6 _ _ _ _ _
        rcases HF2.out with ⟨hri, hla2⟩ | ⟨hbad, rfl, hla2, z, hxs, hz1, hz2⟩
        ·
          --@same
          go_wp2_with fail
          go_roundw
          case rel => exact ⟨i + 1, s2, by go_num, by rw [hla2], by omega, by omega, by omega, T5.out.turn (M' := []) (Fr.refl [] _) (by simp) (by simp), F5, z5⟩
          case measure => simp [intOf]; omega
        · have hb' : ¬ (cb < 1 ∨ 8 < cb ∨ ca < 0 ∨ n - cb < ca) := hbad
          have hb1 : 0 ≤ ca := by omega
          have hb2 : ca ≤ 256 := by omega
          have hb3 : 1 ≤ cb := by omega
          have hb4 : cb ≤ 8 := by omega
          have HXS := Lib.hid hxs
          have HZ1 := Lib.hid hz1
          have HZ2 := Lib.hid hz2
          have HLA := Lib.hid hla2
          have la3 : s.la ≤ 1000 := by omega
          clear hbad hb' hxs hz1 hz2 hla2 HF2
          go_upto_block 2 with fail
          go_cut [14] (fun v14 wc => v14 = .int .i64 (oldI m s.xs) ∧ Fr [] w5 wc)
          case first =>
            clear Q5 F5 z5 T5
            by_cases hm : (s.xs.length : Int) = m
            · have ho : oldI m s.xs = oldS s.xs := by unfold oldI; rw [if_pos hm]
              have HO := Lib.hid ho
              subst hm
              clear ho
              go_wp2_with fail
              go_loopw [14, 15] (fun u y wr => ∃ k : Nat, y = .int .i64 k ∧ u = .int .i64 (bestF (fun _ => true) (fun a b => decide (a.us < b.us)) s.xs k) ∧ k ≤ s.xs.length ∧ Fr [] w5 wr) (fun _ y _ => s.xs.length - (intOf y).toNat)
              case atStart => exact ⟨0, rfl, rfl, by omega, Fr.refl _ _⟩
              case round =>
                obtain ⟨k, rfl, rfl, k1, G⟩ := hrel
                have HG := Lib.hid G
                by_cases hlt : k < s.xs.length
                · obtain ⟨_, _, he, _, hcell⟩ := S5.out
                  injection he with he1 _ he3
                  subst he1 he3
                  rcases hcell with hz | ⟨b9, o9, rfl, hb9, hM9, hcl⟩
                  · rw [hz] at hlt; simp at hlt
                  have hx : s.xs[k]? = some s.xs[k] := List.getElem?_eq_getElem hlt
                  have d5 := (G.cell (off := o9 + k * 6 + 5) hb9).trans (esat hcl hx).2.2.2.2.2
                  have hbr := Nat.lt_of_lt_of_le hb9 G.size
                  have hbl := bestF_lt (fun _ => true) (fun a b => decide (a.us < b.us)) s.xs k
                  generalize s.xs[k] = X at *
                  have HXX := Lib.hid hx
                  generalize hBB : bestF (fun _ => true) (fun a b => decide (a.us < b.us)) s.xs k = BB at *
                  have HBB := Lib.hid hBB
                  clear hx hBB
                  rcases Int.lt_or_le BB 0 with hneg | hpos
                  ·
                    --@best0
                    obtain ⟨hbl1, hbl2⟩ := hbl
                    clear hcl hM9 hb9 G
                    go_wp2_with fail
                    refine wp_region_seqV_lit (fun _ _ w' => Fr [] wr w') fol (by kernel_rfl) (Fr.refl _ _).drew ?_
                    (iterate 15 (first | (apply SeqV.cons; (focus (intro Vv bv wv hbv hdv hsh hSv; skip; go_wp2_with (fail); exact StepPost.mk rfl (Fr.trans (S := []) hSv (by repeat' (first | (with_reducible exact Fr.refl _ _) | (with_reducible assumption) | (with_reducible refine Fr.drew ?_) | (with_reducible refine Fr.drewN ?_ _) | (with_reducible refine Fr.alloc ?_ _) | ((with_reducible refine Fr.setNew ?_ _ ?_ _); rotate_left; (focus (first | (with_reducible assumption) | exact Nat.le_of_lt (by with_reducible assumption) | (focus (simp +arith; done)) | exact Nat.le_trans (by with_reducible assumption) (by simp +arith; done) | (simp; done)))) | ((with_reducible refine Fr.setOld ?_ _ ?_ _); rotate_left; (focus (simp; done)))))))); (try simp only [Act.put, List.setIfInBounds_toArray, List.set_cons_zero, List.set_cons_succ, Nat.reduceAdd, Nat.zero_add])) | (apply SeqV.cons (v := undef); (focus (intro Vv bv wv hbv hdv hsh hSv; skip; go_wp2_with (fail); exact StepPost.mk rfl (Fr.trans (S := []) hSv (by repeat' (first | (with_reducible exact Fr.refl _ _) | (with_reducible assumption) | (with_reducible refine Fr.drew ?_) | (with_reducible refine Fr.drewN ?_ _) | (with_reducible refine Fr.alloc ?_ _) | ((with_reducible refine Fr.setNew ?_ _ ?_ _); rotate_left; (focus (first | (with_reducible assumption) | exact Nat.le_of_lt (by with_reducible assumption) | (focus (simp +arith; done)) | exact Nat.le_trans (by with_reducible assumption) (by simp +arith; done) | (simp; done)))) | ((with_reducible refine Fr.setOld ?_ _ ?_ _); rotate_left; (focus (simp; done)))))))); (try simp only [Act.put, List.setIfInBounds_toArray, List.set_cons_zero, List.set_cons_succ, Nat.reduceAdd, Nat.zero_add]))))
                    refine SeqV.nil ?_
                    intro Vv bv w6 hb6 hSv
                    have G6 := HG.out.trans hSv
                    clear hb6 hSv
                    go_wp2_with fail
                    go_roundw
                    case rel => exact ⟨k + 1, by go_num, by rw [bestF_take HXX.out HBB.out rfl (Or.inl hneg)], by omega, G6⟩
                    case measure => simp [intOf]; omega
                  · obtain ⟨mm, rfl⟩ : ∃ mm : Nat, BB = mm := ⟨BB.toNat, by omega⟩
                    have hmm : mm < s.xs.length := by omega
                    have hy : s.xs[mm]? = some s.xs[mm] := List.getElem?_eq_getElem hmm
                    have e5 := (G.cell (off := o9 + mm * 6 + 5) hb9).trans (esat hcl hy).2.2.2.2.2
                    generalize s.xs[mm] = Y at *
                    have HYY := Lib.hid hy
                    clear hy hcl hM9 hb9 G hbl
                    have HU : Hid (decide (X.us < Y.us) = true ∨ decide (X.us < Y.us) = false) := by unfold Hid; cases decide (X.us < Y.us) <;> simp
                    --@best1
                    rcases HU.out with huu | huu
                    all_goals
                      have HUU := Lib.hid huu
                      go_wp2_with fail
                      refine wp_region_seqV_lit (fun _ _ w' => Fr [] wr w') fol (by kernel_rfl) (Fr.refl _ _).drew ?_
                      (iterate 15 (first | (apply SeqV.cons; (focus (intro Vv bv wv hbv hdv hsh hSv; (have z5 := (hSv.cell (off := o9 + k * 6 + 5) hbr).trans d5); (have y5 := (hSv.cell (off := o9 + mm * 6 + 5) hbr).trans e5); go_wp2_with (fail); exact StepPost.mk rfl (Fr.trans (S := []) hSv (by repeat' (first | (with_reducible exact Fr.refl _ _) | (with_reducible assumption) | (with_reducible refine Fr.drew ?_) | (with_reducible refine Fr.drewN ?_ _) | (with_reducible refine Fr.alloc ?_ _) | ((with_reducible refine Fr.setNew ?_ _ ?_ _); rotate_left; (focus (first | (with_reducible assumption) | exact Nat.le_of_lt (by with_reducible assumption) | (focus (simp +arith; done)) | exact Nat.le_trans (by with_reducible assumption) (by simp +arith; done) | (simp; done)))) | ((with_reducible refine Fr.setOld ?_ _ ?_ _); rotate_left; (focus (simp; done)))))))); (try simp only [Act.put, List.setIfInBounds_toArray, List.set_cons_zero, List.set_cons_succ, Nat.reduceAdd, Nat.zero_add])) | (apply SeqV.cons (v := undef); (focus (intro Vv bv wv hbv hdv hsh hSv; (have z5 := (hSv.cell (off := o9 + k * 6 + 5) hbr).trans d5); (have y5 := (hSv.cell (off := o9 + mm * 6 + 5) hbr).trans e5); go_wp2_with (fail); exact StepPost.mk rfl (Fr.trans (S := []) hSv (by repeat' (first | (with_reducible exact Fr.refl _ _) | (with_reducible assumption) | (with_reducible refine Fr.drew ?_) | (with_reducible refine Fr.drewN ?_ _) | (with_reducible refine Fr.alloc ?_ _) | ((with_reducible refine Fr.setNew ?_ _ ?_ _); rotate_left; (focus (first | (with_reducible assumption) | exact Nat.le_of_lt (by with_reducible assumption) | (focus (simp +arith; done)) | exact Nat.le_trans (by with_reducible assumption) (by simp +arith; done) | (simp; done)))) | ((with_reducible refine Fr.setOld ?_ _ ?_ _); rotate_left; (focus (simp; done)))))))); (try simp only [Act.put, List.setIfInBounds_toArray, List.set_cons_zero, List.set_cons_succ, Nat.reduceAdd, Nat.zero_add]))))
                      refine SeqV.nil ?_
                      intro Vv bv w6 hb6 hSv
                      have G6 := HG.out.trans hSv
                      clear hb6 hSv
                      go_wp2_with fail
                      go_roundw
                      case measure => simp [intOf]; omega
                    · case rel => exact ⟨k + 1, by go_num, by rw [bestF_take HXX.out HBB.out rfl (Or.inr ⟨Y, by rw [Int.toNat_natCast]; exact HYY.out, HUU.out⟩)], by omega, G6⟩
                    · case rel => exact ⟨k + 1, by go_num, by rw [bestF_not HXX.out HBB.out HYY.out HUU.out], by omega, G6⟩
                ·
                  --@bestE
                  obtain rfl : k = s.xs.length := by omega
                  go_wp2_with fail
                  go_meet
                  exact ⟨by rw [HO.out]; rfl, HG.out⟩
            ·
              --@bestN
              have ho : oldI m s.xs = -1 := by unfold oldI; rw [if_neg hm]
              have HO := Lib.hid ho
              have hmq : ((s.xs.length : Int) == m) = false := by simpa using hm
              clear ho hm
              go_wp2_with fail
              go_loopw [14, 15] (fun u y wr => y = .int .i64 0 ∧ u = .int .i64 (-1) ∧ Fr [] w5 wr) (fun _ _ _ => 0)
              case atStart => exact ⟨rfl, rfl, Fr.refl _ _⟩
              case round =>
                obtain ⟨rfl, rfl, G⟩ := hrel
                rcases Nat.eq_zero_or_pos s.xs.length with hz | hz
                all_goals
                  go_wp2_with fail
                  go_meet
                  exact ⟨by rw [HO.out], G⟩
          case rest =>
            obtain ⟨rfl, G6⟩ := hcut
            have T6 := Lib.hid (T5.out.fr0 G6)
            have S6 := Lib.hid (S5.out.fr G6 (by simp))
            have Q6 := G6.heap Q5 (by simp)
            have F6 := F5.trans G6
            have z6 := Nat.le_trans z5 G6.size
            clear T5 S5 Q5 F5 z5 G6 R5 hg6 hc6 hz6
            obtain ⟨o, ho⟩ : ∃ o, o = oldI m s.xs := ⟨_, rfl⟩
            have ho1 : -1 ≤ o := by rw [ho]; exact oldI_ge _ _
            have FL : Hid (s2.xs.length = jj o s.xs.length + 1 ∧ s2.xs[jj o s.xs.length]? = some z) := by
              unfold Hid; rw [HXS.out, ho]
              have := beg_len (xs := s.xs) m1
              try simp only at *
              refine ⟨by rw [List.length_append, this]; rfl, ?_⟩
              rw [List.getElem?_append_right (by omega), this]; simp
            have FG : Hid (∀ k, k < s.xs.length → (k : Int) ≠ o → s2.xs[jj o k]? = s.xs[k]?) := by
              intro k hk hne
              rw [HXS.out, ho]
              rw [ho] at hne
              have h9 := beg_get m1 hk hne
              rw [← h9]
              try simp only at *
              refine List.getElem?_append_left ?_
              rw [List.getElem?_eq_getElem hk] at h9
              exact (List.getElem?_eq_some_iff.1 h9).1
            rw [← ho]
            clear ho HXS
            have hs2 : s2.xs.length ≤ 16 := by have h8 := T6.out.ok.len; simp only at h8; omega
            --@behind
            go_wp2_with fail
            with_reducible refine (sstreamsM HP.out T6.out).mono ?_
            rintro e w7 ⟨⟨A2, c2, rfl, O2⟩, f7⟩
            have T7 := Lib.hid (T6.out.fr0 f7)
            have S7 := Lib.hid (S6.out.fr f7 (by simp))
            have N7 := Lib.hid (O2.sl (M := []) (by simp))
            have Q7 := f7.heap Q6 (by simp)
            have F7 := F6.trans f7
            have z7 := Nat.le_trans z6 f7.size
            clear T6 S6 Q6 F6 z6 f7 O2
            obtain ⟨_, _, he, _, hN⟩ := N7.out
            injection he with he1 _ he3
            subst he1 he3
            have HNN := Lib.hid hN
            obtain ⟨_, _, he, _, hS⟩ := S7.out
            injection he with he1 _ he3
            subst he1 he3
            have HSS := Lib.hid hS
            clear hN hS
            go_wp2_with fail
            go_loopw [17, 18] (fun u y wr => ∃ k : Nat, y = .int .i64 k ∧ u = .int .i64 (jj o k) ∧ k ≤ s.xs.length ∧ Fr [] w7 wr) (fun _ y _ => s.xs.length - (intOf y).toNat)
            case atStart => exact ⟨0, rfl, by unfold jj; rw [if_neg (by omega)]; rfl, by omega, Fr.refl _ _⟩
            case round =>
              obtain ⟨k, rfl, rfl, k1, G⟩ := hrel
              have HG := Lib.hid G
              by_cases hlt : k < s.xs.length
              · by_cases hko : (k : Int) = o
                ·
                  --@hit
                  subst hko
                  have hj : jj (k : Int) (k + 1) = jj (k : Int) k := by unfold jj; rw [if_pos (by omega), if_neg (by omega)]; omega
                  have HJ := Lib.hid hj
                  clear hj
                  go_wp2_with fail
                  go_roundw
                  case rel => exact ⟨k + 1, by go_num, by rw [HJ.out], by omega, HG.out⟩
                  case measure => simp [intOf]; omega
                ·
                  --@other
                  have hj1 : jj o (k + 1) = jj o k + 1 := by unfold jj; split <;> split <;> omega
                  have HJ1 := Lib.hid hj1
                  have hkq : ((k : Int) == o) = false := by simpa using hko
                  have hxk : s.xs[k]? = some s.xs[k] := List.getElem?_eq_getElem hlt
                  have hyk := (FG.out k hlt hko).trans hxk
                  have hjl : jj o k < s2.xs.length := (List.getElem?_eq_some_iff.1 hyk).1
                  rcases HSS.out with hz | ⟨b9, o9, rfl, hb9, hM9, hcl⟩
                  · rw [hz] at hlt; simp at hlt
                  rcases HNN.out with hz | ⟨b8, o8, rfl, hb8, hM8, hcl8⟩
                  · rw [hz] at hjl; simp at hjl
                  obtain ⟨x0, x1, x2, x3, x4, x5⟩ := esat hcl hxk
                  obtain ⟨y0, y1, y2, y3, y4, y5⟩ := esat hcl8 hyk
                  generalize s.xs[k] = X at *
                  clear hxk hyk hcl hcl8 hj1 hko
                  generalize jj o k = j at *
                  have d0 := (G.cell (off := o9 + k * 6) hb9).trans x0
                  have d1 := (G.cell (off := o9 + k * 6 + 1) hb9).trans x1
                  have d2 := (G.cell (off := o9 + k * 6 + 2) hb9).trans x2
                  have d3 := (G.cell (off := o9 + k * 6 + 3) hb9).trans x3
                  have d4 := (G.cell (off := o9 + k * 6 + 4) hb9).trans x4
                  have d5 := (G.cell (off := o9 + k * 6 + 5) hb9).trans x5
                  have e0 := (G.cell (off := o8 + j * 6) hb8).trans y0
                  have e1 := (G.cell (off := o8 + j * 6 + 1) hb8).trans y1
                  have e2 := (G.cell (off := o8 + j * 6 + 2) hb8).trans y2
                  have e3 := (G.cell (off := o8 + j * 6 + 3) hb8).trans y3
                  have e4 := (G.cell (off := o8 + j * 6 + 4) hb8).trans y4
                  have e5 := (G.cell (off := o8 + j * 6 + 5) hb8).trans y5
                  have hbr := Nat.lt_of_lt_of_le hb9 G.size
                  have hbr8 := Nat.lt_of_lt_of_le hb8 G.size
                  clear x0 x1 x2 x3 x4 x5 y0 y1 y2 y3 y4 y5 hb9 hb8 hM9 hM8 G
                  have hjl2 : ¬ s2.xs.length ≤ j := by omega
                  go_wp2_with fail
                  refine wp_region_seqV_lit (fun _ _ w' => Fr [] wr w') fol (by kernel_rfl) (Fr.refl _ _).drew ?_
                  (iterate 15 (first | (apply SeqV.cons; (focus (intro Vv bv wv hbv hdv hsh hSv; (have r0 := (hSv.cell (off := o9 + k * 6) hbr).trans d0); (have r1 := (hSv.cell (off := o9 + k * 6 + 1) hbr).trans d1); (have r2 := (hSv.cell (off := o9 + k * 6 + 2) hbr).trans d2); (have r3 := (hSv.cell (off := o9 + k * 6 + 3) hbr).trans d3); (have r4 := (hSv.cell (off := o9 + k * 6 + 4) hbr).trans d4); (have r5 := (hSv.cell (off := o9 + k * 6 + 5) hbr).trans d5); (have t0 := (hSv.cell (off := o8 + j * 6) hbr8).trans e0); (have t1 := (hSv.cell (off := o8 + j * 6 + 1) hbr8).trans e1); (have t2 := (hSv.cell (off := o8 + j * 6 + 2) hbr8).trans e2); (have t3 := (hSv.cell (off := o8 + j * 6 + 3) hbr8).trans e3); (have t4 := (hSv.cell (off := o8 + j * 6 + 4) hbr8).trans e4); (have t5 := (hSv.cell (off := o8 + j * 6 + 5) hbr8).trans e5); go_wp2_with (fail); exact StepPost.mk rfl (Fr.trans (S := []) hSv (by repeat' (first | (with_reducible exact Fr.refl _ _) | (with_reducible assumption) | (with_reducible refine Fr.drew ?_) | (with_reducible refine Fr.drewN ?_ _) | (with_reducible refine Fr.alloc ?_ _) | ((with_reducible refine Fr.setNew ?_ _ ?_ _); rotate_left; (focus (first | (with_reducible assumption) | exact Nat.le_of_lt (by with_reducible assumption) | (focus (simp +arith; done)) | exact Nat.le_trans (by with_reducible assumption) (by simp +arith; done) | (simp; done)))) | ((with_reducible refine Fr.setOld ?_ _ ?_ _); rotate_left; (focus (simp; done)))))))); (try simp only [Act.put, List.setIfInBounds_toArray, List.set_cons_zero, List.set_cons_succ, Nat.reduceAdd, Nat.zero_add])) | (apply SeqV.cons (v := undef); (focus (intro Vv bv wv hbv hdv hsh hSv; (have r0 := (hSv.cell (off := o9 + k * 6) hbr).trans d0); (have r1 := (hSv.cell (off := o9 + k * 6 + 1) hbr).trans d1); (have r2 := (hSv.cell (off := o9 + k * 6 + 2) hbr).trans d2); (have r3 := (hSv.cell (off := o9 + k * 6 + 3) hbr).trans d3); (have r4 := (hSv.cell (off := o9 + k * 6 + 4) hbr).trans d4); (have r5 := (hSv.cell (off := o9 + k * 6 + 5) hbr).trans d5); (have t0 := (hSv.cell (off := o8 + j * 6) hbr8).trans e0); (have t1 := (hSv.cell (off := o8 + j * 6 + 1) hbr8).trans e1); (have t2 := (hSv.cell (off := o8 + j * 6 + 2) hbr8).trans e2); (have t3 := (hSv.cell (off := o8 + j * 6 + 3) hbr8).trans e3); (have t4 := (hSv.cell (off := o8 + j * 6 + 4) hbr8).trans e4); (have t5 := (hSv.cell (off := o8 + j * 6 + 5) hbr8).trans e5); go_wp2_with (fail); exact StepPost.mk rfl (Fr.trans (S := []) hSv (by repeat' (first | (with_reducible exact Fr.refl _ _) | (with_reducible assumption) | (with_reducible refine Fr.drew ?_) | (with_reducible refine Fr.drewN ?_ _) | (with_reducible refine Fr.alloc ?_ _) | ((with_reducible refine Fr.setNew ?_ _ ?_ _); rotate_left; (focus (first | (with_reducible assumption) | exact Nat.le_of_lt (by with_reducible assumption) | (focus (simp +arith; done)) | exact Nat.le_trans (by with_reducible assumption) (by simp +arith; done) | (simp; done)))) | ((with_reducible refine Fr.setOld ?_ _ ?_ _); rotate_left; (focus (simp; done)))))))); (try simp only [Act.put, List.setIfInBounds_toArray, List.set_cons_zero, List.set_cons_succ, Nat.reduceAdd, Nat.zero_add]))))
                  refine SeqV.nil ?_
                  intro Vv bv w8 hb8 hSv
                  have G8 := HG.out.trans hSv
                  clear hb8 hSv
                  go_wp2_with fail
                  go_roundw
                  case rel => exact ⟨k + 1, by go_num, by rw [HJ1.out]; go_num, by omega, G8⟩
                  case measure => simp [intOf]; omega
              ·
                --@end
                obtain rfl : k = s.xs.length := by omega
                obtain ⟨hl1, hyk⟩ := FL.out
                rcases HNN.out with hz | ⟨b8, o8, rfl, hb8, hM8, hcl8⟩
                · rw [hz] at hl1; simp at hl1
                obtain ⟨y0, y1, _⟩ := esat hcl8 hyk
                rw [HZ1.out] at y0
                rw [HZ2.out] at y1
                generalize jj o s.xs.length = j at *
                have e0 := (G.cell (off := o8 + j * 6) hb8).trans y0
                have e1 := (G.cell (off := o8 + j * 6 + 1) hb8).trans y1
                have hbr8 := Nat.lt_of_lt_of_le hb8 G.size
                have Q8 := G.heap Q7 (by simp)
                have hl2 : (s2.xs.length : Int) - 1 = (j : Int) := by omega
                have hl3 : (j : Int) < (s2.xs.length : Int) := by omega
                have hl4 : (1 : Int) ≤ (s2.xs.length : Int) := by omega
                clear hl1 hyk hcl8 y0 y1 hb8 hM8 G
                go_wp2_with fail
                refine wp_region_seqV_lit (fun _ _ w' => Fr [] wr w') fol (by kernel_rfl) (Fr.refl _ _).drew ?_
                (iterate 28 (first | (apply SeqV.cons; (focus (intro Vv bv wv hbv hdv hsh hSv; (have t0 := (hSv.cell (off := o8 + j * 6) hbr8).trans e0); (have t1 := (hSv.cell (off := o8 + j * 6 + 1) hbr8).trans e1); (have x6 := hSv.heap Q8 (by simp)); apply blk_use x6; intro hg21 hc21 hz21 _ _ _ _ _; go_wp2_with (fail); exact StepPost.mk rfl (Fr.trans (S := []) hSv (by repeat' (first | (with_reducible exact Fr.refl _ _) | (with_reducible assumption) | (with_reducible refine Fr.drew ?_) | (with_reducible refine Fr.drewN ?_ _) | (with_reducible refine Fr.alloc ?_ _) | ((with_reducible refine Fr.setNew ?_ _ ?_ _); rotate_left; (focus (first | (with_reducible assumption) | exact Nat.le_of_lt (by with_reducible assumption) | (focus (simp +arith; done)) | exact Nat.le_trans (by with_reducible assumption) (by simp +arith; done) | (simp; done)))) | ((with_reducible refine Fr.setOld ?_ _ ?_ _); rotate_left; (focus (simp; done)))))))); (try simp only [Act.put, List.setIfInBounds_toArray, List.set_cons_zero, List.set_cons_succ, Nat.reduceAdd, Nat.zero_add])) | (apply SeqV.cons (v := undef); (focus (intro Vv bv wv hbv hdv hsh hSv; (have t0 := (hSv.cell (off := o8 + j * 6) hbr8).trans e0); (have t1 := (hSv.cell (off := o8 + j * 6 + 1) hbr8).trans e1); (have x6 := hSv.heap Q8 (by simp)); apply blk_use x6; intro hg21 hc21 hz21 _ _ _ _ _; go_wp2_with (fail); exact StepPost.mk rfl (Fr.trans (S := []) hSv (by repeat' (first | (with_reducible exact Fr.refl _ _) | (with_reducible assumption) | (with_reducible refine Fr.drew ?_) | (with_reducible refine Fr.drewN ?_ _) | (with_reducible refine Fr.alloc ?_ _) | ((with_reducible refine Fr.setNew ?_ _ ?_ _); rotate_left; (focus (first | (with_reducible assumption) | exact Nat.le_of_lt (by with_reducible assumption) | (focus (simp +arith; done)) | exact Nat.le_trans (by with_reducible assumption) (by simp +arith; done) | (simp; done)))) | ((with_reducible refine Fr.setOld ?_ _ ?_ _); rotate_left; (focus (simp; done)))))))); (try simp only [Act.put, List.setIfInBounds_toArray, List.set_cons_zero, List.set_cons_succ, Nat.reduceAdd, Nat.zero_add]))))
                refine SeqV.nil ?_
                intro Vv bv w8 hb8 hSv
                have G8 := HG.out.trans hSv
                clear hb8 hSv
                go_wp2_with fail
                go_roundw
                case rel => exact ⟨i + 1, s2, by go_num, by rw [HLA.out], by omega, by omega, by omega, (T7.out.fr0 G8).turn (M' := []) (Fr.refl [] _) (by simp) (by simp), F7.trans G8, Nat.le_trans z7 G8.size⟩
                case measure => simp [intOf]; omega
    · clear HT
      have hq12 : (i < len ∧ ¬ i < 150) ∨ ¬ i < len := by omega
      clear hi
      rcases hq12 with ⟨q1, q2⟩ | q1
      all_goals
        go_wp2_with fail
        go_ret
        exact ⟨rfl, hFr⟩
end Go.Proofs.Ytoapobhdpgcmbaa
