/- IndexSorted answers true at every size and script, and changes nothing that was there. -/
import Derived.Test.YtobekkgaildbgaaIdxAwake
import Derived.Test.YtobekkgaildbgaaIdxFacts
namespace Go.Proofs.Ytobekkgaildbgaa
open Go.RowKit

theorem pow_of (a0 : Int) : ∃ k : Nat, 1 ≤ k ∧ k ≤ 8 ∧ wrap64 (2 * 2 ^ (a0 % 8).toNat) = ((2 ^ k : Nat) : Int) := by
  have h1 := Int.emod_nonneg a0 (by decide : (8 : Int) ≠ 0)
  have h2 := Int.emod_lt_of_pos a0 (by decide : (0 : Int) < 8)
  generalize a0 % 8 = r at *
  rcases (by omega : r = 0 ∨ r = 1 ∨ r = 2 ∨ r = 3 ∨ r = 4 ∨ r = 5 ∨ r = 6 ∨ r = 7) with rfl | rfl | rfl | rfl | rfl | rfl | rfl | rfl
  · exact ⟨1, by omega, by omega, by decide +kernel⟩
  · exact ⟨2, by omega, by omega, by decide +kernel⟩
  · exact ⟨3, by omega, by omega, by decide +kernel⟩
  · exact ⟨4, by omega, by omega, by decide +kernel⟩
  · exact ⟨5, by omega, by omega, by decide +kernel⟩
  · exact ⟨6, by omega, by omega, by decide +kernel⟩
  · exact ⟨7, by omega, by omega, by decide +kernel⟩
  · exact ⟨8, by omega, by omega, by decide +kernel⟩
/-- What a deletion leaves, whether the key is there or not. -/
theorem idx_del_any {x b N : Nat} {T : Tb} {c : Int} {w : World} (key : Int) (hk : IOk N T c) (H : IdxAt w x b N T c) :
    Calls Try.prog 19 #[.pointer (some ⟨x, 0, none⟩), .int .i64 key] w fun e' w' => ∃ β T' c', e' = .returned (.bool β) ∧ IOk N T' c' ∧ IdxAt w' x b N T' c' ∧ Fr [x, b] w w' := by
  by_cases hn : (getL N T key).2 = true
  · obtain ⟨e, he⟩ := hk.hole hn
    refine (idx_del_ok key e hk hn he H).mono ?_
    rintro e' w' ⟨rfl, I, F⟩
    exact ⟨_, _, _, rfl, hk.del hn he, I, F⟩
  · refine (idx_del_no key hk (by simpa using hn) H).mono ?_
    rintro e' w' ⟨rfl, rfl⟩
    exact ⟨_, _, _, rfl, hk, H, Fr.refl _ _⟩

set_option maxRecDepth 100000 in
set_option maxHeartbeats 8000000 in
theorem isorted_walk (a0 : Int) (A : Option Addr) (len cap : Nat) (wf0 : (Lit.int .u8 a0).wf = true) (hn : len ≤ maxLen) (w : World) (hA : IntsAt w [.i64, .i64, .i64] A len) :
    Calls Try.prog 6 #[.int .u8 a0, .slice A len cap] w fun e w' => e = .returned (.bool true) ∧ Fr [] w w' := by
  have fol : Try.prog.follows .mixedOrders = true := by kernel_rfl
  obtain ⟨u0, u1⟩ := u8_bounds wf0
  obtain ⟨b0, off, F, hb, hF⟩ := hA
  have HB := Lib.hid hb
  have HF := Lib.hid hF
  have hn' : len ≤ 9223372036854775807 := by simpa [maxLen] using hn
  clear hb hF hn wf0
  go_enter Try.func6, Try.ntmps6
  go_wp2_with fail
  with_reducible refine (iawake _).mono ?_
  rintro e w1 ⟨rfl, f1⟩
  go_wp2_with fail
  obtain ⟨k, k1, k8, hp⟩ := pow_of a0
  rw [hp]
  with_reducible refine (idx_new k k1 k8 _ rfl _).mono ?_
  rintro e w2 ⟨rfl, I2, f2⟩
  have K2 : IOk (2 ^ k) (List.replicate (2 ^ k) (0, 0)) 0 := IOk.new k1 k8
  have hp2 : 2 ≤ 2 ^ k ∧ 2 ^ k ≤ 256 := ⟨by have := K2.ok.pos; exact this, K2.le⟩
  generalize List.replicate (2 ^ k) ((0 : Int), (0 : Int)) = T0 at *
  generalize 2 ^ k = N at *
  have F2 := f1.trans f2
  have h1 := f1.size
  obtain ⟨x, hx⟩ : ∃ x, x = w1.heap.size + 1 := ⟨_, rfl⟩
  obtain ⟨b, hb⟩ : ∃ b, b = w1.heap.size := ⟨_, rfl⟩
  rw [← hx, ← hb] at I2
  rw [← hx]
  have hd : Hid (w.heap.size ≤ x ∧ w.heap.size ≤ b) := ⟨by omega, by omega⟩
  obtain ⟨hN2, hN8⟩ := hp2
  have n1 : (N : Int) ≤ 256 := by omega
  clear hx hb f1 f2 h1 hp k1 k8
  go_wp2_with fail
  go_loopw [8] (fun v wr => ∃ (i : Nat) (T : Tb) (c : Int), v = .int .i64 i ∧ i ≤ len ∧ i ≤ 120 ∧ IOk N T c ∧ IdxAt wr x b N T c ∧ Fr [] w wr) (fun v _ => 121 - (intOf v).toNat)
  case atStart => exact ⟨0, T0, 0, rfl, by omega, by omega, K2, I2, F2⟩
  case round =>
    clear I2 F2 K2
    obtain ⟨i, T, c, rfl, i1, i2, hk, hI, hFr⟩ := hrel
    by_cases hi : i < len ∧ i < 120
    · obtain ⟨hi1, hi2⟩ := hi
      obtain ⟨rfl, hb⟩ := HB.out (by omega)
      obtain ⟨m0, m0w⟩ := HF.out i hi1 0 _ rfl
      obtain ⟨m1, m1w⟩ := HF.out i hi1 1 _ rfl
      obtain ⟨m2, m2w⟩ := HF.out i hi1 2 _ rfl
      simp only [List.length_cons, List.length_nil, Nat.reduceAdd, Nat.add_zero] at m0 m1 m2
      generalize F i 0 = y0 at *
      generalize F i 1 = y1 at *
      generalize F i 2 = y2 at *
      have c0 := (hFr.cell (off := off + i * 3) hb).trans m0
      have c1 := (hFr.cell (off := off + i * 3 + 1) hb).trans m1
      have c2 := (hFr.cell (off := off + i * 3 + 2) hb).trans m2
      have hbr := Nat.lt_of_lt_of_le hb hFr.size
      have HI := Lib.hid hI
      have HK := Lib.hid hk
      clear m0 m2 m0w m1w m2w hI hk
      go_upto_if 44 with fail
      go_cut [] (fun wc => ∃ (T9 : Tb) (c9 : Int), IOk N T9 c9 ∧ IdxAt wc x b N T9 c9 ∧ Fr [] w wc)
      case first =>
        by_cases hy : y0 = 0
        · subst hy
          have K9 := Lib.hid (HK.out.put y1 y2)
          have HP := fun w' (h : IdxAt w' x b N T c) => idx_put (w := w') y1 y2 HK.out h
          generalize putL N T c y1 y2 = R at *
          obtain ⟨T9, c9, κ⟩ := R
          simp only at K9 HP
          have HP := Lib.hid HP
          go_wp2_with fail
          refine wp_region_seqV_lit (FinS 11 (Fr [] wr) (fun w' => Fr [x, b] wr w' ∧ IdxAt w' x b N T9 c9)) fol (by kernel_rfl) (FinS.start (Fr.refl _ _).drew) ?_
          (repeat (apply SeqV.cons; (focus (intro Vv bv wv hbv hdv hsh hSv; have bst := shut_no hsh hbv 11 (by kernel_rfl); have s0 := FinS.pre hSv bst; clear hsh hdv; (have q1 := (s0.cell (off := off + i * 3 + 1) hbr).trans c1); (have q2 := (s0.cell (off := off + i * 3 + 2) hbr).trans c2); go_wp2_with fail; exact StepPost.mk rfl (FinS.plain (by decide) bst (Fr.trans s0 (by repeat' (first | (with_reducible exact Fr.refl _ _) | (with_reducible assumption) | (with_reducible refine Fr.drew ?_) | (with_reducible refine Fr.drewN ?_ _) | (with_reducible refine Fr.alloc ?_ _) | ((with_reducible refine Fr.setNew ?_ _ ?_ _); rotate_left; (focus (first | (with_reducible assumption) | exact Nat.le_of_lt (by with_reducible assumption) | (focus (simp +arith; done)) | exact Nat.le_trans (by with_reducible assumption) (by simp +arith; done) | (simp; done)))) | ((with_reducible refine Fr.setOld ?_ _ ?_ _); rotate_left; (focus (simp; done))))))))); (try simp only [Act.put, List.setIfInBounds_toArray, List.set_cons_zero, List.set_cons_succ, Nat.reduceAdd, Nat.zero_add])))
          apply SeqV.cons (v := .int .i64 κ); (focus (intro Vv bv wv hbv hdv hsh hSv; have s0 := FinS.pre hSv hbv; clear hsh hdv; go_wp2_with fail; with_reducible refine (HP.out _ (HI.out.fr s0 (by simp) (by simp))).mono ?_; rintro e ww ⟨rfl, I8, f8⟩; go_wp2_with fail; exact StepPost.mk rfl (FinS.fin ⟨(s0.mono (by simp)).trans f8, I8⟩))); (try simp only [Act.put, List.setIfInBounds_toArray, List.set_cons_zero, List.set_cons_succ, Nat.reduceAdd, Nat.zero_add])
          refine SeqV.nil ?_
          intro Vv bv w9 hb9 hSv
          obtain ⟨f9, I9⟩ := FinS.end_ hSv (hb9 11 (by decide))
          have F9 : Fr [] w w9 := hFr.trans' f9 (by have := hd.out; simp; omega)
          clear hSv hb9 HP
          go_wp2_with fail
          go_meet
          exact ⟨T9, c9, K9.out, I9, F9⟩
        · have hyb : (y0 == 0) = false := by rw [beq_eq_false_iff_ne]; exact hy
          go_wp2_with fail
          with_reducible refine (idx_del_any y1 HK.out HI.out).mono ?_
          rintro e w9 ⟨β, T9, c9, rfl, K9, I9, f9⟩
          have F9 : Fr [] w w9 := hFr.trans' f9 (by have := hd.out; simp; omega)
          go_wp2_with fail
          go_meet
          exact ⟨T9, c9, K9, I9, F9⟩
      case rest =>
        obtain ⟨T9, c9, K9, I9, F9⟩ := hcut
        have K9 := Lib.hid K9
        obtain rfl : c9 = ((keysL T9).length : Int) := by rw [keysL_cnt]; exact K9.out.cn
        have hkl : (keysL T9).length < N := by rw [keysL_cnt]; exact K9.out.lt
        have hkl' : decide (N ≤ (keysL T9).length) = false := by simp; omega
        have hkl2 : ((keysL T9).length : Int) ≤ 256 := by omega
        have HFar := Lib.hid (fun k (hk : k ∈ keysL T9) => K9.out.far hk)
        have HRise := Lib.hid (keysL_rise K9.out.ok)
        have I9' := Lib.hid I9
        clear I9 c0 c1 c2 HI HK hbr
        go_wp2_with fail
        with_reducible refine (idx_keysc (keysL T9) rfl K9.out I9'.out).mono ?_
        rintro e w10 ⟨⟨A10, c10, rfl, O10⟩, f10⟩
        have I10 := Lib.hid (I9'.out.fr f10 (by simp) (by simp))
        have F10 := F9.trans f10
        obtain ⟨A11, c11, he11, _, h11⟩ := O10.sl (M := []) (by simp)
        injection he11 with e1 e2 e3
        subst e1 e3
        have H11 := Lib.hid h11
        clear O10 e2 h11
        go_wp2_with fail
        with_reducible refine (idx_len I10.out).mono ?_
        rintro e w11 ⟨rfl, rfl⟩
        go_wp2_with fail
        go_loopw [10, 11, 12] (fun v _ _ wr => ∃ k : Nat, v = .int .i64 k ∧ k ≤ (keysL T9).length ∧ Fr [] w10 wr) (fun v _ _ _ => (keysL T9).length - (intOf v).toNat)
        case atStart => exact ⟨0, rfl, by omega, Fr.refl _ _⟩
        case round =>
          obtain ⟨k, rfl, k1, G⟩ := hrel
          by_cases hlt : k < (keysL T9).length
          · rcases H11.out with hz | ⟨b9, o9, rfl, hb9, _, hcl⟩
            · rw [hz] at hlt; simp at hlt
            have ck := enat hcl (List.getElem?_eq_getElem hlt)
            obtain ⟨⟨n, fg⟩, ff0, ff1⟩ := HFar.out (keysL T9)[k] (List.getElem_mem _)
            have hkk : (keysL T9)[k]? = some (keysL T9)[k] := List.getElem?_eq_getElem hlt
            have hprev : Hid (∀ j, k = j + 1 → ∃ y, w10.cell? ⟨b9, o9 + j, none⟩ = some (.int .i64 y) ∧ ¬ (keysL T9)[k] ≤ y) := by
              intro j hj
              subst hj
              refine ⟨(keysL T9)[j], enat hcl (List.getElem?_eq_getElem (by omega)), ?_⟩
              have := (List.pairwise_iff_getElem.1 HRise.out) j (j + 1) (by omega) hlt (by omega)
              omega
            have FG := Lib.hid fg
            have hfr : ∀ fr, farL N T9 (keysL T9)[k] = fr → Hid (farL N T9 (keysL T9)[k] = fr) := fun _ h => h
            obtain ⟨fr, hfr⟩ : ∃ fr, farL N T9 (keysL T9)[k] = fr := ⟨_, rfl⟩
            rw [hfr] at ff0 ff1
            have FR := Lib.hid hfr
            generalize (keysL T9)[k] = key at *
            have d0 := (G.cell (off := o9 + k) hb9).trans ck
            clear hcl fg hfr hkk
            go_wp2_with fail
            with_reducible refine (idx_getc key n true FG.out K9.out (I10.out.fr G (by simp) (by simp))).mono ?_
            rintro e w12 ⟨rfl, f12⟩
            have G2 := G.trans f12
            have d1 := (G2.cell (off := o9 + k) hb9).trans ck
            clear d0
            go_wp2_with fail
            with_reducible refine (idx_farc key fr FR.out K9.out (I10.out.fr G2 (by simp) (by simp))).mono ?_
            rintro e w13 ⟨rfl, f13⟩
            have G3 := G2.trans f13
            clear G f12 G2 d1 f13
            have ff2 : ¬ fr < 0 := by omega
            have ff3 : ¬ ((keysL T9).length : Int) ≤ fr := by omega
            have hl8 : ((keysL T9).length : Int) ≤ 256 := hkl2
            go_wp2_with fail
            rcases k with _ | m
            · go_wp2_with fail
              refine wp_region_seqV_lit (fun _ _ w' => Fr [] w13 w') fol (by kernel_rfl) (Fr.refl _ _).drew ?_
              (repeat (first | (apply SeqV.cons; (focus (intro Vv bv wv hbv hdv hsh hSv; skip; go_wp2_with (fail); exact StepPost.mk rfl (Fr.trans (S := []) hSv (by repeat' (first | (with_reducible exact Fr.refl _ _) | (with_reducible assumption) | (with_reducible refine Fr.drew ?_) | (with_reducible refine Fr.drewN ?_ _) | (with_reducible refine Fr.alloc ?_ _) | ((with_reducible refine Fr.setNew ?_ _ ?_ _); rotate_left; (focus (first | (with_reducible assumption) | exact Nat.le_of_lt (by with_reducible assumption) | (focus (simp +arith; done)) | exact Nat.le_trans (by with_reducible assumption) (by simp +arith; done) | (simp; done)))) | ((with_reducible refine Fr.setOld ?_ _ ?_ _); rotate_left; (focus (simp; done)))))))); (try simp only [Act.put, List.setIfInBounds_toArray, List.set_cons_zero, List.set_cons_succ, Nat.reduceAdd, Nat.zero_add])) | (apply SeqV.cons (v := undef); (focus (intro Vv bv wv hbv hdv hsh hSv; skip; go_wp2_with (fail); exact StepPost.mk rfl (Fr.trans (S := []) hSv (by repeat' (first | (with_reducible exact Fr.refl _ _) | (with_reducible assumption) | (with_reducible refine Fr.drew ?_) | (with_reducible refine Fr.drewN ?_ _) | (with_reducible refine Fr.alloc ?_ _) | ((with_reducible refine Fr.setNew ?_ _ ?_ _); rotate_left; (focus (first | (with_reducible assumption) | exact Nat.le_of_lt (by with_reducible assumption) | (focus (simp +arith; done)) | exact Nat.le_trans (by with_reducible assumption) (by simp +arith; done) | (simp; done)))) | ((with_reducible refine Fr.setOld ?_ _ ?_ _); rotate_left; (focus (simp; done)))))))); (try simp only [Act.put, List.setIfInBounds_toArray, List.set_cons_zero, List.set_cons_succ, Nat.reduceAdd, Nat.zero_add]))))
              refine SeqV.nil ?_
              intro Vv bv w14 hb14 G9
              have G' := G3.trans G9
              clear hb14 G3 G9
              go_wp2_with fail
              go_roundw
              case rel => exact ⟨1, by go_num, by omega, G'⟩
              case measure => simp [intOf]; omega
            · obtain ⟨yp, q1, q2⟩ := hprev.out m rfl
              clear hprev
              go_wp2_with fail
              refine wp_region_seqV_lit (fun _ _ w' => Fr [] w13 w') fol (by kernel_rfl) (Fr.refl _ _).drew ?_
              (repeat (first | (apply SeqV.cons; (focus (intro Vv bv wv hbv hdv hsh hSv; (have z4 := ((G3.trans hSv).cell (off := o9 + (m + 1)) hb9).trans ck); (have z5 := ((G3.trans hSv).cell (off := o9 + m) hb9).trans q1); go_wp2_with (fail); exact StepPost.mk rfl (Fr.trans (S := []) hSv (by repeat' (first | (with_reducible exact Fr.refl _ _) | (with_reducible assumption) | (with_reducible refine Fr.drew ?_) | (with_reducible refine Fr.drewN ?_ _) | (with_reducible refine Fr.alloc ?_ _) | ((with_reducible refine Fr.setNew ?_ _ ?_ _); rotate_left; (focus (first | (with_reducible assumption) | exact Nat.le_of_lt (by with_reducible assumption) | (focus (simp +arith; done)) | exact Nat.le_trans (by with_reducible assumption) (by simp +arith; done) | (simp; done)))) | ((with_reducible refine Fr.setOld ?_ _ ?_ _); rotate_left; (focus (simp; done)))))))); (try simp only [Act.put, List.setIfInBounds_toArray, List.set_cons_zero, List.set_cons_succ, Nat.reduceAdd, Nat.zero_add])) | (apply SeqV.cons (v := undef); (focus (intro Vv bv wv hbv hdv hsh hSv; (have z4 := ((G3.trans hSv).cell (off := o9 + (m + 1)) hb9).trans ck); (have z5 := ((G3.trans hSv).cell (off := o9 + m) hb9).trans q1); go_wp2_with (fail); exact StepPost.mk rfl (Fr.trans (S := []) hSv (by repeat' (first | (with_reducible exact Fr.refl _ _) | (with_reducible assumption) | (with_reducible refine Fr.drew ?_) | (with_reducible refine Fr.drewN ?_ _) | (with_reducible refine Fr.alloc ?_ _) | ((with_reducible refine Fr.setNew ?_ _ ?_ _); rotate_left; (focus (first | (with_reducible assumption) | exact Nat.le_of_lt (by with_reducible assumption) | (focus (simp +arith; done)) | exact Nat.le_trans (by with_reducible assumption) (by simp +arith; done) | (simp; done)))) | ((with_reducible refine Fr.setOld ?_ _ ?_ _); rotate_left; (focus (simp; done)))))))); (try simp only [Act.put, List.setIfInBounds_toArray, List.set_cons_zero, List.set_cons_succ, Nat.reduceAdd, Nat.zero_add]))))
              refine SeqV.nil ?_
              intro Vv bv w14 hb14 G9
              have G' := G3.trans G9
              clear hb14 G3 G9
              go_wp2_with fail
              go_roundw
              case rel => exact ⟨m + 1 + 1, by go_num, by omega, G'⟩
              case measure => simp [intOf]; omega
          · obtain rfl : k = (keysL T9).length := by omega
            have G1 := F10.trans G
            obtain ⟨⟨nn, nβ⟩, hg⟩ : ∃ r, getL N T9 y1 = r := ⟨_, rfl⟩
            have hf : ∃ fr : Int, farL N T9 y1 = fr ∧ decide (0 ≤ fr) = nβ := by
              refine ⟨_, rfl, ?_⟩
              unfold farL
              rw [hg]
              cases nβ <;> simp
            obtain ⟨fr, hf1, hf2⟩ := hf
            have HG := Lib.hid hg
            have HF1 := Lib.hid hf1
            have e1 := (F9.trans (f10.trans G)).cell (off := off + i * 3 + 1) hb
            have e2 := e1.trans m1
            have HF2 := Lib.hid hf2
            clear hg hf1 hf2 e1 HFar HRise H11
            go_wp2_with fail
            with_reducible refine (idx_getc y1 nn nβ HG.out K9.out (I10.out.fr G (by simp) (by simp))).mono ?_
            rintro e w12 ⟨rfl, f12⟩
            have G2 := G.trans f12
            have e3 := (F10.trans G2).cell (off := off + i * 3 + 1) hb
            have e4 := e3.trans m1
            clear e2 e3 f12
            go_wp2_with fail
            with_reducible refine (idx_farc y1 fr HF1.out K9.out (I10.out.fr G2 (by simp) (by simp))).mono ?_
            rintro e w13 ⟨rfl, f13⟩
            have G3 := F10.trans (G2.trans f13)
            have I13 := (I10.out.fr (G2.trans f13) (by simp) (by simp))
            clear e4 f13 G G2
            go_wp2_with fail
            · exfalso; rename_i hx; rw [HF2.out] at hx; cases nβ <;> simp at hx
            · exact ⟨⟨i + 1, T9, _, by go_num, by omega, by omega, K9.out, I13, G3⟩, by simp [intOf]; omega⟩
    · have hqq : ¬ i < len ∨ (i < len ∧ ¬ i < 120) := by omega
      rcases hqq with q1 | ⟨q1, q2⟩
      all_goals
        clear hi hI hk
        go_wp2_with fail
        go_ret
        exact ⟨rfl, hFr⟩
end Go.Proofs.Ytobekkgaildbgaa
