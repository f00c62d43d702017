/- IndexTells answers true at every size and script, and changes nothing that was there. -/
import Derived.Test.YtobekkgaildbgaaIdxAwake
import Derived.Test.YtobekkgaildbgaaIdxTell
namespace Go.Proofs.Ytobekkgaildbgaa
open Go.RowKit

set_option maxRecDepth 100000 in
set_option maxHeartbeats 8000000 in
theorem itells_walk (a0 : Int) (A : Option Addr) (len cap : Nat) (wf0 : (Lit.int .u8 a0).wf = true) (hn : len ≤ maxLen) (w : World) (hA : IntsAt w [.i64, .i64, .i64] A len) :
    Calls Try.prog 4 #[.int .u8 a0, .slice A len cap] w fun e w' => e = .returned (.bool true) ∧ Fr [] w w' := by
  have fol : Try.prog.follows .mixedOrders = true := by kernel_rfl
  obtain ⟨u0, u1⟩ := u8_bounds wf0
  obtain ⟨b0, off, F, hb, hF⟩ := hA
  have HB := Lib.hid hb
  have HF := Lib.hid hF
  have hn' : len ≤ 9223372036854775807 := by simpa [maxLen] using hn
  clear hb hF hn wf0
  go_enter Try.func4, Try.ntmps4
  go_wp2_with fail
  with_reducible refine (iawake _).mono ?_
  rintro e w1 ⟨rfl, f1⟩
  go_wp2_with fail
  obtain ⟨k, k1, k8, hp⟩ := pow_of a0
  rw [hp]
  with_reducible refine (idx_new k k1 k8 _ rfl _).mono ?_
  rintro e w2 ⟨rfl, I2, f2⟩
  have K2 : IOk (2 ^ k) (List.replicate (2 ^ k) (0, 0)) 0 := IOk.new k1 k8
  have hp2 : 2 ≤ 2 ^ k ∧ 2 ^ k ≤ 256 := ⟨by have := K2.ok.pos; exact this, K2.le⟩
  generalize List.replicate (2 ^ k) ((0 : Int), (0 : Int)) = T0 at *
  generalize 2 ^ k = N at *
  have F2 := f1.trans f2
  have h1 := f1.size
  obtain ⟨x, hx⟩ : ∃ x, x = w1.heap.size + 1 := ⟨_, rfl⟩
  obtain ⟨b, hb⟩ : ∃ b, b = w1.heap.size := ⟨_, rfl⟩
  rw [← hx, ← hb] at I2
  rw [← hx]
  have hd : Hid (w.heap.size ≤ x ∧ w.heap.size ≤ b) := ⟨by omega, by omega⟩
  obtain ⟨hN2, hN8⟩ := hp2
  have n1 : (N : Int) ≤ 256 := by omega
  clear hx hb f1 f2 h1 hp k1 k8
  go_wp2_with fail
  go_loopw [7] (fun v wr => ∃ (i : Nat) (T : Tb) (c : Int), v = .int .i64 i ∧ i ≤ len ∧ i ≤ 120 ∧ IOk N T c ∧ IdxAt wr x b N T c ∧ Fr [] w wr ∧ TellI N F i T) (fun v _ => 121 - (intOf v).toNat)
  case atStart => exact ⟨0, T0, 0, rfl, by omega, by omega, K2, I2, F2, TellI.zero _ _ _⟩
  case round =>
    clear I2 F2 K2
    obtain ⟨i, T, c, rfl, i1, i2, hk, hI, hFr, hT⟩ := hrel
    by_cases hi : i < len ∧ i < 120
    · obtain ⟨hi1, hi2⟩ := hi
      obtain ⟨rfl, hb⟩ := HB.out (by omega)
      have rd : ∀ j, j < len → ∀ w', Fr [] w w' → w'.cell? ⟨b0, off + j * 3, none⟩ = some (.int .i64 (F j 0)) ∧ w'.cell? ⟨b0, off + j * 3 + 1, none⟩ = some (.int .i64 (F j 1)) ∧ w'.cell? ⟨b0, off + j * 3 + 2, none⟩ = some (.int .i64 (F j 2)) := by
        intro j hj w' f
        have m0 := (HF.out j hj 0 _ rfl).1
        have m1 := (HF.out j hj 1 _ rfl).1
        have m2 := (HF.out j hj 2 _ rfl).1
        simp only [List.length_cons, List.length_nil, Nat.reduceAdd, Nat.add_zero] at m0 m1 m2
        exact ⟨(f.cell hb).trans m0, (f.cell hb).trans m1, (f.cell hb).trans m2⟩
      have RD := Lib.hid rd
      obtain ⟨c0, c1, c2⟩ := rd i hi1 _ hFr
      have hbr := Nat.lt_of_lt_of_le hb hFr.size
      have HI := Lib.hid hI
      have HK := Lib.hid hk
      have HT := Lib.hid hT
      have hlt := hI.lt
      clear hI hk rd hT
      go_upto_if 47 with fail
      clear c0 c1 c2
      have q0 : ((wr.alloc (.cells #[.int .i64 (F i 0), .int .i64 (F i 1), .int .i64 (F i 2)] 32)).heap[wr.heap.size]? = some (.cells #[.int .i64 (F i 0), .int .i64 (F i 1), .int .i64 (F i 2)] 32)) := heap_alloc_new _ _
      have I3 := Lib.hid (HI.out.fr (S := []) (w' := (wr.alloc (.cells #[.int .i64 (F i 0), .int .i64 (F i 1), .int .i64 (F i 2)] 32))) (by repeat' (first | (with_reducible exact Fr.refl _ _) | (with_reducible assumption) | (with_reducible refine Fr.drew ?_) | (with_reducible refine Fr.drewN ?_ _) | (with_reducible refine Fr.alloc ?_ _) | ((with_reducible refine Fr.setNew ?_ _ ?_ _); rotate_left; (focus (first | (with_reducible assumption) | exact Nat.le_of_lt (by with_reducible assumption) | (focus (simp +arith; done)) | exact Nat.le_trans (by with_reducible assumption) (by simp +arith; done) | (simp; done)))) | ((with_reducible refine Fr.setOld ?_ _ ?_ _); rotate_left; (focus (simp; done))))) (by simp) (by simp))
      have F3 : Fr [] w (wr.alloc (.cells #[.int .i64 (F i 0), .int .i64 (F i 1), .int .i64 (F i 2)] 32)) := (by repeat' (first | (with_reducible exact Fr.refl _ _) | (with_reducible assumption) | (with_reducible refine Fr.drew ?_) | (with_reducible refine Fr.drewN ?_ _) | (with_reducible refine Fr.alloc ?_ _) | ((with_reducible refine Fr.setNew ?_ _ ?_ _); rotate_left; (focus (first | (with_reducible assumption) | exact Nat.le_of_lt (by with_reducible assumption) | (focus (simp +arith; done)) | exact Nat.le_trans (by with_reducible assumption) (by simp +arith; done) | (simp; done)))) | ((with_reducible refine Fr.setOld ?_ _ ?_ _); rotate_left; (focus (simp; done)))))
      have hqx : wr.heap.size ≠ x := by omega
      have hqb : wr.heap.size ≠ b := by omega
      generalize wr.alloc (.cells #[.int .i64 (F i 0), .int .i64 (F i 1), .int .i64 (F i 2)] 32) = w3 at *
      generalize wr.heap.size = q at *
      clear hlt hbr
      go_cut [] (fun wc => ∃ (T9 : Tb) (c9 : Int), IOk N T9 c9 ∧ IdxAt wc x b N T9 c9 ∧ Fr [] w wc ∧ TellI N F (i + 1) T9)
      case first =>
        by_cases hy : F i 0 = 0
        · obtain ⟨⟨T9, c9, κ⟩, hp⟩ : ∃ R, putL N T c (F i 1) (F i 2) = R := ⟨_, rfl⟩
          have K9 := HK.out.put (F i 1) (F i 2)
          rw [hp] at K9
          have K9 : Hid (IOk N T9 c9) := K9
          have T9' := Lib.hid (HT.out.put HK.out hy hp)
          have HG := Lib.hid (iput_get HK.out _ _ hp)
          have HP := Lib.hid hp
          have hyb : (F i 0 == 0) = true := by rw [beq_iff_eq]; exact hy
          clear hp hy
          apply blk_use q0; intro hg3 hc3 hz3 _ _ _ _ _
          go_wp2_with fail
          with_reducible refine (idx_putc (F i 1) (F i 2) κ HP.out HK.out I3.out).mono ?_
          rintro e w4 ⟨rfl, I4, f4⟩
          have F4 : Fr [] w w4 := F3.trans' f4 (by have := hd.out; simp; omega)
          have q4 := f4.heap q0 (by simp; omega)
          clear hg3 hc3 hz3 f4
          apply blk_use q4; intro hg4 hc4 hz4 _ _ _ _ _
          go_wp2_with fail
          by_cases hz : κ = 0
          · have hg := HG.out.1 hz
            subst hz
            have HG1 := Lib.hid hg
            clear hg hg4 hc4 hz4
            with_reducible refine (idx_getc (F i 1) (F i 2) true HG1.out K9.out I4).mono ?_
            rintro e w5 ⟨rfl, f5⟩
            have I5 := I4.fr f5 (by simp) (by simp)
            have F5 := F4.trans f5
            have q5 := f5.heap q4 (by simp)
            clear f5
            apply blk_use q5; intro hg5 hc5 hz5 _ _ _ _ _
            go_wp2_with fail
            go_meet
            exact ⟨T9, c9, K9.out, I5, F5, T9'.out⟩
          · have hzb : (κ == 0) = false := by rw [beq_eq_false_iff_ne]; exact hz
            obtain ⟨⟨nn, nβ⟩, hg⟩ : ∃ r, getL N T9 (F i 1) = r := ⟨_, rfl⟩
            have HG1 := Lib.hid hg
            clear hg hg4 hc4 hz4 hz
            with_reducible refine (idx_getc (F i 1) nn nβ HG1.out K9.out I4).mono ?_
            rintro e w5 ⟨rfl, f5⟩
            have I5 := I4.fr f5 (by simp) (by simp)
            have F5 := F4.trans f5
            clear f5
            go_wp2_with fail
            go_meet
            exact ⟨T9, c9, K9.out, I5, F5, T9'.out⟩
        · have hyb : (F i 0 == 0) = false := by rw [beq_eq_false_iff_ne]; exact hy
          clear hy
          apply blk_use q0; intro hg3 hc3 hz3 _ _ _ _ _
          go_wp2_with fail
          with_reducible refine (idx_del_any (F i 1) HK.out I3.out).mono ?_
          rintro e w4 ⟨⟨T9, c9, rfl, K9, I4, hdl, hcc⟩, f4⟩
          have F4 : Fr [] w w4 := F3.trans' f4 (by have := hd.out; simp; omega)
          have q4 := f4.heap q0 (by simp; omega)
          have T9' := Lib.hid (HT.out.del hdl)
          have hg := getL_no (N := N) (T := T9) (key := F i 1) (fun m q => ((hdl _ _).1 q).1 rfl)
          obtain ⟨⟨nn, nβ⟩, hg2⟩ : ∃ r, getL N T9 (F i 1) = r := ⟨_, rfl⟩
          rw [hg2] at hg
          have HG1 := Lib.hid hg2
          have K9 := Lib.hid K9
          simp only at hg
          subst hg
          clear hg3 hc3 hz3 f4 hdl hg2 hcc
          apply blk_use q4; intro hg4 hc4 hz4 _ _ _ _ _
          go_wp2_with fail
          with_reducible refine (idx_getc (F i 1) nn false HG1.out K9.out I4).mono ?_
          rintro e w5 ⟨rfl, f5⟩
          have I5 := I4.fr f5 (by simp) (by simp)
          have F5 := F4.trans f5
          clear f5 hg4 hc4 hz4
          go_wp2_with fail
          go_meet
          exact ⟨T9, c9, K9.out, I5, F5, T9'.out⟩
      case rest =>
        obtain ⟨T9, c9, K9, I9, F9, T9'⟩ := hcut
        have K9 := Lib.hid K9
        have I9 := Lib.hid I9
        have T9' := Lib.hid T9'
        clear q0 HI HK HT I3 F3 hqx hqb
        go_wp2_with fail
        go_loopw [14] (fun v wr => ∃ k : Nat, v = .int .i64 k ∧ k ≤ i ∧ Fr [] wc wr) (fun v _ => i - (intOf v).toNat)
        case atStart => exact ⟨0, rfl, by omega, Fr.refl _ _⟩
        case round =>
          obtain ⟨k, rfl, k1, G⟩ := hrel
          by_cases hk : k < i
          · go_wp2_with fail
            go_loopw [15, 16] (fun v u wr => ∃ j l : Nat, u = .int .i64 j ∧ v = .int .i64 l ∧ k ≤ l ∧ l ≤ i ∧ k ≤ j ∧ j ≤ i + 1 ∧ F l 1 = F k 1 ∧ (∀ j', l < j' → j' < j → F j' 1 ≠ F k 1) ∧ Fr [] wc wr) (fun _ u _ => i + 1 - (intOf u).toNat)
            case atStart => exact ⟨k, k, rfl, rfl, by omega, by omega, by omega, by omega, rfl, fun j' a b => by omega, G⟩
            case round =>
              clear G
              obtain ⟨j, l, rfl, rfl, l1, l2, j1, j2, he, hno, G⟩ := hrel
              have HE := Lib.hid he
              have HNO := Lib.hid hno
              clear he hno
              by_cases hj : j ≤ i
              · have rj := RD.out j (by omega) _ (F9.trans G)
                have rk := RD.out k (by omega) _ (F9.trans G)
                have dj := rj.2.1
                have dk := rk.2.1
                clear rj rk
                by_cases hjk : F j 1 = F k 1
                · have HJK := Lib.hid hjk
                  have hjb : (F j 1 == F k 1) = true := by rw [beq_iff_eq]; exact hjk
                  clear hjk
                  go_wp2_with fail
                  go_region
                  go_wp2_with fail
                  go_roundw
                  case rel => exact ⟨j + 1, j, by go_num, rfl, by omega, by omega, by omega, by omega, HJK.out, fun j' a b => by omega, (by repeat' (first | (with_reducible exact Fr.refl _ _) | (with_reducible assumption) | (with_reducible refine Fr.drew ?_) | (with_reducible refine Fr.drewN ?_ _) | (with_reducible refine Fr.alloc ?_ _) | ((with_reducible refine Fr.setNew ?_ _ ?_ _); rotate_left; (focus (first | (with_reducible assumption) | exact Nat.le_of_lt (by with_reducible assumption) | (focus (simp +arith; done)) | exact Nat.le_trans (by with_reducible assumption) (by simp +arith; done) | (simp; done)))) | ((with_reducible refine Fr.setOld ?_ _ ?_ _); rotate_left; (focus (simp; done)))))⟩
                  case measure => simp [intOf]; omega
                · have hjb : (F j 1 == F k 1) = false := by rw [beq_eq_false_iff_ne]; exact hjk
                  have HJK := Lib.hid hjk
                  clear hjk
                  go_wp2_with fail
                  go_region
                  go_wp2_with fail
                  go_roundw
                  case rel => exact ⟨j + 1, l, by go_num, rfl, by omega, by omega, by omega, by omega, HE.out, fun j' a b => (Nat.lt_or_eq_of_le (Nat.le_of_lt_succ b)).elim (fun q => HNO.out j' a q) (fun q => by rw [q]; exact HJK.out), (by repeat' (first | (with_reducible exact Fr.refl _ _) | (with_reducible assumption) | (with_reducible refine Fr.drew ?_) | (with_reducible refine Fr.drewN ?_ _) | (with_reducible refine Fr.alloc ?_ _) | ((with_reducible refine Fr.setNew ?_ _ ?_ _); rotate_left; (focus (first | (with_reducible assumption) | exact Nat.le_of_lt (by with_reducible assumption) | (focus (simp +arith; done)) | exact Nat.le_trans (by with_reducible assumption) (by simp +arith; done) | (simp; done)))) | ((with_reducible refine Fr.setOld ?_ _ ?_ _); rotate_left; (focus (simp; done)))))⟩
                  case measure => simp [intOf]; omega
              · obtain rfl : j = i + 1 := by omega
                have G0 := F9.trans G
                have rk := RD.out k (by omega) _ G0
                have dk := rk.2.1
                obtain ⟨⟨nn, nβ⟩, hg⟩ : ∃ r, getL N T9 (F k 1) = r := ⟨_, rfl⟩
                have HG := Lib.hid hg
                clear rk hg
                go_wp2_with fail
                with_reducible refine (idx_getc (F k 1) nn nβ HG.out K9.out (I9.out.fr G (by simp) (by simp))).mono ?_
                rintro e w12 ⟨rfl, f12⟩
                have G2 := G.trans f12
                clear dk f12 G G0
                cases nβ with
                | false =>
                  go_wp2_with fail
                  go_roundw
                  case rel => exact ⟨k + 1, by go_num, by omega, G2⟩
                  case measure => simp [intOf]; omega
                | true =>
                  obtain ⟨t1, t2⟩ := T9'.out l (by omega) (fun j' a b q => HNO.out j' a b (by rw [q, HE.out])) nn (by rw [HE.out]; exact HG.out)
                  have rl := RD.out l (by omega) _ (F9.trans G2)
                  have dl := rl.1
                  rw [t1] at dl
                  by_cases hlk : l = k
                  · subst hlk
                    have dk := rl.2.2
                    rw [← t2] at dk
                    clear rl t1 t2
                    go_wp2_with fail
                    go_roundw
                    case rel => exact ⟨l + 1, by go_num, by omega, G2⟩
                    case measure => simp [intOf]; omega
                  · have hlb : ((l : Int) == (k : Int)) = false := by rw [beq_eq_false_iff_ne]; omega
                    have hlk2 : (l == k) = false := by rw [beq_eq_false_iff_ne]; exact hlk
                    clear rl t1 t2
                    go_wp2_with fail
                    go_roundw
                    case rel => exact ⟨k + 1, by go_num, by omega, G2⟩
                    case measure => simp [intOf]; omega
          · obtain rfl : k = i := by omega
            go_wp2_with fail
            exact ⟨⟨k + 1, T9, c9, by go_num, by omega, by omega, K9.out, I9.out.fr G (by simp) (by simp), F9.trans G, T9'.out⟩, by simp [intOf]; omega⟩
    · have hqq : ¬ i < len ∨ (i < len ∧ ¬ i < 120) := by omega
      rcases hqq with q1 | ⟨q1, q2⟩
      all_goals
        clear hi hI hk hT
        go_wp2_with fail
        go_ret
        exact ⟨rfl, hFr⟩
end Go.Proofs.Ytobekkgaildbgaa
