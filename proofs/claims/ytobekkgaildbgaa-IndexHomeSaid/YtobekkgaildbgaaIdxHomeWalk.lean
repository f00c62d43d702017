/- IndexHome answers true at every size, key and choice, and changes nothing that was there. -/
import Derived.Test.YtobekkgaildbgaaIdxAwake
import Derived.Test.YtobekkgaildbgaaIdxHome
namespace Go.Proofs.Ytobekkgaildbgaa
open Go.RowKit

set_option maxRecDepth 100000 in
set_option maxHeartbeats 8000000 in
theorem ihome_walk (a0 a1 a2 : Int) (wf0 : (Lit.int .u8 a0).wf = true) (wf1 : (Lit.int .u16 a1).wf = true) (wf2 : (Lit.int .u8 a2).wf = true) (w : World) :
    Calls Try.prog 7 #[.int .u8 a0, .int .u16 a1, .int .u8 a2] w fun e w' => e = .returned (.bool true) ∧ Fr [] w w' := by
  have fol : Try.prog.follows .mixedOrders = true := by kernel_rfl
  obtain ⟨u0, u1⟩ := u8_bounds wf0
  obtain ⟨v0, v1⟩ := u16_bounds wf1
  obtain ⟨z0, z1⟩ := u8_bounds wf2
  clear wf0 wf1 wf2
  go_enter Try.func7, Try.ntmps7
  go_wp2_with fail
  with_reducible refine (iawake _).mono ?_
  rintro e w1 ⟨rfl, f1⟩
  go_wp2_with fail
  obtain ⟨k, k1, k8, hp⟩ := pow_of7 a0
  rw [hp]
  with_reducible refine (idx_new k (by omega) k8 _ rfl _).mono ?_
  rintro e w2 ⟨rfl, I2, f2⟩
  have K2 : IOk (2 ^ k) (List.replicate (2 ^ k) (0, 0)) 0 := IOk.new (by omega) k8
  have hp2 : 4 ≤ 2 ^ k ∧ 2 ^ k ≤ 256 := ⟨by have : 2 ^ 2 ≤ 2 ^ k := Nat.pow_le_pow_right (by omega) k1; omega, K2.le⟩
  have L2 := lay_new (2 ^ k) (hm (2 ^ k) (a1 + 1)) a1
  generalize List.replicate (2 ^ k) ((0 : Int), (0 : Int)) = T0 at *
  generalize 2 ^ k = N at *
  have F2 := f1.trans f2
  have h1 := f1.size
  obtain ⟨x, hx⟩ : ∃ x, x = w1.heap.size + 1 := ⟨_, rfl⟩
  obtain ⟨b, hb⟩ : ∃ b, b = w1.heap.size := ⟨_, rfl⟩
  rw [← hx, ← hb] at I2
  rw [← hx]
  have hd : Hid (w.heap.size ≤ x ∧ w.heap.size ≤ b) := ⟨by omega, by omega⟩
  obtain ⟨hN2, hN8⟩ := hp2
  have n1 : (N : Int) ≤ 256 := by omega
  clear hx hb f1 f2 h1 hp k1 k8
  go_wp2_with fail
  go_loopw [11] (fun v wr => ∃ (i : Nat) (T : Tb), v = .int .i64 i ∧ i + 1 ≤ N ∧ IOk N T i ∧ IdxAt wr x b N T i ∧ Fr [] w wr ∧ Lay N (hm N (a1 + 1)) T (putE N a1 i)) (fun v _ => N - (intOf v).toNat)
  case atStart => exact ⟨0, T0, rfl, by omega, K2, I2, F2, L2⟩
  case round =>
    clear I2 F2 K2 L2
    obtain ⟨i, T, rfl, i1, hk, hI, hFr, hT⟩ := hrel
    have m0 : 0 ≤ (i : Int) * N := Int.mul_nonneg (by omega) (by omega)
    have m1 : (i : Int) * N ≤ 256 * 256 := Int.mul_le_mul (by omega) n1 (by omega) (by omega)
    have hr : rightK (a1 + (i : Int) * N) = true := by simp [rightK]; omega
    by_cases hi : i + 1 < N
    · obtain ⟨T', hp, L', hfar⟩ := putE_put v0 hk hT hi hr
      have HK := Lib.hid hk
      have HP := Lib.hid hp
      have HFAR := Lib.hid hfar
      have K9 := hk.put (a1 + i * N) i
      rw [hp] at K9
      have K9 : Hid (IOk N T' (i + 1)) := Lib.hid K9
      have HL := Lib.hid L'
      have HI := Lib.hid hI
      clear hk hT hp hI hr hfar L'
      go_wp2_with fail
      with_reducible refine (idx_putc (a1 + (i : Int) * N) i 0 HP.out HK.out HI.out).mono ?_
      rintro e w4 ⟨rfl, I4, f4⟩
      have F4 : Fr [] w w4 := hFr.trans' f4 (by have := hd.out; simp; omega)
      clear f4
      go_wp2_with fail
      with_reducible refine (idx_farc (a1 + (i : Int) * N) i HFAR.out K9.out I4).mono ?_
      rintro e w5 ⟨rfl, f5⟩
      have I5 := I4.fr f5 (by simp) (by simp)
      have F5 := F4.trans f5
      clear f5 I4
      go_wp2_with fail
      go_roundw
      case rel => exact ⟨i + 1, T', by go_num, by omega, K9.out, I5, F5, HL.out⟩
      case measure => simp [intOf]; omega
    · have hN : i = N - 1 := by omega
      have hT' : Lay N (hm N (a1 + 1)) T (putE N a1 (N - 1)) := by rw [← hN]; exact hT
      obtain ⟨k, hkk⟩ : ∃ k : Nat, (k : Int) = a2 % ((N : Int) - 1) := ⟨(a2 % ((N : Int) - 1)).toNat, Int.toNat_of_nonneg (Int.emod_nonneg _ (by omega))⟩
      have hk9 : k < N - 1 := by have := Int.emod_lt_of_pos a2 (by omega : 0 < (N : Int) - 1); omega
      obtain ⟨hg, e, hH, hfar⟩ := home_del v0 v1 hk hT' hk9
      have K9 := Lib.hid (hk.del hg hH)
      have HD := Lib.hid (fun w' (h : IdxAt w' x b N T i) => idx_del_ok (w := w') (a1 + k * N) e hk hg hH h)
      have HD2 := Lib.hid (del_get hk hg hH)
      generalize delU N T (findL N T (a1 + k * N + 1)) e = U at *
      have hn9 : (getL N U (a1 + (k : Int) * N)).2 = false := getL_no fun m q => ((HD2.out _ _).1 q).1 rfl
      have HN9 := Lib.hid hn9
      have HFAR := Lib.hid hfar
      have HKK := Lib.hid hkk
      have HI := Lib.hid hI
      have hNI : (N : Int) - 1 = i := by omega
      have HNI := Lib.hid hNI
      have z0' : 0 ≤ (k : Int) * N := Int.mul_nonneg (by omega) (by omega)
      have z1' : (k : Int) * N ≤ 256 * 256 := Int.mul_le_mul (by omega) n1 (by omega) (by omega)
      clear hk hT hT' hI hr hfar hg hH hn9 hkk HD2 hN hNI
      have hkw : Hid (wrap64 (a1 + wrap64 ((k : Int) * N)) = a1 + (k : Int) * N) := by unfold Hid; rw [show wrap64 ((k : Int) * N) = (k : Int) * N by unfold wrap64; omega]; unfold wrap64; omega
      go_wp2_with fail
      rw [← HKK.out, HNI.out, hkw.out]
      with_reducible refine (HD.out _ HI.out).mono ?_
      rintro e w4 ⟨rfl, I4, f4⟩
      have F4 : Fr [] w w4 := hFr.trans' f4 (by have := hd.out; simp; omega)
      clear f4
      go_wp2_with fail
      (try rw [hkw.out])
      with_reducible refine (idx_del_no (a1 + (k : Int) * N) K9.out HN9.out I4).mono ?_
      rintro e w5 ⟨rfl, rfl⟩
      go_wp2_with fail
      have hk9' : (k : Int) < i := by have := HNI.out; omega
      go_loopw [13] (fun v wr => ∃ j : Nat, v = .int .i64 j ∧ j ≤ i ∧ Fr [] w4 wr) (fun v _ => i - (intOf v).toNat)
      case atStart => exact ⟨0, rfl, by omega, Fr.refl _ _⟩
      case round =>
        obtain ⟨j, rfl, j1, G⟩ := hrel
        have n0 : 0 ≤ (j : Int) * N := Int.mul_nonneg (by omega) (by omega)
        have n2 : (j : Int) * N ≤ 256 * 256 := Int.mul_le_mul (by omega) n1 (by omega) (by omega)
        by_cases hj : j < i
        · have hf := HFAR.out j (by have := HNI.out; omega)
          have hcase : (j = k ∧ farL N U (a1 + (j : Int) * N) = -1) ∨ (k < j ∧ farL N U (a1 + (j : Int) * N) = (j : Int) - 1) ∨ (j < k ∧ farL N U (a1 + (j : Int) * N) = j) := by
            rcases Nat.lt_trichotomy j k with q | q | q
            · rw [if_neg (by omega), if_neg (by omega)] at hf; exact Or.inr (Or.inr ⟨q, hf⟩)
            · rw [if_pos q] at hf; exact Or.inl ⟨q, hf⟩
            · rw [if_neg (by omega), if_pos q] at hf; exact Or.inr (Or.inl ⟨q, hf⟩)
          clear hf
          rcases hcase with ⟨q1, q2⟩ | ⟨q1, q2⟩ | ⟨q1, q2⟩
          · subst q1
            have Q2 := Lib.hid q2
            clear q2
            go_wp2_with fail
            with_reducible refine (idx_farc (a1 + (j : Int) * N) (-1) Q2.out K9.out (I4.fr G (by simp) (by simp))).mono ?_
            rintro e w6 ⟨rfl, f6⟩
            have G2 := G.trans f6
            clear f6
            go_wp2_with fail
            go_roundw
            case rel => exact ⟨j + 1, by go_num, by omega, G2⟩
            case measure => simp [intOf]; omega
          · have Q2 := Lib.hid q2
            have hb1 : ((j : Int) == (k : Int)) = false := by rw [beq_eq_false_iff_ne]; omega
            have hb2 : (j == k) = false := by rw [beq_eq_false_iff_ne]; omega
            clear q2
            go_wp2_with fail
            with_reducible refine (idx_farc (a1 + (j : Int) * N) ((j : Int) - 1) Q2.out K9.out (I4.fr G (by simp) (by simp))).mono ?_
            rintro e w6 ⟨rfl, f6⟩
            have G2 := G.trans f6
            clear f6
            go_wp2_with fail
            go_roundw
            case rel => exact ⟨j + 1, by go_num, by omega, G2⟩
            case measure => simp [intOf]; omega
          · have Q2 := Lib.hid q2
            have hb1 : ((j : Int) == (k : Int)) = false := by rw [beq_eq_false_iff_ne]; omega
            have hb2 : (j == k) = false := by rw [beq_eq_false_iff_ne]; omega
            clear q2
            go_wp2_with fail
            with_reducible refine (idx_farc (a1 + (j : Int) * N) j Q2.out K9.out (I4.fr G (by simp) (by simp))).mono ?_
            rintro e w6 ⟨rfl, f6⟩
            have G2 := G.trans f6
            clear f6
            go_wp2_with fail
            go_roundw
            case rel => exact ⟨j + 1, by go_num, by omega, G2⟩
            case measure => simp [intOf]; omega
        · obtain rfl : j = i := by omega
          go_wp2_with fail
          with_reducible refine (idx_len (I4.fr G (by simp) (by simp))).mono ?_
          rintro e w6 ⟨rfl, rfl⟩
          go_wp2_with fail
          go_ret
          exact ⟨by simp, F4.trans G⟩
end Go.Proofs.Ytobekkgaildbgaa
