/- IndexFull answers true at every size, first key and step, and changes nothing that was there. -/
import Derived.Test.YtobekkgaildbgaaIdxAwake
import Derived.Test.YtobekkgaildbgaaIdxTell
namespace Go.Proofs.Ytobekkgaildbgaa
open Go.RowKit

theorem getL_pair {N : Nat} {T : Tb} {key : Int} (h : (getL N T key).2 = false) : ∃ m, getL N T key = (m, false) := ⟨(getL N T key).1, Prod.ext rfl h⟩
theorem put_new {N : Nat} {T : Tb} {c : Int} (h : IOk N T c) {key : Int} (hr : rightK key = true) (hn : (getL N T key).2 = false) (hc : c < N - 1) (n : Int) : ∃ T', putL N T c key n = (T', c + 1, 0) := by
  have w := (h.ok.wf _ (h.found (key + 1)).lt).1
  unfold getL at hn
  rw [if_neg (by rw [hr]; simp)] at hn
  simp only [decide_eq_false_iff_not] at hn
  unfold putL
  rw [if_neg (by rw [hr]; simp), if_pos (by omega), if_neg (by omega)]
  exact ⟨_, rfl⟩
theorem put_full {N : Nat} {T : Tb} {c : Int} (h : IOk N T c) {key : Int} (hr : rightK key = true) (hn : (getL N T key).2 = false) (hc : c = N - 1) (n : Int) : putL N T c key n = (T, c, 2) := by
  have w := (h.ok.wf _ (h.found (key + 1)).lt).1
  unfold getL at hn
  rw [if_neg (by rw [hr]; simp)] at hn
  simp only [decide_eq_false_iff_not] at hn
  unfold putL
  rw [if_neg (by rw [hr]; simp), if_pos (by omega), if_pos hc]
theorem put_old {N : Nat} {T : Tb} {c : Int} {key m : Int} (hn : getL N T key = (m, true)) (n : Int) : ∃ T', putL N T c key n = (T', c, 0) := by
  obtain ⟨hr, hp⟩ := getL_true (by rw [hn] : (getL N T key).2 = true)
  unfold putL
  rw [if_neg (by rw [hr]; simp), if_neg (by omega)]
  exact ⟨_, rfl⟩
/-- Of the keys f, f + d, .. the first i are there, each with its number by g. -/
def FullI (N : Nat) (f d : Int) (g : Nat → Int) (i : Nat) (T : Tb) : Prop := ∀ k m, getL N T k = (m, true) ↔ ∃ j : Nat, j < i ∧ k = f + j * d ∧ m = g j
theorem mul_inj {d : Int} (hd : 0 < d) {i j : Nat} {f : Int} (h : f + (i : Int) * d = f + (j : Int) * d) : i = j := by
  rcases Nat.lt_trichotomy i j with q | q | q
  · have : (i : Int) * d < j * d := Int.mul_lt_mul_of_pos_right (by omega) hd
    omega
  · exact q
  · have : (j : Int) * d < i * d := Int.mul_lt_mul_of_pos_right (by omega) hd
    omega
theorem FullI.no {N : Nat} {f d : Int} {g : Nat → Int} {i : Nat} {T : Tb} (h : FullI N f d g i T) (hd : 0 < d) {j : Nat} (hj : i ≤ j) : (getL N T (f + j * d)).2 = false := by
  refine getL_no fun m q => ?_
  obtain ⟨j', a, b, _⟩ := (h _ _).1 q
  have := mul_inj hd b
  omega
theorem FullI.put {N : Nat} {f d c : Int} {g : Nat → Int} {i i' r : Nat} {T T' : Tb} {n : Int} (h : FullI N f d g i T) (hk : IOk N T c) (hd : 0 < d) {c' : Int} (e : putL N T c (f + r * d) n = (T', c', 0)) (hi : (r < i ∧ i' = i) ∨ (r = i ∧ i' = i + 1)) : FullI N f d (fun j => if j = r then n else g j) i' T' := by
  obtain ⟨p1, _, p3⟩ := iput_get hk _ _ e
  intro k m
  show _ ↔ ∃ j : Nat, j < i' ∧ k = f + j * d ∧ m = (if j = r then n else g j)
  by_cases hq : k = f + r * d
  · subst hq
    rw [p1 rfl]
    constructor
    · intro q; exact ⟨r, by omega, rfl, by rw [if_pos rfl]; exact (Prod.mk.inj q).1.symm⟩
    · rintro ⟨j, a, b, rfl⟩
      have := mul_inj hd b
      rw [if_pos this.symm]
  · rw [p3 k m hq, h]
    constructor
    · rintro ⟨j, a, b, rfl⟩; exact ⟨j, by omega, b, by rw [if_neg (by rintro rfl; exact hq b)]⟩
    · rintro ⟨j, a, b, rfl⟩
      have hj : j ≠ r := by rintro rfl; exact hq b
      exact ⟨j, by omega, b, by rw [if_neg hj]⟩
theorem FullI.congr {N : Nat} {f d : Int} {g g' : Nat → Int} {i : Nat} {T : Tb} (h : FullI N f d g i T) (hg : ∀ j, j < i → g j = g' j) : FullI N f d g' i T := by
  intro k m
  rw [h]
  constructor
  · rintro ⟨j, a, b, rfl⟩; exact ⟨j, a, b, hg j a⟩
  · rintro ⟨j, a, b, rfl⟩; exact ⟨j, a, b, (hg j a).symm⟩
theorem FullI.new (k : Nat) (h0 : 1 ≤ k) (h1 : k ≤ 8) (f d : Int) (g : Nat → Int) : FullI (2 ^ k) f d g 0 (List.replicate (2 ^ k) (0, 0)) := by
  intro key m
  constructor
  · intro q
    obtain ⟨_, y, hy, e⟩ := ((IOk.new h0 h1).get key m).1 q
    have hr := ((IOk.new h0 h1).get key m).1 q
    have g0 : gt (List.replicate (2 ^ k) ((0 : Int), (0 : Int))) y = (0, 0) := by unfold gt; rw [List.getD_eq_getElem?_getD, List.getElem?_replicate]; split <;> rfl
    rw [g0] at e
    have := rightK_of hr.1
    have := (Prod.mk.inj e).1
    omega
  · rintro ⟨j, a, _⟩; omega

set_option maxRecDepth 100000 in
set_option maxHeartbeats 8000000 in
theorem ifull_walk (a0 a1 a2 : Int) (wf0 : (Lit.int .u8 a0).wf = true) (wf1 : (Lit.int .u16 a1).wf = true) (wf2 : (Lit.int .u8 a2).wf = true) (w : World) :
    Calls Try.prog 5 #[.int .u8 a0, .int .u16 a1, .int .u8 a2] w fun e w' => e = .returned (.bool true) ∧ Fr [] w w' := by
  have fol : Try.prog.follows .mixedOrders = true := by kernel_rfl
  obtain ⟨u0, u1⟩ := u8_bounds wf0
  obtain ⟨v0, v1⟩ := u16_bounds wf1
  obtain ⟨z0, z1⟩ := u8_bounds wf2
  obtain ⟨d, hd'⟩ : ∃ d, d = 1 + a2 := ⟨_, rfl⟩
  have d0 : 0 < d := by omega
  have d1 : d ≤ 256 := by omega
  have HD := Lib.hid hd'
  clear wf0 wf1 wf2 hd'
  go_enter Try.func5, Try.ntmps5
  go_wp2_with fail
  with_reducible refine (iawake _).mono ?_
  rintro e w1 ⟨rfl, f1⟩
  go_wp2_with fail
  obtain ⟨k, k1, k8, hp⟩ := pow_of a0
  rw [hp]
  with_reducible refine (idx_new k k1 k8 _ rfl _).mono ?_
  rintro e w2 ⟨rfl, I2, f2⟩
  have K2 : IOk (2 ^ k) (List.replicate (2 ^ k) (0, 0)) 0 := IOk.new k1 k8
  have K0 : FullI (2 ^ k) a1 d (fun j => (j : Int)) 0 (List.replicate (2 ^ k) (0, 0)) := FullI.new k k1 k8 _ _ _
  have hp2 : 2 ≤ 2 ^ k ∧ 2 ^ k ≤ 256 := ⟨by have := K2.ok.pos; exact this, K2.le⟩
  generalize List.replicate (2 ^ k) ((0 : Int), (0 : Int)) = T0 at *
  generalize 2 ^ k = N at *
  have F2 := f1.trans f2
  have h1 := f1.size
  obtain ⟨x, hx⟩ : ∃ x, x = w1.heap.size + 1 := ⟨_, rfl⟩
  obtain ⟨b, hb⟩ : ∃ b, b = w1.heap.size := ⟨_, rfl⟩
  rw [← hx, ← hb] at I2
  rw [← hx]
  have hd : Hid (w.heap.size ≤ x ∧ w.heap.size ≤ b) := ⟨by omega, by omega⟩
  obtain ⟨hN2, hN8⟩ := hp2
  have n1 : (N : Int) ≤ 256 := by omega
  clear hx hb f1 f2 h1 hp k1 k8
  go_wp2_with fail
  rw [← HD.out]
  go_loopw [11] (fun v wr => ∃ (i : Nat) (T : Tb), v = .int .i64 i ∧ i + 1 ≤ N ∧ IOk N T i ∧ IdxAt wr x b N T i ∧ Fr [] w wr ∧ FullI N a1 d (fun j => (j : Int)) i T) (fun v _ => N - (intOf v).toNat)
  case atStart => exact ⟨0, T0, rfl, by omega, K2, I2, F2, K0⟩
  case round =>
    clear I2 F2 K2 K0
    obtain ⟨i, T, rfl, i1, hk, hI, hFr, hT⟩ := hrel
    have m0 : 0 ≤ (i : Int) * d := Int.mul_nonneg (by omega) (by omega)
    have m1 : (i : Int) * d ≤ 256 * 256 := Int.mul_le_mul (by omega) d1 (by omega) (by omega)
    have hkw : wrap64 (a1 + wrap64 ((i : Int) * d)) = a1 + (i : Int) * d := by rw [show wrap64 ((i : Int) * d) = (i : Int) * d by unfold wrap64; omega]; unfold wrap64; omega
    have HKW := Lib.hid hkw
    have hno := hT.no d0 (Nat.le_refl i)
    have hr : rightK (a1 + (i : Int) * d) = true := by simp [rightK]; omega
    by_cases hi : i + 1 < N
    · obtain ⟨T', hp⟩ := put_new hk hr hno (by omega) i
      have HK := Lib.hid hk
      have HT := Lib.hid hT
      have HP := Lib.hid hp
      have K9 := hk.put (a1 + i * d) i
      rw [hp] at K9
      have K9 : Hid (IOk N T' (i + 1)) := Lib.hid K9
      have T9 := Lib.hid (hT.put hk d0 hp (Or.inr ⟨rfl, rfl⟩))
      have HI := Lib.hid hI
      clear hk hT hp hno hI hkw hr
      go_wp2_with fail
      (try rw [HKW.out])
      with_reducible refine (idx_putc (a1 + (i : Int) * d) i 0 HP.out HK.out HI.out).mono ?_
      rintro e w4 ⟨rfl, I4, f4⟩
      have F4 : Fr [] w w4 := hFr.trans' f4 (by have := hd.out; simp; omega)
      clear f4
      go_wp2_with fail
      go_roundw
      case rel => exact ⟨i + 1, T', by go_num, by omega, K9.out, I4, F4, (T9.out.congr (fun j hj => by show (if j = i then (i : Int) else (j : Int)) = j; by_cases e : j = i <;> simp [e]))⟩
      case measure => simp [intOf]; omega
    · have hN : N = i + 1 := by omega
      have hp := put_full hk hr hno (by omega) 1
      have hkw2 : Hid (wrap64 (a1 + wrap64 (((N : Int) - 1) * d)) = a1 + (i : Int) * d) := by unfold Hid; rw [show (N : Int) - 1 = i by omega]; exact hkw
      have HK := Lib.hid hk
      have HT := Lib.hid hT
      have HP := Lib.hid hp
      have HI := Lib.hid hI
      have HN := Lib.hid hN
      have hc1 : ((i : Int) != (N : Int) - 1) = false := by simp; omega
      clear hk hT hp hno hI hkw hr hN
      go_wp2_with fail
      (try rw [hkw2.out])
      with_reducible refine (idx_putc (a1 + (i : Int) * d) 1 2 HP.out HK.out HI.out).mono ?_
      rintro e w4 ⟨rfl, I4, f4⟩
      have F4 : Fr [] w w4 := hFr.trans' f4 (by have := hd.out; simp; omega)
      clear f4
      go_wp2_with fail
      with_reducible refine (idx_len I4).mono ?_
      rintro e w5 ⟨rfl, rfl⟩
      go_wp2_with fail
      have T4 := HT.out.congr (g' := fun j => if j < 0 then (j : Int) + 7 else j) (fun j _ => by rw [if_neg (by omega)])
      go_loopw [12] (fun v wr => ∃ (r : Nat) (T : Tb), v = .int .i64 r ∧ r ≤ i ∧ IOk N T i ∧ IdxAt wr x b N T i ∧ Fr [] w wr ∧ FullI N a1 d (fun j => if j < r then (j : Int) + 7 else j) i T) (fun v _ => i - (intOf v).toNat)
      case atStart => exact ⟨0, T, rfl, by omega, HK.out, I4, F4, T4⟩
      case round =>
        clear I4 F4 T4
        obtain ⟨r, U, rfl, r1, hk, hI, hFr, hT⟩ := hrel
        have n0 : 0 ≤ (r : Int) * d := Int.mul_nonneg (by omega) (by omega)
        have n1 : (r : Int) * d ≤ 256 * 256 := Int.mul_le_mul (by omega) d1 (by omega) (by omega)
        have hkw : wrap64 (a1 + wrap64 ((r : Int) * d)) = a1 + (r : Int) * d := by rw [show wrap64 ((r : Int) * d) = (r : Int) * d by unfold wrap64; omega]; unfold wrap64; omega
        by_cases hr : r < i
        · have hg : getL N U (a1 + (r : Int) * d) = ((r : Int), true) := (hT _ _).2 ⟨r, hr, rfl, by show (r : Int) = if r < r then _ else _; rw [if_neg (by omega)]⟩
          obtain ⟨U', hp⟩ := put_old (c := (i : Int)) hg ((r : Int) + 7)
          have K9 := hk.put (a1 + r * d) (r + 7)
          rw [hp] at K9
          have K9 : Hid (IOk N U' i) := Lib.hid K9
          have T9 := Lib.hid (hT.put hk d0 hp (Or.inl ⟨hr, rfl⟩))
          have HG := Lib.hid hg
          have HP2 := Lib.hid hp
          have HK2 := Lib.hid hk
          have HI2 := Lib.hid hI
          have HKW := Lib.hid hkw
          have hrN : (r : Int) < (N : Int) - 1 := by have := HN.out; omega
          clear hg hp hk hI hkw hT
          go_wp2_with fail
          (try rw [HKW.out])
          with_reducible refine (idx_getc (a1 + (r : Int) * d) r true HG.out HK2.out HI2.out).mono ?_
          rintro e w6 ⟨rfl, f6⟩
          have I6 := HI2.out.fr f6 (by simp) (by simp)
          have F6 := hFr.trans f6
          clear f6
          go_wp2_with fail
          (try rw [HKW.out])
          with_reducible refine (idx_putc (a1 + (r : Int) * d) ((r : Int) + 7) 0 HP2.out HK2.out I6).mono ?_
          rintro e w7 ⟨rfl, I7, f7⟩
          have F7 : Fr [] w w7 := F6.trans' f7 (by have := hd.out; simp; omega)
          clear f7 I6
          go_wp2_with fail
          go_roundw
          case rel => exact ⟨r + 1, U', by go_num, by omega, K9.out, I7, F7, T9.out.congr (g' := fun j => if j < r + 1 then (j : Int) + 7 else j) (fun j hj => by
            show (if j = r then (r : Int) + 7 else if j < r then (j : Int) + 7 else j) = if j < r + 1 then (j : Int) + 7 else j
            by_cases e : j = r
            · rw [if_pos e, if_pos (by omega), e]
            · rw [if_neg e]
              by_cases e2 : j < r
              · rw [if_pos e2, if_pos (by omega)]
              · rw [if_neg e2, if_neg (by omega)])⟩
          case measure => simp [intOf]; omega
        · obtain rfl : r = i := by omega
          have hg : getL N U a1 = (7, true) := (hT _ _).2 ⟨0, by omega, by simp, by show (7 : Int) = if 0 < r then _ else _; rw [if_pos (by omega)]; rfl⟩
          obtain ⟨nn, hno⟩ := getL_pair (hT.no d0 (Nat.le_refl r))
          have HG := Lib.hid hg
          have HNO := Lib.hid hno
          have HK2 := Lib.hid hk
          have HI2 := Lib.hid hI
          clear hg hno hk hI hkw hT
          go_wp2_with fail
          with_reducible refine (idx_getc a1 7 true HG.out HK2.out HI2.out).mono ?_
          rintro e w6 ⟨rfl, f6⟩
          have I6 := HI2.out.fr f6 (by simp) (by simp)
          have F6 := hFr.trans f6
          clear f6
          go_wp2_with fail
          (try rw [hkw2.out])
          with_reducible refine (idx_getc (a1 + (r : Int) * d) nn false HNO.out HK2.out I6).mono ?_
          rintro e w7 ⟨rfl, f7⟩
          have F7 := F6.trans f7
          clear f7 I6
          go_wp2_with fail
          go_ret
          exact ⟨rfl, F7⟩
end Go.Proofs.Ytobekkgaildbgaa
