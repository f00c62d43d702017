/- ReqValues answers true at every values, number and beginning, and changes nothing that was there. -/
import Derived.Test.YtobekkgaildbgaaReqValuesLaw
namespace Go.Proofs.Ytobekkgaildbgaa
open Go.RowKit Go.Lib Go.Maps

set_option maxRecDepth 100000 in
set_option maxHeartbeats 2000000 in
theorem qtakeC (t b : Nat) (room : Int) (A : Option Addr) (n c : Nat) (w : World) (HT : w.heap[t]? = some (.cells #[.int .i64 room, .map (some b), .slice A n c] 84)) :
    Calls Try.prog 42 #[.pointer (some ⟨t, 0, none⟩)] w fun e w' => e = .returned (.slice A n c) ∧ Fr [t] w w' := by
  apply blk_use HT; intro hg1 hc1 hz1 _ _ _ _ _
  go_enter Try.func42, Try.ntmps42
  go_wp2
  go_ret
  exact ⟨rfl, (by repeat' (first | (with_reducible exact Fr.refl _ _) | (with_reducible assumption) | (with_reducible refine Fr.drew ?_) | (with_reducible refine Fr.drewN ?_ _) | (with_reducible refine Fr.alloc ?_ _) | ((with_reducible refine Fr.setNew ?_ _ ?_ _); rotate_left; (focus (first | (with_reducible assumption) | exact Nat.le_of_lt (by with_reducible assumption) | (focus (simp +arith; done)) | exact Nat.le_trans (by with_reducible assumption) (by simp +arith; done) | (simp; done)))) | ((with_reducible refine Fr.setOld ?_ _ ?_ _); rotate_left; (focus (simp; done)))))⟩
/-- In a region: answers are taken at k1, one is laid at k5. -/
structure TkS (w0 : World) (t k1 k5 : Nat) (o0 : Obj) (lit : Array Value) (T : TypeId) (b : Nat → Bool) (V : Nat → Value) (w : World) : Prop where
  fr : Fr [t] w0 w
  t0 : b k1 = false → w.heap[t]? = some o0
  l : b k5 = true → ∃ q, V k5 = .slice (some ⟨q, 0, none⟩) 1 1 ∧ w0.heap.size ≤ q ∧ q ≠ t ∧ w.heap[q]? = some (.cells lit T)
section
variable {w0 w w' : World} {t k1 k5 : Nat} {o0 : Obj} {lit : Array Value} {T : TypeId} {b : Nat → Bool} {V : Nat → Value}
theorem TkS.start (h : w0.heap[t]? = some o0) : TkS w0 t k1 k5 o0 lit T (fun _ => false) V w0.drew := ⟨(Fr.refl _ _).drew, fun _ => h, by simp⟩
theorem TkS.plain (h : TkS w0 t k1 k5 o0 lit T b V w) {j : Nat} (hj : k1 ≠ j ∧ k5 ≠ j) (f : Fr [] w w') : TkS w0 t k1 k5 o0 lit T (updD b j) V w' :=
  ⟨h.fr.trans (f.mono (by simp)), fun q => f.heap (h.t0 (by rwa [dD_ne hj.1] at q)) (by simp), fun q => by obtain ⟨p, p1, p2, p3, p4⟩ := h.l (by rwa [dD_ne hj.2] at q); exact ⟨p, p1, p2, p3, f.heap p4 (by simp)⟩⟩
theorem TkS.take (h : TkS w0 t k1 k5 o0 lit T b V w) (hn : k5 ≠ k1) (f : Fr [t] w w') : TkS w0 t k1 k5 o0 lit T (updD b k1) V w' :=
  ⟨h.fr.trans f, fun q => (by rw [dD_eq] at q; cases q), fun q => by obtain ⟨p, p1, p2, p3, p4⟩ := h.l (by rwa [dD_ne hn] at q); exact ⟨p, p1, p2, p3, f.heap p4 (by simpa using p3)⟩⟩
theorem TkS.made (h : TkS w0 t k1 k5 o0 lit T b V w) (hn : k1 ≠ k5) (ht : t < w0.heap.size) {q : Nat} (hq : w.heap.size ≤ q) (f : Fr [] w w') (hc : w'.heap[q]? = some (.cells lit T)) : TkS w0 t k1 k5 o0 lit T (updD b k5) (updV V k5 (.slice (some ⟨q, 0, none⟩) 1 1)) w' :=
  ⟨h.fr.trans (f.mono (by simp)), fun e => f.heap (h.t0 (by rwa [dD_ne hn] at e)) (by simp), fun _ => ⟨q, by rw [dV_eq], Nat.le_trans h.fr.size hq, by have := h.fr.size; omega, hc⟩⟩
end
set_option maxRecDepth 100000 in
set_option maxHeartbeats 8000000 in
theorem qvalues_walk (x0 x1 x2 x3 x4 x5 x6 x7 h1 h2 : Int) (wx0 : (Lit.int .u64 x0).wf = true) (wx1 : (Lit.int .u64 x1).wf = true) (wx2 : (Lit.int .u64 x2).wf = true) (wx3 : (Lit.int .u64 x3).wf = true) (wx4 : (Lit.int .u64 x4).wf = true) (wx5 : (Lit.int .u64 x5).wf = true) (wx6 : (Lit.int .u64 x6).wf = true) (wx7 : (Lit.int .u64 x7).wf = true) (wf1 : (Lit.int .u8 h1).wf = true) (wf2 : (Lit.int .u8 h2).wf = true) (w : World) :
    Calls Try.prog 12 #[.agg #[.int .u64 x0, .int .u64 x1, .int .u64 x2, .int .u64 x3, .int .u64 x4, .int .u64 x5, .int .u64 x6, .int .u64 x7], .int .u8 h1, .int .u8 h2] w fun e w' => e = .returned (.bool true) ∧ Fr [] w w' := by
  have fol : Try.prog.follows .mixedOrders = true := by kernel_rfl
  obtain ⟨u1, u2⟩ := u8_bounds wf1
  obtain ⟨u3, u4⟩ := u8_bounds wf2
  clear wx0 wx1 wx2 wx3 wx4 wx5 wx6 wx7 wf1 wf2
  obtain ⟨n, hn⟩ : ∃ n : Nat, (n : Int) = 1 + h1 % 8 := ⟨(1 + h1 % 8).toNat, by omega⟩
  obtain ⟨a, ha⟩ : ∃ a : Nat, (a : Int) = h2 % 8 := ⟨(h2 % 8).toNat, by omega⟩
  obtain ⟨c, hc⟩ : ∃ c : Nat, (c : Int) = h2 / 8 % 4 := ⟨(h2 / 8 % 4).toNat, by omega⟩
  have n1 : 1 ≤ n := by omega
  have n2 : n < 9 := by omega
  have a1 : a < 8 := by omega
  have c1 : c < 4 := by omega
  have HNN := Lib.hid hn
  have HAA := Lib.hid ha
  have HCC := Lib.hid hc
  obtain ⟨xs, hxs⟩ : ∃ xs : List Int, xs = [x0, x1, x2, x3, x4, x5, x6, x7] := ⟨_, rfl⟩
  have hxl : xs.length = 8 := by rw [hxs]; rfl
  have HXL := Lib.hid hxl
  have HXS := Lib.hid hxs
  have HN := Lib.hid (fun w => qnew (room := 1) (by decide) (by decide) w)
  have HO : Hid (∀ w B M t, ReqM w B M t 1 ⟨[], []⟩ → Calls Try.prog 44 #[.pointer (some ⟨t, 0, none⟩), .int .i64 3, .int .i64 1, .int .i64 n] w fun e w' => e = .returned (.int .i64 0) ∧ ReqM w' B M t 1 (stV xs n a c 0) ∧ KeepM B M w w') := by
    intro w B M t h
    have := qopen 3 1 n (by simp) h (by decide)
    rw [stV_0 (xs := xs) n2 (by omega) a1 c1] at this
    exact this
  have n1' : (1 : Int) ≤ (n : Int) := by omega
  have n2' : (n : Int) ≤ 8 := by omega
  have a1' : (a : Int) < 8 := by omega
  clear hn ha hc hxs hxl
  go_enter Try.func12, Try.ntmps12
  go_wp2_with fail
  with_reducible refine (qawake _).mono ?_
  rintro e w1 ⟨rfl, f1⟩
  have P1 : w1.heap[w.heap.size]? = some (.cells #[.int .u64 x0, .int .u64 x1, .int .u64 x2, .int .u64 x3, .int .u64 x4, .int .u64 x5, .int .u64 x6, .int .u64 x7] 71) := f1.heap (by (apply heap_eq_of; (focus (repeat (first | (with_reducible assumption) | ((with_reducible refine heap_alloc_at ?_ _); first | (with_reducible rfl) | (focus (simp; done))) | (with_reducible apply heap_alloc_old) | ((with_reducible apply heap_set_other); (case hne => (first | (with_reducible assumption) | exact Nat.ne_of_lt (by with_reducible assumption) | exact Nat.ne_of_gt (by with_reducible assumption) | (focus (simp +arith; done)) | (simp; done)))) | (with_reducible apply heap_set_eq) | (with_reducible apply heap_drew_of) | (with_reducible apply heap_drewN_of)))); (focus (first | (simp; done) | rfl)))) (by simp)
  have F1 : Fr [] w w1 := Fr.trans (by repeat' (first | (with_reducible exact Fr.refl _ _) | (with_reducible assumption) | (with_reducible refine Fr.drew ?_) | (with_reducible refine Fr.drewN ?_ _) | (with_reducible refine Fr.alloc ?_ _) | ((with_reducible refine Fr.setNew ?_ _ ?_ _); rotate_left; (focus (first | (with_reducible assumption) | exact Nat.le_of_lt (by with_reducible assumption) | (focus (simp +arith; done)) | exact Nat.le_trans (by with_reducible assumption) (by simp +arith; done) | (simp; done)))) | ((with_reducible refine Fr.setOld ?_ _ ?_ _); rotate_left; (focus (simp; done))))) f1
  have hpb : w.heap.size < w1.heap.size := lt_of_heap P1
  clear f1
  go_wp2_with fail
  with_reducible refine (HN.out _).mono ?_
  rintro e w2 ⟨⟨t, rfl, T2⟩, f2⟩
  have F2 := F1.trans f2
  have P2 := f2.heap P1 (by simp)
  have T2 := Lib.hid T2
  have HZ : Hid (w.heap.size ≤ w1.heap.size ∧ w.heap.size < w1.heap.size) := ⟨F1.size, hpb⟩
  have z2 : w1.heap.size ≤ w2.heap.size := f2.size
  clear F1 f2 P1 hpb
  generalize w1.heap.size = B at *
  generalize hp0 : w.heap.size = p0 at *
  have HP0 := Lib.hid hp0
  clear hp0
  go_wp2_with fail
  rw [← HNN.out]
  with_reducible refine (HO.out _ _ _ _ T2.out).mono ?_
  rintro e w3 ⟨rfl, T3, K3⟩
  have F3 := K3.fr F2 (by have := HZ.out.1; have := HP0.out; omega)
  have P3 := K3.low P2 HZ.out.2
  have z3 := Nat.le_trans z2 K3.size
  have T3 := Lib.hid T3
  clear F2 P2 z2 T2 K3
  go_upto_region 8 with fail
  rw [← HAA.out]
  go_cut [11] (fun v11 wc => v11 = .int .i64 (2 * (c : Int) + 1) ∧ Fr [] w3 wc)
  case first =>
    have hc4 : (h2 / 8 % 4 = 0 ∧ c = 0) ∨ (h2 / 8 % 4 = 1 ∧ c = 1) ∨ (h2 / 8 % 4 = 2 ∧ c = 2) ∨ (h2 / 8 % 4 = 3 ∧ c = 3) := by have := HCC.out; omega
    rcases hc4 with ⟨hq, h⟩ | ⟨hq, h⟩ | ⟨hq, h⟩ | ⟨hq, h⟩
    all_goals
      have HH := Lib.hid h
      clear h
      go_wp2
      go_meet
      exact ⟨by congr 1; have := HH.out; omega, (by repeat' (first | (with_reducible exact Fr.refl _ _) | (with_reducible assumption) | (with_reducible refine Fr.drew ?_) | (with_reducible refine Fr.drewN ?_ _) | (with_reducible refine Fr.alloc ?_ _) | ((with_reducible refine Fr.setNew ?_ _ ?_ _); rotate_left; (focus (first | (with_reducible assumption) | exact Nat.le_of_lt (by with_reducible assumption) | (focus (simp +arith; done)) | exact Nat.le_trans (by with_reducible assumption) (by simp +arith; done) | (simp; done)))) | ((with_reducible refine Fr.setOld ?_ _ ?_ _); rotate_left; (focus (simp; done)))))⟩
  case rest =>
    obtain ⟨rfl, f4⟩ := hcut
    have F4 := F3.trans f4
    have P4 := f4.heap P3 (by simp)
    have T4 := Lib.hid (T3.out.fr0 f4)
    have z4 := Nat.le_trans z3 f4.size
    clear F3 P3 z3 T3 f4
    obtain ⟨y, hy⟩ : ∃ y : Int, y = 2 * (c : Int) + 1 := ⟨_, rfl⟩
    rw [← hy]
    have y1 : 1 ≤ y := by omega
    have y2 : y ≤ 7 := by omega
    have HYY := Lib.hid hy
    clear hy
    go_wp2_with fail
    go_loopw [12, 13] (fun l v wr => ∃ i : Nat, v = .int .i64 i ∧ l = .int .i64 ((psV n a c i).count 1 : Nat) ∧ i ≤ 8 ∧ ReqM wr B [] t 1 (stV xs n a c i) ∧ Fr [] w wr ∧ wr.heap[p0]? = some (.cells #[.int .u64 x0, .int .u64 x1, .int .u64 x2, .int .u64 x3, .int .u64 x4, .int .u64 x5, .int .u64 x6, .int .u64 x7] 71) ∧ B ≤ wr.heap.size) (fun _ v _ => 9 - (intOf v).toNat)
    case atStart => exact ⟨0, rfl, by
      have e := (psV_at n n2 a a1 c c1 0 (by omega)).2.2.2.2.2 rfl
      have e2 : (freshP n).count 1 = n := by unfold freshP; simp [List.count_replicate]
      rw [e, e2], by omega, T4.out, F4, P4, z4⟩
    case round =>
      clear T4 F4 P4 z4
      obtain ⟨i, rfl, rfl, i1, hT, hFr, hP, hz⟩ := hrel
      have HT := Lib.hid hT
      clear hT
      by_cases hlt : i < 8
      · have hkl := kkV_lt a c i
        have hkk : ((a : Int) + (i : Int) * y) % 8 = ((kkV a c i : Nat) : Int) := by
          rw [HYY.out]; unfold kkV; push_cast; rfl
        have HKK := Lib.hid hkk
        have hi8 : (i : Int) ≤ 7 := by omega
        have hm0 : 0 ≤ (i : Int) * y := Int.mul_nonneg (by omega) (by omega)
        have hm1 : (i : Int) * y ≤ 49 := by
          have := Int.mul_le_mul hi8 y2 (by omega) (by omega)
          simpa using this
        have hxk : xs[kkV a c i]? = some (xs.getD (kkV a c i) 0) := by
          rw [List.getD_eq_getElem?_getD, List.getElem?_eq_getElem (by rw [HXL.out]; exact hkl)]; rfl
        have hck : wr.cell? ⟨p0, kkV a c i, none⟩ = some (.int .u64 (xs.getD (kkV a c i) 0)) := by
          rw [blk_cell hP, ← Array.getElem?_toList]
          have : #[Value.int .u64 x0, .int .u64 x1, .int .u64 x2, .int .u64 x3, .int .u64 x4, .int .u64 x5, .int .u64 x6, .int .u64 x7].toList = xs.map (Value.int .u64) := by rw [HXS.out]; rfl
          rw [this, List.getElem?_map, hxk]; rfl
        have hkl' : ((kkV a c i : Nat) : Int) < 8 := by omega
        have hw64 : (Lit.int .i64 ((kkV a c i : Nat) : Int)).wf = true := (show ∀ k : Nat, k < 8 → (Lit.int .i64 (k : Int)).wf = true by decide) _ hkl
        have HE : (stV xs n a c i).E.length ≤ 1000 := by rw [stV_E]; split <;> omega
        have HKL : (stV xs n a c i).K.length ≤ 1000 := by unfold stV; split <;> simp
        have HG := Lib.hid (qgive 3 ((kkV a c i : Nat) : Int) (xs.getD (kkV a c i) 0) HT.out (by decide) hw64 HE HKL hz)
        clear hkk hxk hw64 HE HKL
        go_upto_region 14 with fail
        rw [HKK.out]
        clear hm0 hm1
        by_cases hkn : n ≤ kkV a c i
        · have e1 := (psV_facts n n2 a a1 c c1 i hlt).1 hkn
          have hkd : decide (n ≤ kkV a c i) = true := by simpa using hkn
          by_cases hp : 1 ∈ psV n a c i
          ·
            --@no
            have hE := stV_no (xs := xs) n2 a1 c1 hlt hkn (xs.getD (kkV a c i) 0) hp
            rw [hE] at HG
            have hL : (psV n a c (i + 1)).count 1 = (psV n a c i).count 1 := by rw [e1]
            have hL0 : 0 < (psV n a c i).count 1 := List.count_pos_iff.2 hp
            have HL := Lib.hid hL
            generalize (psV n a c i).count 1 = L at *
            have hL1 : (0 : Int) < (L : Int) := by omega
            have hL2 : ((L : Int) == 0) = false := by simp; omega
            generalize xs.getD (kkV a c i) 0 = xk at *
            generalize kkV a c i = k at *
            clear hE hL e1 hp hkn hL0
            simp only at HG
            have HP := Lib.hid hP
            clear hP
            go_wp2_with fail
            with_reducible refine HG.out.mono ?_
            rintro e w5 ⟨rfl, T5, K5⟩
            have F5 := K5.fr hFr (by have := HZ.out.1; have := HP0.out; omega)
            have P5 := K5.low HP.out HZ.out.2
            have z5 := Nat.le_trans hz K5.size
            clear K5
            go_wp2_with fail
            go_roundw
            case rel => exact ⟨i + 1, by go_num, by rw [HL.out], by omega, T5, F5, P5, z5⟩
            case measure => simp [intOf]; omega
          ·
            --@done
            have hE := stV_done (xs := xs) n2 a1 c1 hlt hkn (xs.getD (kkV a c i) 0) hp
            rw [hE] at HG
            have hL : (psV n a c (i + 1)).count 1 = 0 := by rw [e1]; exact cnt1.2 hp
            have hL0 : (psV n a c i).count 1 = 0 := cnt1.2 hp
            rw [hL0]
            have HL := Lib.hid hL
            generalize xs.getD (kkV a c i) 0 = xk at *
            generalize kkV a c i = k at *
            clear hE hL e1 hp hkn hL0
            simp only at HG
            have HP := Lib.hid hP
            clear hP
            go_wp2_with fail
            with_reducible refine HG.out.mono ?_
            rintro e w5 ⟨rfl, T5, K5⟩
            have F5 := K5.fr hFr (by have := HZ.out.1; have := HP0.out; omega)
            have P5 := K5.low HP.out HZ.out.2
            have z5 := Nat.le_trans hz K5.size
            clear K5
            go_wp2_with fail
            go_roundw
            case rel => exact ⟨i + 1, by go_num, by rw [HL.out]; rfl, by omega, T5, F5, P5, z5⟩
            case measure => simp [intOf]; omega
        · have hkn' : kkV a c i < n := by omega
          have hE := stV_ok HXL.out n2 a1 c1 hlt hkn'
          rw [hE] at HG
          have hL := ((psV_facts n n2 a a1 c c1 i hlt).2 hkn').2.2.1
          have htc := stV_touched (xs := xs) n2 a1 c1 hlt hkn'
          have hee := stV_E (xs := xs) (n := n) (a := a) (c := c) (i := i + 1)
          have hc0 := cnt1 (n := n) (a := a) (c := c) (i := i + 1)
          have HPN := Lib.hid (fun w (h : ReqM w B [] t 1 (stV xs n a c (i + 1))) => qpending h (by rw [stV_E]; split <;> omega))
          have HTC := Lib.hid (fun w (h : ReqM w B [] t 1 (stV xs n a c (i + 1))) => qtouched 3 h (by decide))
          rw [htc] at HTC
          rw [hL]
          obtain ⟨L, hLL⟩ : ∃ L, L = (psV n a c (i + 1)).count 1 := ⟨_, rfl⟩
          have HL := Lib.hid hLL
          have hL9 : L ≤ 8 := by rw [hLL]; exact (psV_at n n2 a a1 c c1 (i + 1) (by omega)).2.2.2.1
          have hL8 : (L : Int) ≤ 8 := by omega
          rw [← hLL] at hc0 ⊢
          have hpq : (L = 0 ∧ (stV xs n a c (i + 1)).E.length = 0 ∧ decide (1 ∈ psV n a c (i + 1)) = false) ∨ (0 < L ∧ (stV xs n a c (i + 1)).E.length = 1 ∧ decide (1 ∈ psV n a c (i + 1)) = true) := by
            by_cases hq : 1 ∈ psV n a c (i + 1)
            · right; exact ⟨Nat.pos_of_ne_zero (fun e => hc0.1 e hq), by rw [hee, if_pos hq], by simpa using hq⟩
            · left; exact ⟨hc0.2 hq, by rw [hee, if_neg hq], by simpa using hq⟩
          have hkd : decide (n ≤ kkV a c i) = false := by simpa using hkn
          generalize decide (1 ∈ psV n a c (i + 1)) = β at *
          generalize xs.getD (kkV a c i) 0 = xk at *
          generalize kkV a c i = k at *
          clear hE hL htc hee hc0 hLL hkn hkn'
          simp only at HG
          have HP := Lib.hid hP
          clear hP
          have HEL : Hid (∀ ks : List Int, ks.Perm ((stV xs n a c (i + 1)).E.map Prod.fst) → ks.length = (stV xs n a c (i + 1)).E.length) := fun ks h => by rw [h.length_eq, List.length_map]
          rcases hpq with ⟨rfl, hel, rfl⟩ | ⟨hL1, hel, rfl⟩
          ·
            --@last
            have HEL2 := Lib.hid hel
            clear hel
            go_wp2_with fail
            with_reducible refine HG.out.mono ?_
            rintro e w5 ⟨rfl, T5, K5⟩
            have F5 := K5.fr hFr (by have := HZ.out.1; have := HP0.out; omega)
            have P5 := K5.low HP.out HZ.out.2
            have z5 := Nat.le_trans hz K5.size
            have T5 := Lib.hid T5
            clear K5 hFr hz HT
            go_wp2_with fail
            with_reducible refine (HPN.out _ T5.out).mono ?_
            rintro e w6 ⟨⟨v6, ks, rfl, O6, h61, _⟩, f6⟩
            obtain ⟨A6, c6, rfl⟩ := O6.shape
            rw [HEL.out ks h61, HEL2.out]
            have F6 := F5.trans f6
            have P6 := f6.heap P5 (by simp)
            have z6 := Nat.le_trans z5 f6.size
            have T6 := Lib.hid (T5.out.fr0 f6)
            clear F5 P5 z5 T5 f6 O6 h61
            have hmn : ∀ w, (Builtin.min_ #[3, 3] 3 #[.int .i64 0, .int .i64 1]).run Try.prog w = .ok (.int .i64 0) w := fun w => rfl
            go_wp2_with fail
            with_reducible refine (HTC.out _ T6.out).mono ?_
            rintro e w7 ⟨rfl, f7⟩
            go_wp2_with fail
            go_roundw
            case rel => exact ⟨i + 1, by go_num, by rw [← HL.out]; rfl, by omega, T6.out.fr0 f7, F6.trans f7, f7.heap P6 (by simp), Nat.le_trans z6 f7.size⟩
            case measure => simp [intOf]; omega
          ·
            --@more
            have HEL2 := Lib.hid hel
            clear hel
            have hL2 : (0 : Int) < (L : Int) := by omega
            have hmin : min (L : Int) 1 = 1 := by omega
            go_wp2_with fail
            with_reducible refine HG.out.mono ?_
            rintro e w5 ⟨rfl, T5, K5⟩
            have F5 := K5.fr hFr (by have := HZ.out.1; have := HP0.out; omega)
            have P5 := K5.low HP.out HZ.out.2
            have z5 := Nat.le_trans hz K5.size
            have T5 := Lib.hid T5
            clear K5 hFr hz HT
            go_wp2_with fail
            with_reducible refine (HPN.out _ T5.out).mono ?_
            rintro e w6 ⟨⟨v6, ks, rfl, O6, h61, _⟩, f6⟩
            obtain ⟨A6, c6, rfl⟩ := O6.shape
            rw [HEL.out ks h61, HEL2.out]
            have F6 := F5.trans f6
            have P6 := f6.heap P5 (by simp)
            have z6 := Nat.le_trans z5 f6.size
            have T6 := Lib.hid (T5.out.fr0 f6)
            clear F5 P5 z5 T5 f6 O6 h61
            clear hmin
            have hmn : ∀ w, (Builtin.min_ #[3, 3] 3 #[.int .i64 (L : Int), .int .i64 1]).run Try.prog w = .ok (.int .i64 1) w := fun w => by
              have e : (if (1 : Int) < (L : Int) then (1 : Int) else (L : Int)) = 1 := by split <;> omega
              show Result.ok (Value.int .i64 (if (1 : Int) < (L : Int) then 1 else (L : Int))) w = _
              rw [e]
            all_goals
              go_wp2_with fail
              with_reducible refine (HTC.out _ T6.out).mono ?_
              rintro e w7 ⟨rfl, f7⟩
              go_wp2_with fail
              go_roundw
              case rel => exact ⟨i + 1, by go_num, by first | (rw [← HL.out]; done) | (rw [← HL.out]; rfl), by omega, T6.out.fr0 f7, F6.trans f7, f7.heap P6 (by simp), Nat.le_trans z6 f7.size⟩
              case measure => simp [intOf]; omega
      ·
        --@end
        obtain rfl : i = 8 := by omega
        have hp8 : 1 ∉ psV n a c 8 := (psV_at n n2 a a1 c c1 8 (by omega)).2.2.2.2.1 rfl
        have hs8 : stV xs n a c 8 = ⟨[], [⟨3, 0, xs.take n⟩]⟩ := by unfold stV; rw [if_neg hp8]
        have hT8 := HT.out
        rw [hs8] at hT8
        obtain ⟨b, base, v, ys, H⟩ := hT8
        have hyl := H.av.len
        obtain ⟨A9, c9, hv9⟩ := H.ow.shape
        subst hv9
        have T8 := H.ht
        have S8 : Hid (eA.Sl [t] wr (.slice A9 ys.length c9) ys) := H.ow.sl (by simpa using H.lt.1)
        have V8 : Hid (AnsR wr [t] ys [⟨3, 0, xs.take n⟩]) := H.av.imp (fun _ _ q => q.mono (by simp))
        have htB : Hid (B ≤ t) := H.bb.1
        have htl : t < wr.heap.size := lt_of_heap T8
        have U8 : Hid (eU.Sl [t] wr (.slice (some ⟨p0, 0, none⟩) n 8) (xs.take n)) := by
          refine ⟨_, 8, by rw [List.length_take, HXL.out, Nat.min_eq_left (by omega)], by rw [List.length_take]; omega, Or.inr ⟨p0, 0, rfl, lt_of_heap hP, by have := htB.out; have := HZ.out.2; simp; omega, fun j u hj => ?_⟩⟩
          rw [eU_cs, List.map_take, List.getElem?_take] at hj
          split at hj
          · rw [Nat.zero_add, blk_cell hP, ← Array.getElem?_toList]
            have : #[Value.int .u64 x0, .int .u64 x1, .int .u64 x2, .int .u64 x3, .int .u64 x4, .int .u64 x5, .int .u64 x6, .int .u64 x7].toList = xs.map (Value.int .u64) := by rw [HXS.out]; rfl
            rw [this]; exact hj
          · cases hj
        have HAN : Hid (∀ W q, Fr [t] wr W → q ≠ t → wr.heap.size ≤ q → W.heap[q]? = some (.cells #[.int .i64 3, .int .i64 0, .slice (some ⟨p0, 0, none⟩) n 8] 65) → Calls Try.prog 41 #[.slice A9 ys.length c9, .slice (some ⟨q, 0, none⟩) 1 1] W fun e w' => e = .returned (.bool true) ∧ Fr [] W w') := by
          intro W q hW hq hq2 hQ
          exact ranswers ys [⟨3, 0, some ⟨p0, 0, none⟩, n, 8⟩] [⟨3, 0, xs.take n⟩] A9 (some ⟨q, 0, none⟩) c9 1 (by simp) (by simp; have := HXL.out; omega) [t] [t] [] [t] W (S8.out.fr hW (by simp)) (V8.out.fr hW (by simp))
            ((El.Own.lit (E := eA) (base := 0) [⟨3, 0, some ⟨p0, 0, none⟩, n, 8⟩] hQ (by omega) rfl eAok (by simp [maxLen]) 1 rfl).sl (by simp))
            ⟨⟨rfl, rfl, U8.out.fr hW (by simp)⟩, trivial⟩
        have HF8 := Lib.hid hFr
        clear H HT hp8 hs8 hyl S8 V8 U8 hP hFr hz
        go_wp2_with fail
        refine wp_region_seqV_lit (TkS wr t 1 5 _ #[.int .i64 3, .int .i64 0, .slice (some ⟨p0, 0, none⟩) n 8] 65) fol (by kernel_rfl) (TkS.start T8) ?_
        (iterate 1 (apply SeqV.cons; (focus (intro Vv bv wv hbv hdv hsh hSv; skip; clear hsh hdv; go_wp2_with (fail); exact StepPost.mk rfl (hSv.plain (by decide) (by repeat' (first | (with_reducible exact Fr.refl _ _) | (with_reducible assumption) | (with_reducible refine Fr.drew ?_) | (with_reducible refine Fr.drewN ?_ _) | (with_reducible refine Fr.alloc ?_ _) | ((with_reducible refine Fr.setNew ?_ _ ?_ _); rotate_left; (focus (first | (with_reducible assumption) | exact Nat.le_of_lt (by with_reducible assumption) | (focus (simp +arith; done)) | exact Nat.le_trans (by with_reducible assumption) (by simp +arith; done) | (simp; done)))) | ((with_reducible refine Fr.setOld ?_ _ ?_ _); rotate_left; (focus (simp; done)))))))); (try simp only [Act.put, List.setIfInBounds_toArray, List.set_cons_zero, List.set_cons_succ, Nat.reduceAdd, Nat.zero_add])))
        apply SeqV.cons (v := .slice A9 ys.length c9); (focus (intro Vv bv wv hbv hdv hsh hSv; have t0 := hSv.t0 hbv; clear hsh hdv; go_wp2_with fail; with_reducible refine (qtakeC t b 1 A9 ys.length c9 _ t0).mono ?_; rintro e ww ⟨rfl, ff⟩; go_wp2_with fail; exact StepPost.mk rfl (hSv.take (by decide) ff))); (try simp only [Act.put, List.setIfInBounds_toArray, List.set_cons_zero, List.set_cons_succ, Nat.reduceAdd, Nat.zero_add])
        (iterate 3 (apply SeqV.cons; (focus (intro Vv bv wv hbv hdv hsh hSv; skip; clear hsh hdv; go_wp2_with (fail); exact StepPost.mk rfl (hSv.plain (by decide) (by repeat' (first | (with_reducible exact Fr.refl _ _) | (with_reducible assumption) | (with_reducible refine Fr.drew ?_) | (with_reducible refine Fr.drewN ?_ _) | (with_reducible refine Fr.alloc ?_ _) | ((with_reducible refine Fr.setNew ?_ _ ?_ _); rotate_left; (focus (first | (with_reducible assumption) | exact Nat.le_of_lt (by with_reducible assumption) | (focus (simp +arith; done)) | exact Nat.le_trans (by with_reducible assumption) (by simp +arith; done) | (simp; done)))) | ((with_reducible refine Fr.setOld ?_ _ ?_ _); rotate_left; (focus (simp; done)))))))); (try simp only [Act.put, List.setIfInBounds_toArray, List.set_cons_zero, List.set_cons_succ, Nat.reduceAdd, Nat.zero_add])))
        apply SeqV.var; (focus (intro Vv bv wv hbv hdv hsh hSv; clear hsh hdv; go_wp2_with fail; exact StepV.mk _ rfl (hSv.made (by decide) htl (Nat.le_refl _) (by repeat' (first | (with_reducible exact Fr.refl _ _) | (with_reducible assumption) | (with_reducible refine Fr.drew ?_) | (with_reducible refine Fr.drewN ?_ _) | (with_reducible refine Fr.alloc ?_ _) | ((with_reducible refine Fr.setNew ?_ _ ?_ _); rotate_left; (focus (first | (with_reducible assumption) | exact Nat.le_of_lt (by with_reducible assumption) | (focus (simp +arith; done)) | exact Nat.le_trans (by with_reducible assumption) (by simp +arith; done) | (simp; done)))) | ((with_reducible refine Fr.setOld ?_ _ ?_ _); rotate_left; (focus (simp; done))))) (by (apply heap_eq_of; (focus (repeat (first | (with_reducible assumption) | ((with_reducible refine heap_alloc_at ?_ _); first | (with_reducible rfl) | (focus (simp; done))) | (with_reducible apply heap_alloc_old) | ((with_reducible apply heap_set_other); (case hne => (first | (with_reducible assumption) | exact Nat.ne_of_lt (by with_reducible assumption) | exact Nat.ne_of_gt (by with_reducible assumption) | (focus (simp +arith; done)) | (simp; done)))) | (with_reducible apply heap_set_eq) | (with_reducible apply heap_drew_of) | (with_reducible apply heap_drewN_of)))); (focus (first | (simp; done) | rfl))))))); (try simp only [Act.put, List.setIfInBounds_toArray, List.set_cons_zero, List.set_cons_succ, Nat.reduceAdd, Nat.zero_add])
        apply SeqV.cons (v := .bool true); (focus (intro Vv bv wv hbv hdv hsh hSv; have d5 := hdv { on := 5, ground := .data } (by simp) rfl; obtain ⟨q, q1, q2, q3, q4⟩ := hSv.l d5; have hc9 := HAN.out _ q hSv.fr q3 q2 q4; rw [← q1] at hc9; have hc9 := Lib.hid hc9; clear hsh hdv q1 q2 q3 q4 d5; go_wp2_with fail; with_reducible refine hc9.out.mono ?_; rintro e ww ⟨rfl, ff⟩; go_wp2_with fail; exact StepPost.mk rfl (hSv.plain (by decide) ff))); (try simp only [Act.put, List.setIfInBounds_toArray, List.set_cons_zero, List.set_cons_succ, Nat.reduceAdd, Nat.zero_add])
        (iterate 1 (apply SeqV.cons; (focus (intro Vv bv wv hbv hdv hsh hSv; skip; clear hsh hdv; go_wp2_with (fail); exact StepPost.mk rfl (hSv.plain (by decide) (by repeat' (first | (with_reducible exact Fr.refl _ _) | (with_reducible assumption) | (with_reducible refine Fr.drew ?_) | (with_reducible refine Fr.drewN ?_ _) | (with_reducible refine Fr.alloc ?_ _) | ((with_reducible refine Fr.setNew ?_ _ ?_ _); rotate_left; (focus (first | (with_reducible assumption) | exact Nat.le_of_lt (by with_reducible assumption) | (focus (simp +arith; done)) | exact Nat.le_trans (by with_reducible assumption) (by simp +arith; done) | (simp; done)))) | ((with_reducible refine Fr.setOld ?_ _ ?_ _); rotate_left; (focus (simp; done)))))))); (try simp only [Act.put, List.setIfInBounds_toArray, List.set_cons_zero, List.set_cons_succ, Nat.reduceAdd, Nat.zero_add])))
        refine SeqV.nil ?_
        intro Vv bv w9 hb9 hSv
        have F9 := HF8.out.trans' hSv.fr (by intro x hx; simp at hx; subst hx; right; have := htB.out; have := HZ.out.1; have := HP0.out; omega)
        clear hSv hb9
        go_wp2_with fail
        go_ret
        exact ⟨rfl, F9⟩
end Go.Proofs.Ytobekkgaildbgaa
