/- The reference of package index: Put, Get, Far, Del, May, New. -/
import Derived.Test.YtobekkgaildbgaaIdxRef
namespace Go.Proofs.Ytobekkgaildbgaa
open Go.RowKit

section
variable {w w' : World} {r bi bk bn N : Nat} {T : Tb} {K V : Nat → Int} {c : Int}
set_option maxHeartbeats 1000000 in
theorem rx_right (key : Int) : Calls Try.prog 50 #[.int .i64 key] w fun e w' => e = .returned (.bool (rightK key)) ∧ w = w' := by
  unfold rightK
  go_enter Try.func50, Try.ntmps50
  go_wp2
  all_goals (go_ret; refine ⟨ret_bool ?_, rfl⟩; (try simp only [ge_iff_le, decide_eq_true_eq, decide_eq_false_iff_not] at *); first | (symm; simp; omega) | (simp; omega))
theorem atL_yes {key : Int} (hg : (getL N T key).2 = true) : atL N T key = (findL N T (key + 1) : Nat) := by unfold atL; rw [if_pos hg]
theorem atL_no {key : Int} (hg : (getL N T key).2 = false) : atL N T key = -1 := by unfold atL; rw [if_neg (by rw [hg]; simp)]

set_option maxRecDepth 100000 in
set_option maxHeartbeats 4000000 in
theorem rx_get (hk : IOk N T c) (hA : Agr N T K V) (key : Int) (H : RIx w r bi bk bn N T K V) :
    Calls Try.prog 22 #[.pointer (some ⟨r, 0, none⟩), .int .i64 key] w fun e w' => e = .returned (.tuple #[.int .i64 (if (getL N T key).2 = true then (getL N T key).1 else 0), .bool (getL N T key).2]) ∧ w = w' := by
  have HAt := Lib.hid (rx_at (w := w) hk hA key H)
  have HX := H.hr
  by_cases hg : (getL N T key).2 = true
  · have e1 := atL_yes hg
    obtain ⟨hr, hp⟩ := getL_true hg
    have hf := (hk.found (key + 1)).lt
    have e2 : (getL N T key).1 = V (findL N T (key + 1)) := by
      unfold getL; rw [if_neg (by rw [hr]; simp)]; exact (hA _ hf hp).2.symm
    rw [if_pos hg, hg, e2]
    rw [e1] at HAt
    obtain ⟨_, _, c2⟩ := H.cell hf
    have hf' : ((findL N T (key + 1) : Nat) : Int) < N := by omega
    generalize findL N T (key + 1) = f at *
    clear H hk hA hg hr hp e1 e2
    apply blk_use HX; intro hg1 hc1 hz1 _ _ _ _ _
    go_enter Try.func22, Try.ntmps22
    go_wp2_with fail
    with_reducible refine HAt.out.mono ?_
    rintro e w1 ⟨rfl, rfl⟩
    go_wp2_with fail
    go_ret2
    exact ⟨rfl, rfl⟩
  · have hg' : (getL N T key).2 = false := by simpa using hg
    have e1 := atL_no hg'
    rw [if_neg hg, hg']
    rw [e1] at HAt
    clear H hk hA hg hg' e1
    go_enter Try.func22, Try.ntmps22
    go_wp2_with fail
    with_reducible refine HAt.out.mono ?_
    rintro e w1 ⟨rfl, rfl⟩
    go_wp2_with fail
    go_ret2
    exact ⟨rfl, rfl⟩

set_option maxRecDepth 100000 in
set_option maxHeartbeats 4000000 in
theorem rx_far (hk : IOk N T c) (hA : Agr N T K V) (key : Int) (H : RIx w r bi bk bn N T K V) :
    Calls Try.prog 29 #[.pointer (some ⟨r, 0, none⟩), .int .i64 key] w fun e w' => e = .returned (.int .i64 (farL N T key)) ∧ w = w' := by
  have HAt := Lib.hid (rx_at (w := w) hk hA key H)
  have HX := H.hr
  by_cases hg : (getL N T key).2 = true
  · have e1 := atL_yes hg
    obtain ⟨hr, hp⟩ := getL_true hg
    obtain ⟨k0, k1⟩ := rightK_of hr
    have hf := (hk.found (key + 1)).lt
    have hN := hk.le
    have hh := hm_lt (key + 1) (by omega : 0 < N)
    have hm' : key % (N : Int) = (hm N (key + 1) : Nat) := by
      unfold hm
      rw [Int.add_sub_cancel]
      exact (Int.toNat_of_nonneg (Int.emod_nonneg _ (by omega))).symm
    have hd : ((findL N T (key + 1) : Nat) - (hm N (key + 1) : Nat) + (N : Int)) % (N : Int) = (dist N (hm N (key + 1)) (findL N T (key + 1)) : Nat) := by
      have e := wr_emod (N := N) (a := findL N T (key + 1) + N - hm N (key + 1)) (by omega) (by omega)
      have e2 : ((findL N T (key + 1) + N - hm N (key + 1) : Nat) : Int) = (findL N T (key + 1) : Nat) - (hm N (key + 1) : Nat) + (N : Int) := by omega
      rw [e2] at e
      rw [e]
      congr 1
      unfold Go.Proofs.Ytobekkgaildbgaa.wr dist; split <;> split <;> omega
    have hfar : farL N T key = (dist N (hm N (key + 1)) (findL N T (key + 1)) : Nat) := by unfold farL; rw [if_pos hg]
    rw [hfar]
    rw [e1] at HAt
    have n1' : (N : Int) ≤ 256 := by omega
    have n0' : 0 < (N : Int) := by omega
    generalize dist N (hm N (key + 1)) (findL N T (key + 1)) = D at *
    generalize hm N (key + 1) = h at *
    have hf' : ((findL N T (key + 1) : Nat) : Int) < N := by omega
    have hh' : (h : Int) < N := by omega
    generalize findL N T (key + 1) = f at *
    have HD := Lib.hid hd
    clear H hk hA hg hr hp e1 hfar hd
    apply blk_use HX; intro hg1 hc1 hz1 _ _ _ _ _
    go_enter Try.func29, Try.ntmps29
    go_wp2_with fail
    with_reducible refine HAt.out.mono ?_
    rintro e w1 ⟨rfl, rfl⟩
    go_wp2_with fail
    go_ret
    exact ⟨ret_int HD.out, rfl⟩
  · have hg' : (getL N T key).2 = false := by simpa using hg
    have e1 := atL_no hg'
    have hfar : farL N T key = -1 := by unfold farL; rw [if_neg hg]
    rw [hfar]
    rw [e1] at HAt
    clear H hk hA hg hg' e1 hfar
    go_enter Try.func29, Try.ntmps29
    go_wp2_with fail
    with_reducible refine HAt.out.mono ?_
    rintro e w1 ⟨rfl, rfl⟩
    go_wp2_with fail
    go_ret
    exact ⟨rfl, rfl⟩

theorem gt_set2 (hl : T.length = N) {i : Nat} (hi : i < N) (p : Int × Int) (j : Nat) : gt (T.set i p) j = if j = i then p else gt T j := by
  rw [gt_set]; simp only [hl, hi, and_true]
theorem Agr.set (h : Agr N T K V) (hl : T.length = N) {i : Nat} (hi : i < N) (key n : Int) : Agr N (T.set i (key + 1, n)) (upf K i key) (upf V i n) := by
  intro j hj hp
  rw [gt_set2 hl hi] at hp ⊢
  unfold upf
  by_cases e : j = i
  · rw [if_pos e, if_pos e, if_pos e]; exact ⟨by simp only; omega, rfl⟩
  · rw [if_neg e] at hp ⊢; rw [if_neg e, if_neg e]; exact h j hj hp
theorem Agr.setN (h : Agr N T K V) (hl : T.length = N) {i : Nat} (hi : i < N) {key : Int} (hg : (gt T i).1 = key + 1) (hp0 : 0 < key + 1) (n : Int) : Agr N (T.set i (key + 1, n)) K (upf V i n) := by
  intro j hj hp
  rw [gt_set2 hl hi] at hp ⊢
  unfold upf
  by_cases e : j = i
  · rw [if_pos e, if_pos e]; subst e; exact ⟨by rw [(h j hj (by omega)).1, hg], rfl⟩
  · rw [if_neg e] at hp ⊢; rw [if_neg e]; exact h j hj hp
theorem Agr.del (h : Agr N T K V) (hl : T.length = N) {i : Nat} (hi : i < N) : Agr N (T.set i (0, 0)) K V := by
  intro j hj hp
  rw [gt_set2 hl hi] at hp ⊢
  by_cases e : j = i
  · rw [if_pos e] at hp; simp at hp
  · rw [if_neg e] at hp ⊢; exact h j hj hp

set_option maxRecDepth 100000 in
set_option maxHeartbeats 4000000 in
theorem rx_put (hk : IOk N T c) (hA : Agr N T K V) (key n : Int) (H : RIx w r bi bk bn N T K V) :
    Calls Try.prog 18 #[.pointer (some ⟨r, 0, none⟩), .int .i64 key, .int .i64 n] w fun e w' => (∃ K' V', e = .returned (.int .i64 (putL N T c key n).2.2) ∧ RIx w' r bi bk bn N (putL N T c key n).1 K' V' ∧ Agr N (putL N T c key n).1 K' V') ∧ Fr [bi, bk, bn] w w' := by
  have fol : Try.prog.follows .mixedOrders = true := by kernel_rfl
  have HAt := Lib.hid (rx_at (w := w) hk hA key H)
  have HLn := Lib.hid (fun w' (h : RIx w' r bi bk bn N T K V) => rx_len (w := w') hk.ok.len hk.le h)
  have HX := H.hr
  have HH := Lib.hid H
  have hN := hk.le
  have n1' : (N : Int) ≤ 256 := by omega
  have hl := hk.ok.len
  by_cases hr : rightK key = false
  · have HR := Lib.hid (fun w => rx_right (w := w) key)
    have e : putL N T c key n = (T, c, 1) := by unfold putL; rw [if_pos hr]
    rw [e]
    rw [hr] at HR
    have HA := Lib.hid hA
    clear H hk hA hr e hl
    go_enter Try.func18, Try.ntmps18
    go_wp2_with fail
    with_reducible refine (HR.out _).mono ?_
    rintro e w1 ⟨rfl, rfl⟩
    go_wp2_with fail
    go_ret
    exact ⟨⟨K, V, rfl, HH.out, HA.out⟩, Fr.refl _ _⟩
  · have hr' : rightK key = true := by simpa using hr
    have HR := Lib.hid (fun w => rx_right (w := w) key)
    rw [hr'] at HR
    obtain ⟨k0, k1⟩ := rightK_of hr'
    have hf := hk.found (key + 1)
    have hfl := hf.lt
    by_cases hg : (getL N T key).2 = true
    · obtain ⟨_, hp⟩ := getL_true hg
      have e1 := atL_yes hg
      rw [e1] at HAt
      have hgt : (gt T (findL N T (key + 1))).1 = key + 1 := by
        rcases hf.at_ with q | q
        · rw [q] at hp; simp at hp
        · exact q
      have e : putL N T c key n = (T.set (findL N T (key + 1)) (key + 1, n), c, 0) := by unfold putL; rw [if_neg hr, if_neg (by omega)]
      rw [e]
      have HA := Lib.hid (hA.setN hl hfl hgt (by omega) n)
      have hs : ∀ i, i < N → decide (0 < (gt (T.set (findL N T (key + 1)) (key + 1, n)) i).1) = decide (0 < (gt T i).1) := by
        intro i hi
        rw [gt_set2 hl hfl]
        split
        · next q => subst q; rw [hgt]
        · rfl
      have HS := Lib.hid hs
      obtain ⟨_, _, c2⟩ := H.cell hfl
      obtain ⟨_, _, z2⟩ := H.frz (findL N T (key + 1))
      have HFL := Lib.hid hfl
      have hf' : ((findL N T (key + 1) : Nat) : Int) < N := by omega
      generalize T.set (findL N T (key + 1)) (key + 1, n) = T' at *
      generalize findL N T (key + 1) = f at *
      clear H hk hA hr hr' e e1 hg hp hgt hf hs hl
      apply blk_use HX; intro hg1 hc1 hz1 _ _ _ _ _
      go_enter Try.func18, Try.ntmps18
      go_wp2_with fail
      with_reducible refine (HR.out _).mono ?_
      rintro e w1 ⟨rfl, rfl⟩
      go_wp2_with fail
      with_reducible refine HAt.out.mono ?_
      rintro e w1 ⟨rfl, rfl⟩
      go_wp2_with fail
      go_ret
      exact ⟨⟨K, _, rfl, (HH.out.setN HFL.out n).same HS.out, HA.out⟩, (by repeat' (first | (with_reducible exact Fr.refl _ _) | (with_reducible assumption) | (with_reducible refine Fr.drew ?_) | (with_reducible refine Fr.drewN ?_ _) | (with_reducible refine Fr.alloc ?_ _) | ((with_reducible refine Fr.setNew ?_ _ ?_ _); rotate_left; (focus (first | (with_reducible assumption) | exact Nat.le_of_lt (by with_reducible assumption) | (focus (simp +arith; done)) | exact Nat.le_trans (by with_reducible assumption) (by simp +arith; done) | (simp; done)))) | ((with_reducible refine Fr.setOld ?_ _ ?_ _); rotate_left; (focus (simp; done)))))⟩
    · have hg' : (getL N T key).2 = false := by simpa using hg
      have e1 := atL_no hg'
      rw [e1] at HAt
      have hz : (gt T (findL N T (key + 1))).1 = 0 := by
        have w := (hk.ok.wf _ hfl).1
        unfold getL at hg'
        rw [if_neg hr] at hg'
        simp only [decide_eq_false_iff_not] at hg'
        omega
      have hcn := hk.cn
      have hclt := hk.lt
      by_cases hc : c = N - 1
      · have e : putL N T c key n = (T, c, 2) := by unfold putL; rw [if_neg hr, if_pos hz, if_pos hc]
        rw [e]
        have HA := Lib.hid hA
        have hfull : (N : Int) ≤ (cnt T : Nat) + 1 := by omega
        have hfull2 : N ≤ cnt T + 1 := by omega
        clear H hk hA hr hr' e e1 hg hg' hf hfl hz hc hl
        generalize cnt T = ct at *
        have hct : (ct : Int) ≤ 256 := by omega
        go_enter Try.func18, Try.ntmps18
        go_wp2_with fail
        with_reducible refine (HR.out _).mono ?_
        rintro e w1 ⟨rfl, rfl⟩
        go_wp2_with fail
        with_reducible refine HAt.out.mono ?_
        rintro e w1 ⟨rfl, rfl⟩
        go_wp2_with fail
        refine wp_region_seqV_lit (fun _ _ w' => Fr [] w w') fol (by kernel_rfl) (Fr.refl _ _).drew ?_
        (repeat (first | (apply SeqV.cons; (focus (intro Vv bv wv hbv hdv hsh hSv; (have hx := hSv.heap HX (by simp)); apply blk_use hx; intro hg21 hc21 hz21 _ _ _ _ _; go_wp2_with ((with_reducible refine (HLn.out _ (HH.out.fr hSv (by simp) (by simp) (by simp) (by simp))).mono ?_); rintro e ww ⟨rfl, rfl⟩); exact StepPost.mk rfl (Fr.trans (S := []) hSv (by repeat' (first | (with_reducible exact Fr.refl _ _) | (with_reducible assumption) | (with_reducible refine Fr.drew ?_) | (with_reducible refine Fr.drewN ?_ _) | (with_reducible refine Fr.alloc ?_ _) | ((with_reducible refine Fr.setNew ?_ _ ?_ _); rotate_left; (focus (first | (with_reducible assumption) | exact Nat.le_of_lt (by with_reducible assumption) | (focus (simp +arith; done)) | exact Nat.le_trans (by with_reducible assumption) (by simp +arith; done) | (simp; done)))) | ((with_reducible refine Fr.setOld ?_ _ ?_ _); rotate_left; (focus (simp; done)))))))); (try simp only [Act.put, List.setIfInBounds_toArray, List.set_cons_zero, List.set_cons_succ, Nat.reduceAdd, Nat.zero_add])) | (apply SeqV.cons (v := undef); (focus (intro Vv bv wv hbv hdv hsh hSv; (have hx := hSv.heap HX (by simp)); apply blk_use hx; intro hg21 hc21 hz21 _ _ _ _ _; go_wp2_with ((with_reducible refine (HLn.out _ (HH.out.fr hSv (by simp) (by simp) (by simp) (by simp))).mono ?_); rintro e ww ⟨rfl, rfl⟩); exact StepPost.mk rfl (Fr.trans (S := []) hSv (by repeat' (first | (with_reducible exact Fr.refl _ _) | (with_reducible assumption) | (with_reducible refine Fr.drew ?_) | (with_reducible refine Fr.drewN ?_ _) | (with_reducible refine Fr.alloc ?_ _) | ((with_reducible refine Fr.setNew ?_ _ ?_ _); rotate_left; (focus (first | (with_reducible assumption) | exact Nat.le_of_lt (by with_reducible assumption) | (focus (simp +arith; done)) | exact Nat.le_trans (by with_reducible assumption) (by simp +arith; done) | (simp; done)))) | ((with_reducible refine Fr.setOld ?_ _ ?_ _); rotate_left; (focus (simp; done)))))))); (try simp only [Act.put, List.setIfInBounds_toArray, List.set_cons_zero, List.set_cons_succ, Nat.reduceAdd, Nat.zero_add]))))
        refine SeqV.nil ?_
        intro Vv bv w2 hb2 hSv
        clear hb2
        go_wp2_with fail
        go_ret
        exact ⟨⟨K, V, rfl, HH.out.fr hSv (by simp) (by simp) (by simp) (by simp), HA.out⟩, hSv.mono (by simp)⟩
      · have hgz : gt T (findL N T (key + 1)) = (0, 0) := (hk.ok.wf _ hfl).2.2 hz
        have e : putL N T c key n = (T.set (findL N T (key + 1)) (key + 1, n), c + 1, 0) := by unfold putL; rw [if_neg hr, if_pos hz, if_neg hc]
        rw [e]
        have hh := hm_lt (key + 1) (by omega : 0 < N)
        have hwd := wr_dist hh hfl
        have hdl := dist_lt hh hfl
        have HA := Lib.hid (hA.set hl hfl key n)
        have HLay := Lib.hid (fun w' (h : RIx w' r bi bk bn N T K V) => rx_lay (w := w') key n (dist N (hm N (key + 1)) (findL N T (key + 1))) hdl hN k0 k1 hl (by rw [hwd]; omega) (fun i hi => by
          have := (hf.no i hi).1
          have hz : Go.Proofs.Ytobekkgaildbgaa.wr N (hm N (key + 1) + i) < N := wr_lt (by omega) (by omega)
          have w := hk.ok.wf _ hz
          rcases Int.lt_or_eq_of_le w.1 with q | q
          · exact q
          · exact absurd (w.2.2 q.symm) this) h)
        rw [hwd] at HLay
        have hfull : ¬ (N : Int) ≤ (cnt T : Nat) + 1 := by omega
        have hfull2 : decide (N ≤ cnt T + 1) = false := by simp; omega
        generalize T.set (findL N T (key + 1)) (key + 1, n) = T' at *
        clear H hk hA hr hr' e e1 hg hg' hf hfl hz hc hl hgz hwd hdl hh
        generalize cnt T = ct at *
        have hct : (ct : Int) ≤ 256 := by omega
        go_enter Try.func18, Try.ntmps18
        go_wp2_with fail
        with_reducible refine (HR.out _).mono ?_
        rintro e w1 ⟨rfl, rfl⟩
        go_wp2_with fail
        with_reducible refine HAt.out.mono ?_
        rintro e w1 ⟨rfl, rfl⟩
        go_wp2_with fail
        refine wp_region_seqV_lit (fun _ _ w' => Fr [] w w') fol (by kernel_rfl) (Fr.refl _ _).drew ?_
        (repeat (first | (apply SeqV.cons; (focus (intro Vv bv wv hbv hdv hsh hSv; (have hx := hSv.heap HX (by simp)); apply blk_use hx; intro hg21 hc21 hz21 _ _ _ _ _; go_wp2_with ((with_reducible refine (HLn.out _ (HH.out.fr hSv (by simp) (by simp) (by simp) (by simp))).mono ?_); rintro e ww ⟨rfl, rfl⟩); exact StepPost.mk rfl (Fr.trans (S := []) hSv (by repeat' (first | (with_reducible exact Fr.refl _ _) | (with_reducible assumption) | (with_reducible refine Fr.drew ?_) | (with_reducible refine Fr.drewN ?_ _) | (with_reducible refine Fr.alloc ?_ _) | ((with_reducible refine Fr.setNew ?_ _ ?_ _); rotate_left; (focus (first | (with_reducible assumption) | exact Nat.le_of_lt (by with_reducible assumption) | (focus (simp +arith; done)) | exact Nat.le_trans (by with_reducible assumption) (by simp +arith; done) | (simp; done)))) | ((with_reducible refine Fr.setOld ?_ _ ?_ _); rotate_left; (focus (simp; done)))))))); (try simp only [Act.put, List.setIfInBounds_toArray, List.set_cons_zero, List.set_cons_succ, Nat.reduceAdd, Nat.zero_add])) | (apply SeqV.cons (v := undef); (focus (intro Vv bv wv hbv hdv hsh hSv; (have hx := hSv.heap HX (by simp)); apply blk_use hx; intro hg21 hc21 hz21 _ _ _ _ _; go_wp2_with ((with_reducible refine (HLn.out _ (HH.out.fr hSv (by simp) (by simp) (by simp) (by simp))).mono ?_); rintro e ww ⟨rfl, rfl⟩); exact StepPost.mk rfl (Fr.trans (S := []) hSv (by repeat' (first | (with_reducible exact Fr.refl _ _) | (with_reducible assumption) | (with_reducible refine Fr.drew ?_) | (with_reducible refine Fr.drewN ?_ _) | (with_reducible refine Fr.alloc ?_ _) | ((with_reducible refine Fr.setNew ?_ _ ?_ _); rotate_left; (focus (first | (with_reducible assumption) | exact Nat.le_of_lt (by with_reducible assumption) | (focus (simp +arith; done)) | exact Nat.le_trans (by with_reducible assumption) (by simp +arith; done) | (simp; done)))) | ((with_reducible refine Fr.setOld ?_ _ ?_ _); rotate_left; (focus (simp; done)))))))); (try simp only [Act.put, List.setIfInBounds_toArray, List.set_cons_zero, List.set_cons_succ, Nat.reduceAdd, Nat.zero_add]))))
        refine SeqV.nil ?_
        intro Vv bv w2 hb2 hSv
        have H2 := HH.out.fr hSv (by simp) (by simp) (by simp) (by simp)
        clear hb2
        go_wp2_with fail
        with_reducible refine (HLay.out _ H2).mono ?_
        rintro e w3 ⟨rfl, H3, f3⟩
        go_wp2_with fail
        go_ret
        exact ⟨⟨_, _, rfl, H3, HA.out⟩, (hSv.mono (by simp)).trans f3⟩
end
end Go.Proofs.Ytobekkgaildbgaa
