/- The reference of layer 8: Look. -/
import Derived.Test.YtoapobhdpgcmbaaTapRef
import Derived.Test.YtoapobhdpgcmbaaTapLook
import Derived.Test.YtoapobhdpgcmbaaSlice
namespace Go.Proofs.Ytoapobhdpgcmbaa
open Go.RowKit Go.Sort Go.Lib

def youngR (life : Int) (xs : List (Int × Int)) : List (Int × Int) := (xs.filter fun p => decide (p.2 + 1 ≤ life)).map fun p => (p.1, p.2 + 1)
theorem youngR_app (life : Int) (xs ys : List (Int × Int)) : youngR life (xs ++ ys) = youngR life xs ++ youngR life ys := by simp [youngR]
theorem youngR_len (life : Int) (xs : List (Int × Int)) : (youngR life xs).length ≤ xs.length := by unfold youngR; rw [List.length_map]; exact List.length_filter_le _ _
theorem youngR_nd {life : Int} {xs : List (Int × Int)} (h : xs.Pairwise (fun p q => p.1 ≠ q.1)) : (youngR life xs).Pairwise (fun p q => p.1 ≠ q.1) := by
  unfold youngR; rw [List.pairwise_map]; exact (h.sublist List.filter_sublist).imp (fun h => h)
theorem youngR_one (life : Int) (x : Int × Int) : youngR life [x] = if x.2 + 1 ≤ life then [(x.1, x.2 + 1)] else [] := by
  by_cases h : x.2 + 1 ≤ life <;> simp [youngR, h]
theorem erase_cut {n c : Int} : ∀ {xs : List (Int × Int)} {i : Nat}, xs.Pairwise (fun p q => p.1 ≠ q.1) → xs[i]? = some (n, c) → xs.eraseIdx i = cutk n xs
  | [], i, _, h => by simp at h
  | x :: r, 0, nd, h => by
    simp at h; subst h
    have h1 := (List.pairwise_cons.1 nd).1
    unfold cutk
    rw [List.filter_cons]
    simp
    symm
    rw [List.filter_eq_self]
    intro p hp
    simpa using fun e => h1 p hp e.symm
  | x :: r, i + 1, nd, h => by
    obtain ⟨h1, h2⟩ := List.pairwise_cons.1 nd
    have h3 : r[i]? = some (n, c) := by simpa using h
    have := erase_cut h2 h3
    have hx : x.1 ≠ n := h1 _ (List.mem_of_getElem? h3)
    unfold cutk at *
    rw [List.filter_cons]
    simp [hx, this]
/-- What the reference's Look leaves. -/
def lookR (size life f c : Int) (xs : List (Int × Int)) : List (Int × Int) :=
  if f ∈ (youngR life xs).map Prod.fst then cutk f (youngR life xs)
  else (f + c, 0) :: (if f + c ∈ (youngR life xs).map Prod.fst then cutk (f + c) (youngR life xs) else if size ≤ ((youngR life xs).length : Int) then (youngR life xs).dropLast else youngR life xs)
def lookRB (life f : Int) (xs : List (Int × Int)) : Bool := decide (f ∈ (youngR life xs).map Prod.fst)

section
variable {M : List Nat} {w : World}
set_option maxHeartbeats 1000000 in
theorem rt_look_arg (r : Nat) (f c : Int) (h : f < 0 ∨ 1048576 < f ∨ c < 1 ∨ 8 < c) :
    Calls Try.prog 53 #[.pointer (some ⟨r, 0, none⟩), .int .i64 f, .int .i64 c] w fun e w' => e = .returned (.tuple #[.bool false, .int .i64 1]) ∧ Fr [] w w' := by
  go_enter Try.func53, Try.ntmps53
  go_wp2_with fail
  all_goals first
    | (exfalso; simp at *; omega)
    | refine bodyPost_ret (v := .tuple #[.bool false, .int .i64 1]) (by simp [results, Try.results53, go_sem, *]) rfl ⟨rfl, (by repeat' (first | (with_reducible exact Fr.refl _ _) | (with_reducible assumption) | (with_reducible refine Fr.drew ?_) | (with_reducible refine Fr.drewN ?_ _) | (with_reducible refine Fr.alloc ?_ _) | ((with_reducible refine Fr.setNew ?_ _ ?_ _); rotate_left; (focus (first | (with_reducible assumption) | exact Nat.le_of_lt (by with_reducible assumption) | (focus (simp +arith; done)) | exact Nat.le_trans (by with_reducible assumption) (by simp +arith; done) | (simp; done)))) | ((with_reducible refine Fr.setOld ?_ _ ?_ _); rotate_left; (focus (simp; done)))))⟩

set_option maxRecDepth 100000 in
set_option maxHeartbeats 4000000 in
theorem rt_look (r : Nat) (size life f c : Int) (xs : List (Int × Int)) (h : ¬ (f < 0 ∨ 1048576 < f ∨ c < 1 ∨ 8 < c)) (hx : ∀ p ∈ xs, 0 ≤ p.2 ∧ p.2 ≤ 1000) (nd : xs.Pairwise (fun p q => p.1 ≠ q.1)) (hl : xs.length ≤ 1000) (hs1 : 1 ≤ size) (H : RTap M w r size life xs) :
    Calls Try.prog 53 #[.pointer (some ⟨r, 0, none⟩), .int .i64 f, .int .i64 c] w fun e w' => e = .returned (.tuple #[.bool (lookRB life f xs), .int .i64 0]) ∧ RTap M w' r size life (lookR size life f c xs) ∧ Fr [r] w w' := by
  have fol : Try.prog.follows .mixedOrders = true := by kernel_rfl
  have h1 : ¬ f < 0 := by omega
  have h2 : ¬ 1048576 < f := by omega
  have h3 : ¬ c < 1 := by omega
  have h4 : ¬ 8 < c := by omega
  have hw : wrap64 (f + c) = f + c := by unfold wrap64; omega
  have eB : lookRB life f xs = decide (f ∈ (youngR life xs).map Prod.fst) := rfl
  rw [eB]
  obtain ⟨Y, hY⟩ : ∃ Y, Y = youngR life xs := ⟨_, rfl⟩
  have eE : Hid (lookR size life f c xs = if f ∈ Y.map Prod.fst then cutk f Y else (f + c, 0) :: (if f + c ∈ Y.map Prod.fst then cutk (f + c) Y else if size ≤ (Y.length : Int) then Y.dropLast else Y)) := by unfold Hid; rw [hY]; rfl
  rw [← hY]
  generalize lookR size life f c xs = RR at *
  have HY := Lib.hid hY
  clear hY eB
  have HX := Lib.hid hx
  have HH := Lib.hid H
  have hl' : (xs.length : Int) ≤ 1000 := by omega
  obtain ⟨hrM, hM, v, hr, A, cap, rfl, _, hA⟩ := H
  have HR := Lib.hid hr
  have HA := Lib.hid hA
  have hrb := hM r hrM
  apply blk_use hr; intro hg1 hc1 hz1 _ _ _ _ _
  clear hA hx h hr
  go_enter Try.func53, Try.ntmps53
  go_wp2_with fail
  go_loopw [8, 9] (fun u v wr => ∃ i : Nat, v = .int .i64 i ∧ i ≤ xs.length ∧ eX.Own wr w.heap.size u (youngR life (xs.take i)) ∧ Fr [] w wr) (fun _ v _ => xs.length - (intOf v).toNat)
  case atStart => exact ⟨0, rfl, by omega, El.Own.nil _ _ _, Fr.refl _ _⟩
  case round =>
    clear hg1 hc1 hz1
    obtain ⟨i, rfl, i1, hO, F⟩ := hrel
    have HO := Lib.hid hO
    have hlo := Nat.le_trans (youngR_len life (xs.take i)) (List.length_take_le _ _)
    have HLO := Lib.hid hlo
    have hr := HR.out
    apply F.use (k := r); (focus (repeat (first | (with_reducible assumption) | ((with_reducible refine heap_alloc_at ?_ _); first | (with_reducible rfl) | (focus (simp; done))) | (with_reducible apply heap_alloc_old) | ((with_reducible apply heap_set_other); (case hne => (first | (with_reducible assumption) | exact Nat.ne_of_lt (by with_reducible assumption) | exact Nat.ne_of_gt (by with_reducible assumption) | (focus (simp +arith; done)) | (simp; done)))) | (with_reducible apply heap_set_eq) | (with_reducible apply heap_drew_of) | (with_reducible apply heap_drewN_of)))); (focus (first | (simp; done) | (simp; assumption))); intro hg1 hc1 hz1 _ _ _ _ _; (try simp only [List.setIfInBounds_toArray, List.set_cons_zero, List.set_cons_succ] at hg1 hc1)
    clear hO hr hlo
    by_cases hlt : i < xs.length
    · rcases HA.out with rfl | ⟨b, off, rfl, hb, _, hcl⟩
      · simp at hlt
      obtain ⟨c0, c1⟩ := exat hcl (List.getElem?_eq_getElem hlt)
      obtain ⟨x0, x1⟩ := HX.out xs[i] (List.getElem_mem _)
      have hD : Hid (youngR life (xs.take (i + 1)) = youngR life (xs.take i) ++ if xs[i].2 + 1 ≤ life then [(xs[i].1, xs[i].2 + 1)] else []) := by
        unfold Hid
        rw [← youngR_one, ← youngR_app, List.take_succ_eq_append_getElem hlt]
      generalize xs[i] = x at *
      have C0 := Lib.hid c0
      have C1 := Lib.hid c1
      have d0 := (F.cell (off := off + i * 2) hb).trans c0
      have d1 := (F.cell (off := off + i * 2 + 1) hb).trans c1
      clear hcl c0 c1
      by_cases hy : x.2 + 1 ≤ life
      · go_wp2_with fail
        go_region
        go_wp2_with fail
        refine wp_region_seqV_lit (ChS eX wr.drew [] w.heap.size u8 (youngR life (xs.take i)) [20] [youngR life (xs.take i) ++ [(x.1, x.2 + 1)]] [(19, [(x.1, x.2 + 1)])] 1000 21 r _ (fun u => .cells #[] 0)) fol (by kernel_rfl) (ChS.start hg1 F.size (HO.out.fr (S := []) (by repeat' (first | (with_reducible exact Fr.refl _ _) | (with_reducible assumption) | (with_reducible refine Fr.drew ?_) | (with_reducible refine Fr.drewN ?_ _) | (with_reducible refine Fr.alloc ?_ _) | ((with_reducible refine Fr.setNew ?_ _ ?_ _); rotate_left; (focus (first | (with_reducible assumption) | exact Nat.le_of_lt (by with_reducible assumption) | (focus (simp +arith; done)) | exact Nat.le_trans (by with_reducible assumption) (by simp +arith; done) | (simp; done)))) | ((with_reducible refine Fr.setOld ?_ _ ?_ _); rotate_left; (focus (simp; done))))) (by simp))) ?_
        (repeat (apply SeqV.cons; (focus (intro Vv bv wv hbv hdv hsh hSv; (try (have qc0 := (hSv.fr.cellB (off := off + i * 2) (by omega) (by simp)).trans d0)); (try (have qc1 := (hSv.fr.cellB (off := off + i * 2 + 1) (by omega) (by simp)).trans d1)); have t0 := hSv.t0 (hSv.nos rfl); apply blk_use t0; intro hg21 hc21 hz21 _ _ _ _ _; clear hsh hdv; go_wp2_with fail; exact StepPost.mk rfl (hSv.plain (by first | decide | simp) hrb (by repeat' (first | (with_reducible exact Fr.refl _ _) | (with_reducible assumption) | (with_reducible refine Fr.drew ?_) | (with_reducible refine Fr.drewN ?_ _) | (with_reducible refine Fr.alloc ?_ _) | ((with_reducible refine Fr.setNew ?_ _ ?_ _); rotate_left; (focus (first | (with_reducible assumption) | exact Nat.le_of_lt (by with_reducible assumption) | (focus (simp +arith; done)) | exact Nat.le_trans (by with_reducible assumption) (by simp +arith; done) | (simp; done)))) | ((with_reducible refine Fr.setOld ?_ _ ?_ _); rotate_left; (focus (simp; done)))))))); (try simp only [Act.put, List.setIfInBounds_toArray, List.set_cons_zero, List.set_cons_succ, Nat.reduceAdd, Nat.zero_add])))
        apply SeqV.var; (focus (intro Vv bv wv hbv hdv hsh hSv; go_wp2_with fail; exact StepV.mk _ rfl (hSv.lit (l := [(x.1, x.2 + 1)]) rfl (by first | decide | simp) (by simp) hrb (by repeat' (first | (with_reducible exact Fr.refl _ _) | (with_reducible assumption) | (with_reducible refine Fr.drew ?_) | (with_reducible refine Fr.drewN ?_ _) | (with_reducible refine Fr.alloc ?_ _) | ((with_reducible refine Fr.setNew ?_ _ ?_ _); rotate_left; (focus (first | (with_reducible assumption) | exact Nat.le_of_lt (by with_reducible assumption) | (focus (simp +arith; done)) | exact Nat.le_trans (by with_reducible assumption) (by simp +arith; done) | (simp; done)))) | ((with_reducible refine Fr.setOld ?_ _ ?_ _); rotate_left; (focus (simp; done))))) ((El.Own.lit (base := 0) ([(x.1, x.2 + 1)]) (by (apply heap_eq_of; (focus (repeat (first | (with_reducible assumption) | ((with_reducible refine heap_alloc_at ?_ _); first | (with_reducible rfl) | (focus (simp; done))) | (with_reducible apply heap_alloc_old) | ((with_reducible apply heap_set_other); (case hne => (first | (with_reducible assumption) | exact Nat.ne_of_lt (by with_reducible assumption) | exact Nat.ne_of_gt (by with_reducible assumption) | (focus (simp +arith; done)) | (simp; done)))) | (with_reducible apply heap_set_eq) | (with_reducible apply heap_drew_of) | (with_reducible apply heap_drewN_of)))); (focus (first | (simp; done) | rfl)))) (by omega) rfl eXok (by simp [maxLen]) 1 rfl).sl (by simp)) (by simp [Value.ownBlock])))); (try simp only [Act.put, List.setIfInBounds_toArray, List.set_cons_zero, List.set_cons_succ, Nat.reduceAdd, Nat.zero_add])
        apply SeqV.var; (focus (intro Vv bv wv hbv hdv hsh hSv; have p0 := hSv.at0 rfl hbv; (have r0 := (hSv.rd (19, [(x.1, x.2 + 1)]) (by simp) (hdv { on := 19, ground := .data } (by simp) rfl)).2); go_wp2_with (at_builtin; refine wpList_appG eXok _ rfl (.tmp 48) (.tmp 67) rfl rfl _ _ _ rfl p0 _ _ rfl (r0) (by (have := HLO.out; simp; omega)) hSv.fr.le ?_; intro v1 wq O1 G1 U1); exact StepV.mk v1 rfl (hSv.row 0 rfl rfl (by first | decide | simp) (by simp) hbv (hSv.nos rfl) (shut_no hsh hbv _ (by kernel_rfl)) hrb G1 (fun x hx => p0.ge x hx) (by simp) (fun _ x hx => hx) (by simpa using O1) (Or.inl U1)))); (try simp only [Act.put, List.setIfInBounds_toArray, List.set_cons_zero, List.set_cons_succ, Nat.reduceAdd, Nat.zero_add])
        apply SeqV.var; (focus (intro Vv bv wv hbv hdv hsh hSv; go_wp2_with fail; exact StepV.mk _ rfl (hSv.asgn (by first | decide | simp) hrb (p := 20) rfl (hdv { on := 20, ground := .data } (by simp) rfl) (by repeat' (first | (with_reducible exact Fr.refl _ _) | (with_reducible assumption) | (with_reducible refine Fr.drew ?_) | (with_reducible refine Fr.drewN ?_ _) | (with_reducible refine Fr.alloc ?_ _) | ((with_reducible refine Fr.setNew ?_ _ ?_ _); rotate_left; (focus (first | (with_reducible assumption) | exact Nat.le_of_lt (by with_reducible assumption) | (focus (simp +arith; done)) | exact Nat.le_trans (by with_reducible assumption) (by simp +arith; done) | (simp; done)))) | ((with_reducible refine Fr.setOld ?_ _ ?_ _); rotate_left; (focus (simp; done))))) rfl))); (try simp only [Act.put, List.setIfInBounds_toArray, List.set_cons_zero, List.set_cons_succ, Nat.reduceAdd, Nat.zero_add])
        refine SeqV.nil ?_
        intro Vv bv w5 hb5 hSv
        have O5 := hSv.last (p := 20) rfl rfl (hb5 20 (by decide))
        rw [← (hSv.asg (hb5 21 (by decide)) 20 rfl).2] at O5
        have F5 := hSv.fr.after (S := []) (w0 := w) (by repeat' (first | (with_reducible exact Fr.refl _ _) | (with_reducible assumption) | (with_reducible refine Fr.drew ?_) | (with_reducible refine Fr.drewN ?_ _) | (with_reducible refine Fr.alloc ?_ _) | ((with_reducible refine Fr.setNew ?_ _ ?_ _); rotate_left; (focus (first | (with_reducible assumption) | exact Nat.le_of_lt (by with_reducible assumption) | (focus (simp +arith; done)) | exact Nat.le_trans (by with_reducible assumption) (by simp +arith; done) | (simp; done)))) | ((with_reducible refine Fr.setOld ?_ _ ?_ _); rotate_left; (focus (simp; done))))) (Nat.le_refl _) (by simp)
        have H5 := Lib.hid O5
        clear hSv hb5 O5
        go_wp2_with fail
        go_roundw
        case rel => exact ⟨i + 1, by go_num, by omega, by have e := hD.out; rw [if_pos (by omega)] at e; rw [e]; exact H5.out, F5⟩
        case measure => simp [intOf]; omega
      · go_wp2_with fail
        go_region
        go_wp2_with fail
        go_roundw
        case rel => exact ⟨i + 1, by go_num, by omega, by have e := hD.out; rw [if_neg (by omega), List.append_nil] at e; rw [e]; exact HO.out.fr (S := []) (by repeat' (first | (with_reducible exact Fr.refl _ _) | (with_reducible assumption) | (with_reducible refine Fr.drew ?_) | (with_reducible refine Fr.drewN ?_ _) | (with_reducible refine Fr.alloc ?_ _) | ((with_reducible refine Fr.setNew ?_ _ ?_ _); rotate_left; (focus (first | (with_reducible assumption) | exact Nat.le_of_lt (by with_reducible assumption) | (focus (simp +arith; done)) | exact Nat.le_trans (by with_reducible assumption) (by simp +arith; done) | (simp; done)))) | ((with_reducible refine Fr.setOld ?_ _ ?_ _); rotate_left; (focus (simp; done))))) (by simp), (by repeat' (first | (with_reducible exact Fr.refl _ _) | (with_reducible assumption) | (with_reducible refine Fr.drew ?_) | (with_reducible refine Fr.drewN ?_ _) | (with_reducible refine Fr.alloc ?_ _) | ((with_reducible refine Fr.setNew ?_ _ ?_ _); rotate_left; (focus (first | (with_reducible assumption) | exact Nat.le_of_lt (by with_reducible assumption) | (focus (simp +arith; done)) | exact Nat.le_trans (by with_reducible assumption) (by simp +arith; done) | (simp; done)))) | ((with_reducible refine Fr.setOld ?_ _ ?_ _); rotate_left; (focus (simp; done)))))⟩
        case measure => simp [intOf]; omega
    · obtain rfl : i = xs.length := by omega
      have HO2 : Hid (eX.Own wr w.heap.size u8 Y) := by unfold Hid; have := HO.out; rw [List.take_of_length_le (Nat.le_refl _)] at this; rw [HY.out]; exact this
      have hlY : (Y.length : Int) ≤ 1000 := by have := youngR_len life xs; rw [HY.out]; omega
      have ndy := Lib.hid (youngR_nd (life := life) nd)
      rw [← HY.out] at ndy
      have HM := Lib.hid hM
      obtain ⟨sA, sc, rfl⟩ := HO2.out.shape
      clear HLO HO i1 HX HA HY hM
      go_wp2_with fail
      have G1 : Fr [r] w (wr.setCell ⟨r, 2, none⟩ (.slice sA Y.length sc)) := Fr.setOld (F.mono (by simp)) 2 (by simp) _
      have R1 : RTap M (wr.setCell ⟨r, 2, none⟩ (.slice sA Y.length sc)) r size life Y := ⟨hrM, fun m hm => Nat.lt_of_lt_of_le (HM.out m hm) G1.size, _, by (apply heap_eq_of; (focus (repeat (first | (with_reducible assumption) | ((with_reducible refine heap_alloc_at ?_ _); first | (with_reducible rfl) | (focus (simp; done))) | (with_reducible apply heap_alloc_old) | ((with_reducible apply heap_set_other); (case hne => (first | (with_reducible assumption) | exact Nat.ne_of_lt (by with_reducible assumption) | exact Nat.ne_of_gt (by with_reducible assumption) | (focus (simp +arith; done)) | (simp; done)))) | (with_reducible apply heap_set_eq) | (with_reducible apply heap_drew_of) | (with_reducible apply heap_drewN_of)))); (focus (first | (simp; done) | rfl))), ((HO2.out.fr (S := [r]) (Fr.setOld (Fr.refl _ _) 2 (by simp) _) (by simpa using hrb)).sl (fun m hm => HM.out m hm))⟩
      obtain ⟨w5, hw5⟩ : ∃ x, x = wr.setCell ⟨r, 2, none⟩ (.slice sA Y.length sc) := ⟨_, rfl⟩
      rw [← hw5] at R1 G1 ⊢
      have G5 := G1
      have R5 := R1
      clear hw5 G1 R1
      refine (rt_at r size life f Y (by omega) R5).mono ?_
      rintro e w5 ⟨rfl, rfl⟩
      by_cases hin : f ∈ Y.map Prod.fst
      · obtain ⟨i, i1, i2, ⟨c9, i3⟩, _⟩ := atI_yes (k := 0) hin
        have hcut := erase_cut ndy.out i3
        rw [i2]
        have hd : Hid (decide (f ∈ Y.map Prod.fst) = true) := decide_eq_true hin
        have e := eE.out
        rw [if_pos hin, ← hcut] at e
        have hE := Lib.hid e
        clear e eE hcut i3 i2 hin
        rw [Nat.zero_add]
        go_wp2_with fail
        refine (rt_without r size life Y i i1 (by omega) R5).mono ?_
        rintro e w6 ⟨rfl, R6, f6⟩
        go_wp2_with fail
        go_ret2
        exact ⟨by rw [hd.out]; rfl, by rw [hE.out]; exact R6, G5.trans f6⟩
      · rw [atI_no hin]
        have hd : Hid (decide (f ∈ Y.map Prod.fst) = false) := decide_eq_false hin
        have e := eE.out
        rw [if_neg hin] at e
        have hE := Lib.hid e
        clear e eE hin
        go_wp2_with fail
        refine (rt_at r size life (f + c) Y (by omega) R5).mono ?_
        rintro e w6 ⟨rfl, rfl⟩
        have R6 := R5
        have G6 := G5
        clear R5 G5
        by_cases hg : f + c ∈ Y.map Prod.fst
        · obtain ⟨i, i1, i2, ⟨c9, i3⟩, _⟩ := atI_yes (k := 0) hg
          have hcut := erase_cut ndy.out i3
          rw [i2]
          have e := hE.out
          rw [if_pos hg, ← hcut] at e
          have hE := Lib.hid e
          clear e hcut i3 i2 hg
          rw [Nat.zero_add]
          go_wp2_with fail
          refine (rt_without r size life Y i i1 (by omega) R6).mono ?_
          rintro e w7 ⟨rfl, R7, f7⟩
          have G7 := G6.trans f7
          have hlZ : ((Y.eraseIdx i).length : Int) ≤ 1000 := by rw [List.length_eraseIdx]; split <;> omega
          clear G6 R6 f7
          obtain ⟨_, _, v7, h7, S7⟩ := R7
          obtain ⟨A7, c7, rfl, q7⟩ := id S7
          have HS7 := Lib.hid S7
          have zz := G7.size
          apply blk_use h7; intro hg7 hc7 hz7 _ _ _ _ _
          clear S7 q7
          go_wp2_with (at_builtin; go_must (refine wpList_appN eXok _ rfl (.tmp 114) (.tmp 118) rfl rfl w.heap.size _ [(f + c, 0)] rfl (El.Own.lit [(f + c, 0)] (by (apply heap_eq_of; (focus (repeat (first | (with_reducible assumption) | ((with_reducible refine heap_alloc_at ?_ _); first | (with_reducible rfl) | (focus (simp; done))) | (with_reducible apply heap_alloc_old) | ((with_reducible apply heap_set_other); (case hne => (first | (with_reducible assumption) | exact Nat.ne_of_lt (by with_reducible assumption) | exact Nat.ne_of_gt (by with_reducible assumption) | (focus (simp +arith; done)) | (simp; done)))) | (with_reducible apply heap_set_eq) | (with_reducible apply heap_drew_of) | (with_reducible apply heap_drewN_of)))); (focus (first | (simp; done) | rfl)))) (by omega) rfl eXok (by simp [maxLen]) 1 rfl) _ (Y.eraseIdx i) rfl (HS7.out.fr (S := []) (by repeat' (first | (with_reducible exact Fr.refl _ _) | (with_reducible assumption) | (with_reducible refine Fr.drew ?_) | (with_reducible refine Fr.drewN ?_ _) | (with_reducible refine Fr.alloc ?_ _) | ((with_reducible refine Fr.setNew ?_ _ ?_ _); rotate_left; (focus (first | (with_reducible assumption) | exact Nat.le_of_lt (by with_reducible assumption) | (focus (simp +arith; done)) | exact Nat.le_trans (by with_reducible assumption) (by simp +arith; done) | (simp; done)))) | ((with_reducible refine Fr.setOld ?_ _ ?_ _); rotate_left; (focus (simp; done))))) (by simp)) (by simp; omega) (by simp; omega) ?_; intro A8 c8 w8 O8 F8; have h8 := F8.heap (k := r) (by (repeat (first | (with_reducible assumption) | ((with_reducible refine heap_alloc_at ?_ _); first | (with_reducible rfl) | (focus (simp; done))) | (with_reducible apply heap_alloc_old) | ((with_reducible apply heap_set_other); (case hne => (first | (with_reducible assumption) | exact Nat.ne_of_lt (by with_reducible assumption) | exact Nat.ne_of_gt (by with_reducible assumption) | (focus (simp +arith; done)) | (simp; done)))) | (with_reducible apply heap_set_eq) | (with_reducible apply heap_drew_of) | (with_reducible apply heap_drewN_of)))) hrb (by simp); have HO8 := Lib.hid O8; have G8 : Fr [r] w w8 := F8.after (S := [r]) (by repeat' (first | (with_reducible exact Fr.refl _ _) | (with_reducible assumption) | (with_reducible refine Fr.drew ?_) | (with_reducible refine Fr.drewN ?_ _) | (with_reducible refine Fr.alloc ?_ _) | ((with_reducible refine Fr.setNew ?_ _ ?_ _); rotate_left; (focus (first | (with_reducible assumption) | exact Nat.le_of_lt (by with_reducible assumption) | (focus (simp +arith; done)) | exact Nat.le_trans (by with_reducible assumption) (by simp +arith; done) | (simp; done)))) | ((with_reducible refine Fr.setOld ?_ _ ?_ _); rotate_left; (focus (simp; done))))) (by omega) (by simp); clear O8 F8 hg7 hc7 hz7; apply blk_use h8; intro hg8 hc8 hz8 _ _ _ _ _))
          go_ret2
          exact ⟨by rw [hd.out]; rfl, ⟨hrM, fun m hm => Nat.lt_of_lt_of_le (HM.out m hm) (by have := G8.size; simpa using this), _, by (apply heap_eq_of; (focus (repeat (first | (with_reducible assumption) | ((with_reducible refine heap_alloc_at ?_ _); first | (with_reducible rfl) | (focus (simp; done))) | (with_reducible apply heap_alloc_old) | ((with_reducible apply heap_set_other); (case hne => (first | (with_reducible assumption) | exact Nat.ne_of_lt (by with_reducible assumption) | exact Nat.ne_of_gt (by with_reducible assumption) | (focus (simp +arith; done)) | (simp; done)))) | (with_reducible apply heap_set_eq) | (with_reducible apply heap_drew_of) | (with_reducible apply heap_drewN_of)))); (focus (first | (simp; done) | rfl))), by rw [hE.out]; exact ((HO8.out.fr (S := [r]) (Fr.setOld (Fr.refl _ _) 2 (by simp) _) (by simpa using hrb)).sl (fun m hm => HM.out m hm))⟩, Fr.setOld G8 2 (by simp) _⟩
        · rw [atI_no hg]
          have e := hE.out
          rw [if_neg hg] at e
          clear hE hg
          obtain ⟨_, _, v6, h6, S6⟩ := id R6
          obtain ⟨A6, c6, rfl, q6⟩ := id S6
          have HS6 := Lib.hid S6
          apply blk_use h6; intro hg6 hc6 hz6 _ _ _ _ _
          clear q6 S6
          by_cases hz : size ≤ (Y.length : Int)
          · rw [if_pos hz] at e
            have hE := Lib.hid e
            clear e
            obtain ⟨i, hi⟩ : ∃ i, Y.length = i + 1 := ⟨Y.length - 1, by omega⟩
            have hdl : Hid (Y.dropLast = Y.eraseIdx i) := by
              unfold Hid; rw [List.eraseIdx_eq_take_drop_succ, List.drop_of_length_le (by omega), List.append_nil, List.dropLast_eq_take, hi]; rfl
            have hi6 : i < Y.length := by omega
            have HI := Lib.hid hi
            clear hi
            go_wp2_with fail
            go_region
            go_wp2_with fail
            rw [show ((Y.length : Int) - 1) = ((i : Nat) : Int) from by have := HI.out; omega]
            with_reducible refine (rt_without r size life Y i hi6 (by omega) (R6.fr (S := []) (by repeat' (first | (with_reducible exact Fr.refl _ _) | (with_reducible assumption) | (with_reducible refine Fr.drew ?_) | (with_reducible refine Fr.drewN ?_ _) | (with_reducible refine Fr.alloc ?_ _) | ((with_reducible refine Fr.setNew ?_ _ ?_ _); rotate_left; (focus (first | (with_reducible assumption) | exact Nat.le_of_lt (by with_reducible assumption) | (focus (simp +arith; done)) | exact Nat.le_trans (by with_reducible assumption) (by simp +arith; done) | (simp; done)))) | ((with_reducible refine Fr.setOld ?_ _ ?_ _); rotate_left; (focus (simp; done))))) (by simp))).mono ?_
            rintro e w7 ⟨rfl, R7, f7⟩
            have G7 : Fr [r] w w7 := Fr.trans (Fr.trans G6 (by repeat' (first | (with_reducible exact Fr.refl _ _) | (with_reducible assumption) | (with_reducible refine Fr.drew ?_) | (with_reducible refine Fr.drewN ?_ _) | (with_reducible refine Fr.alloc ?_ _) | ((with_reducible refine Fr.setNew ?_ _ ?_ _); rotate_left; (focus (first | (with_reducible assumption) | exact Nat.le_of_lt (by with_reducible assumption) | (focus (simp +arith; done)) | exact Nat.le_trans (by with_reducible assumption) (by simp +arith; done) | (simp; done)))) | ((with_reducible refine Fr.setOld ?_ _ ?_ _); rotate_left; (focus (simp; done)))))) f7
            have hlZ : ((Y.eraseIdx i).length : Int) ≤ 1000 := by rw [List.length_eraseIdx]; split <;> omega
            have hE2 : Hid (RR = (f + c, 0) :: Y.eraseIdx i) := by unfold Hid; rw [← hdl.out]; exact hE.out
            clear hg6 hc6 hz6 f7 hE hdl hi6
            have hE := hE2
            clear hE2
            obtain ⟨_, _, v7, h7, S7⟩ := R7
            obtain ⟨A7, c7, rfl, q7⟩ := id S7
            have HS7 := Lib.hid S7
            have zz := G7.size
            apply blk_use h7; intro hg7 hc7 hz7 _ _ _ _ _
            clear S7 q7
            go_wp2_with (at_builtin; go_must (refine wpList_appN eXok _ rfl (.tmp 114) (.tmp 118) rfl rfl w.heap.size _ [(f + c, 0)] rfl (El.Own.lit [(f + c, 0)] (by (apply heap_eq_of; (focus (repeat (first | (with_reducible assumption) | ((with_reducible refine heap_alloc_at ?_ _); first | (with_reducible rfl) | (focus (simp; done))) | (with_reducible apply heap_alloc_old) | ((with_reducible apply heap_set_other); (case hne => (first | (with_reducible assumption) | exact Nat.ne_of_lt (by with_reducible assumption) | exact Nat.ne_of_gt (by with_reducible assumption) | (focus (simp +arith; done)) | (simp; done)))) | (with_reducible apply heap_set_eq) | (with_reducible apply heap_drew_of) | (with_reducible apply heap_drewN_of)))); (focus (first | (simp; done) | rfl)))) (by omega) rfl eXok (by simp [maxLen]) 1 rfl) _ (Y.eraseIdx i) rfl (HS7.out.fr (S := []) (by repeat' (first | (with_reducible exact Fr.refl _ _) | (with_reducible assumption) | (with_reducible refine Fr.drew ?_) | (with_reducible refine Fr.drewN ?_ _) | (with_reducible refine Fr.alloc ?_ _) | ((with_reducible refine Fr.setNew ?_ _ ?_ _); rotate_left; (focus (first | (with_reducible assumption) | exact Nat.le_of_lt (by with_reducible assumption) | (focus (simp +arith; done)) | exact Nat.le_trans (by with_reducible assumption) (by simp +arith; done) | (simp; done)))) | ((with_reducible refine Fr.setOld ?_ _ ?_ _); rotate_left; (focus (simp; done))))) (by simp)) (by simp; omega) (by simp; omega) ?_; intro A8 c8 w8 O8 F8; have h8 := F8.heap (k := r) (by (repeat (first | (with_reducible assumption) | ((with_reducible refine heap_alloc_at ?_ _); first | (with_reducible rfl) | (focus (simp; done))) | (with_reducible apply heap_alloc_old) | ((with_reducible apply heap_set_other); (case hne => (first | (with_reducible assumption) | exact Nat.ne_of_lt (by with_reducible assumption) | exact Nat.ne_of_gt (by with_reducible assumption) | (focus (simp +arith; done)) | (simp; done)))) | (with_reducible apply heap_set_eq) | (with_reducible apply heap_drew_of) | (with_reducible apply heap_drewN_of)))) hrb (by simp); have HO8 := Lib.hid O8; have G8 : Fr [r] w w8 := F8.after (S := [r]) (by repeat' (first | (with_reducible exact Fr.refl _ _) | (with_reducible assumption) | (with_reducible refine Fr.drew ?_) | (with_reducible refine Fr.drewN ?_ _) | (with_reducible refine Fr.alloc ?_ _) | ((with_reducible refine Fr.setNew ?_ _ ?_ _); rotate_left; (focus (first | (with_reducible assumption) | exact Nat.le_of_lt (by with_reducible assumption) | (focus (simp +arith; done)) | exact Nat.le_trans (by with_reducible assumption) (by simp +arith; done) | (simp; done)))) | ((with_reducible refine Fr.setOld ?_ _ ?_ _); rotate_left; (focus (simp; done))))) (by omega) (by simp); clear O8 F8 hg7 hc7 hz7; apply blk_use h8; intro hg8 hc8 hz8 _ _ _ _ _))
            go_ret2
            exact ⟨by rw [hd.out]; rfl, ⟨hrM, fun m hm => Nat.lt_of_lt_of_le (HM.out m hm) (by have := G8.size; simpa using this), _, by (apply heap_eq_of; (focus (repeat (first | (with_reducible assumption) | ((with_reducible refine heap_alloc_at ?_ _); first | (with_reducible rfl) | (focus (simp; done))) | (with_reducible apply heap_alloc_old) | ((with_reducible apply heap_set_other); (case hne => (first | (with_reducible assumption) | exact Nat.ne_of_lt (by with_reducible assumption) | exact Nat.ne_of_gt (by with_reducible assumption) | (focus (simp +arith; done)) | (simp; done)))) | (with_reducible apply heap_set_eq) | (with_reducible apply heap_drew_of) | (with_reducible apply heap_drewN_of)))); (focus (first | (simp; done) | rfl))), by rw [hE.out]; exact ((HO8.out.fr (S := [r]) (Fr.setOld (Fr.refl _ _) 2 (by simp) _) (by simpa using hrb)).sl (fun m hm => HM.out m hm))⟩, Fr.setOld G8 2 (by simp) _⟩
          · rw [if_neg hz] at e
            have hE := Lib.hid e
            clear e
            go_wp2_with fail
            go_region
            have G7 : Fr [r] w w5.drew := Fr.trans G6 (by repeat' (first | (with_reducible exact Fr.refl _ _) | (with_reducible assumption) | (with_reducible refine Fr.drew ?_) | (with_reducible refine Fr.drewN ?_ _) | (with_reducible refine Fr.alloc ?_ _) | ((with_reducible refine Fr.setNew ?_ _ ?_ _); rotate_left; (focus (first | (with_reducible assumption) | exact Nat.le_of_lt (by with_reducible assumption) | (focus (simp +arith; done)) | exact Nat.le_trans (by with_reducible assumption) (by simp +arith; done) | (simp; done)))) | ((with_reducible refine Fr.setOld ?_ _ ?_ _); rotate_left; (focus (simp; done)))))
            have zz := G7.size
            rw [size_drew] at zz
            go_wp2_with (at_builtin; go_must (refine wpList_appN eXok _ rfl (.tmp 114) (.tmp 118) rfl rfl w.heap.size _ [(f + c, 0)] rfl (El.Own.lit [(f + c, 0)] (by (apply heap_eq_of; (focus (repeat (first | (with_reducible assumption) | ((with_reducible refine heap_alloc_at ?_ _); first | (with_reducible rfl) | (focus (simp; done))) | (with_reducible apply heap_alloc_old) | ((with_reducible apply heap_set_other); (case hne => (first | (with_reducible assumption) | exact Nat.ne_of_lt (by with_reducible assumption) | exact Nat.ne_of_gt (by with_reducible assumption) | (focus (simp +arith; done)) | (simp; done)))) | (with_reducible apply heap_set_eq) | (with_reducible apply heap_drew_of) | (with_reducible apply heap_drewN_of)))); (focus (first | (simp; done) | rfl)))) (by omega) rfl eXok (by simp [maxLen]) 1 rfl) _ Y rfl (HS6.out.fr (S := []) (by repeat' (first | (with_reducible exact Fr.refl _ _) | (with_reducible assumption) | (with_reducible refine Fr.drew ?_) | (with_reducible refine Fr.drewN ?_ _) | (with_reducible refine Fr.alloc ?_ _) | ((with_reducible refine Fr.setNew ?_ _ ?_ _); rotate_left; (focus (first | (with_reducible assumption) | exact Nat.le_of_lt (by with_reducible assumption) | (focus (simp +arith; done)) | exact Nat.le_trans (by with_reducible assumption) (by simp +arith; done) | (simp; done)))) | ((with_reducible refine Fr.setOld ?_ _ ?_ _); rotate_left; (focus (simp; done))))) (by simp)) (by simp; omega) (by simp; omega) ?_; intro A8 c8 w8 O8 F8; have h8 := F8.heap (k := r) (by (repeat (first | (with_reducible assumption) | ((with_reducible refine heap_alloc_at ?_ _); first | (with_reducible rfl) | (focus (simp; done))) | (with_reducible apply heap_alloc_old) | ((with_reducible apply heap_set_other); (case hne => (first | (with_reducible assumption) | exact Nat.ne_of_lt (by with_reducible assumption) | exact Nat.ne_of_gt (by with_reducible assumption) | (focus (simp +arith; done)) | (simp; done)))) | (with_reducible apply heap_set_eq) | (with_reducible apply heap_drew_of) | (with_reducible apply heap_drewN_of)))) hrb (by simp); have HO8 := Lib.hid O8; have G8 : Fr [r] w w8 := F8.after (S := [r]) (by repeat' (first | (with_reducible exact Fr.refl _ _) | (with_reducible assumption) | (with_reducible refine Fr.drew ?_) | (with_reducible refine Fr.drewN ?_ _) | (with_reducible refine Fr.alloc ?_ _) | ((with_reducible refine Fr.setNew ?_ _ ?_ _); rotate_left; (focus (first | (with_reducible assumption) | exact Nat.le_of_lt (by with_reducible assumption) | (focus (simp +arith; done)) | exact Nat.le_trans (by with_reducible assumption) (by simp +arith; done) | (simp; done)))) | ((with_reducible refine Fr.setOld ?_ _ ?_ _); rotate_left; (focus (simp; done))))) (by omega) (by simp); clear O8 F8 hg6 hc6 hz6; apply blk_use h8; intro hg8 hc8 hz8 _ _ _ _ _))
            go_ret2
            exact ⟨by rw [hd.out]; rfl, ⟨hrM, fun m hm => Nat.lt_of_lt_of_le (HM.out m hm) (by have := G8.size; simpa using this), _, by (apply heap_eq_of; (focus (repeat (first | (with_reducible assumption) | ((with_reducible refine heap_alloc_at ?_ _); first | (with_reducible rfl) | (focus (simp; done))) | (with_reducible apply heap_alloc_old) | ((with_reducible apply heap_set_other); (case hne => (first | (with_reducible assumption) | exact Nat.ne_of_lt (by with_reducible assumption) | exact Nat.ne_of_gt (by with_reducible assumption) | (focus (simp +arith; done)) | (simp; done)))) | (with_reducible apply heap_set_eq) | (with_reducible apply heap_drew_of) | (with_reducible apply heap_drewN_of)))); (focus (first | (simp; done) | rfl))), by rw [hE.out]; exact ((HO8.out.fr (S := [r]) (Fr.setOld (Fr.refl _ _) 2 (by simp) _) (by simpa using hrb)).sl (fun m hm => HM.out m hm))⟩, Fr.setOld G8 2 (by simp) _⟩
end
end Go.Proofs.Ytoapobhdpgcmbaa
