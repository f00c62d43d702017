/- Package stream: tune, Late, Waste, Streams, Expected. -/
import Derived.Test.YtoapobhdpgcmbaaStr6
import Derived.Test.YtoapobhdpgcmbaaAmpRef
namespace Go.Proofs.Ytoapobhdpgcmbaa
open Go.RowKit Go.Lib

theorem own_upd {w' : World} {base g n cap i : Nat} {xs : List Str} {x' : Str} {cur cur' : Array Value} (hlen : xs.length = n) (hcur : cur.toList.take (n * 6) = eS.cs xs) (hz : cur.size = cap * 6) (hg : base ≤ g) (hc : n ≤ cap) (hm : cap ≤ maxLen) (hi : i < n)
    (hb : w'.heap[g]? = some (.cells cur' 59 (0, 0))) (hz' : cur'.size = cur.size) (h1 : ∀ j, j < 6 → cur'[i * 6 + j]? = (eS.f x')[j]?) (h2 : ∀ k, (k < i * 6 ∨ i * 6 + 6 ≤ k) → cur'[k]? = cur[k]?) : eS.Own w' base (.slice (some ⟨g, 0, none⟩) n cap) (xs.set i x') := by
  refine ⟨eSok.cs_len _, Or.inr ⟨g, cap, cur', by rw [List.length_set, hlen], hg, hb, by rw [List.length_set, hlen]; exact hc, hm, by rw [hz']; exact hz, ?_⟩⟩
  rw [List.length_set, hlen]
  show cur'.toList.take (n * 6) = _
  apply List.ext_getElem?
  intro k
  rw [List.getElem?_take]
  by_cases hk : k < n * 6
  · rw [if_pos hk, Array.getElem?_toList]
    have hq : k / 6 < n := by omega
    have hk6 : k = k / 6 * 6 + k % 6 := by omega
    have hx : ∃ y, (xs.set i x')[k / 6]? = some y := ⟨_, List.getElem?_eq_getElem (by rw [List.length_set]; omega)⟩
    obtain ⟨y, hy⟩ := hx
    have hr := eSok.cs_get (xs.set i x') (k / 6) (k % 6) y hy (by show k % 6 < 6; omega)
    have hr' : (eS.cs (xs.set i x'))[k / 6 * 6 + k % 6]? = (eS.f y)[k % 6]? := hr
    rw [← hk6] at hr'
    rw [hr']
    by_cases e : k / 6 = i
    · rw [List.getElem?_set, if_pos e.symm, if_pos (by omega)] at hy
      injection hy with hy
      subst hy
      have hki : k = i * 6 + k % 6 := by omega
      have h7 := h1 (k % 6) (by omega)
      rw [← hki] at h7
      exact h7
    · rw [List.getElem?_set, if_neg (fun q => e q.symm)] at hy
      rw [h2 k (by omega)]
      have h9 : (cur.toList.take (n * 6))[k]? = (eS.cs xs)[k]? := by rw [hcur]
      rw [List.getElem?_take, if_pos hk, Array.getElem?_toList] at h9
      rw [h9]
      have h8 := eSok.cs_get xs (k / 6) (k % 6) y hy (by show k % 6 < 6; omega)
      have h8' : (eS.cs xs)[k / 6 * 6 + k % 6]? = (eS.f y)[k % 6]? := h8
      rw [← hk6] at h8'
      exact h8'
  · rw [if_neg hk, List.getElem?_eq_none]
    have : (eS.cs (xs.set i x')).length = (xs.set i x').length * 6 := eSok.cs_len _
    rw [this, List.length_set, hlen]; omega
def tunLate (id : Int) (xs : List Str) : List Str := if 0 ≤ idxS id xs then xs.modify (idxS id xs).toNat (fun s => ⟨s.id, s.nx, s.ah, s.pp, alateG s.pp s.gg, s.us⟩) else xs
def tunWaste (id : Int) (xs : List Str) : List Str := if 0 ≤ idxS id xs then xs.modify (idxS id xs).toNat (fun s => ⟨s.id, s.nx, s.ah, awasteP s.pp s.gg, awasteG s.pp s.gg, s.us⟩) else xs

section
variable {w w' : World} {t tb b base : Nat} {size life most deg blk us la L : Int} {v : Value} {xs : List Str} {E : List (Int × Int)}
set_option maxRecDepth 100000 in
set_option maxHeartbeats 4000000 in
theorem stune_Late (id : Int) (hx : xs.length ≤ 16) (hp : ∀ s ∈ xs, s.pp ≤ 16) (H : TrkAt w t tb b base size life most deg blk v xs us la L E) :
    Calls Try.prog 55 #[.pointer (some ⟨t, 0, none⟩), .int .i64 id, .func (.func 56) #[] #[]] w fun e w' => e = .returned (.bool (decide (0 ≤ idxS id xs))) ∧ TrkAt w' t tb b base size life most deg blk v (tunLate id xs) us la L E ∧ Fr v.ownBlock.toList w w' := by
  have fol : Try.prog.follows .mixedOrders = true := by kernel_rfl
  have HX := H.ht
  have HH := Lib.hid H
  have HS := Lib.hid (H.ow.sl (M := []) (by simp))
  obtain ⟨ow1, ow2, ow3⟩ := H.own
  have HOW := Lib.hid (And.intro ow1 (And.intro ow2 ow3))
  obtain ⟨A0, c0, hv0⟩ := H.ow.shape
  have HO := Lib.hid H.ow
  subst hv0
  have hx' : (xs.length : Int) ≤ 16 := by omega
  have HTU : Hid (tunLate id xs = if 0 ≤ idxS id xs then xs.modify (idxS id xs).toNat (fun s => ⟨s.id, s.nx, s.ah, s.pp, alateG s.pp s.gg, s.us⟩) else xs) := rfl
  have HI : Hid ((idxS id xs = -1) ∨ ∃ i : Nat, idxS id xs = i ∧ i < xs.length) := by
    unfold Hid idxS
    split
    · rename_i i hi; exact Or.inr ⟨i, rfl, (List.findIdx?_eq_some_iff_getElem.1 hi).1⟩
    · exact Or.inl rfl
  generalize tunLate id xs = Y at *
  have HPP := Lib.hid hp
  have htl := lt_of_heap HX
  clear H ow1 ow2 ow3 hp
  apply blk_use HX; intro hg1 hc1 hz1 _ _ _ _ _
  go_enter Try.func55, Try.ntmps55
  go_wp2_with fail
  with_reducible refine (sindex _ xs (by omega) [] w.heap.size id _ (by (apply heap_eq_of; (focus (repeat (first | (with_reducible assumption) | ((with_reducible refine heap_alloc_at ?_ _); first | (with_reducible rfl) | (focus (simp; done))) | (with_reducible apply heap_alloc_old) | ((with_reducible apply heap_set_other); (case hne => (first | (with_reducible assumption) | exact Nat.ne_of_lt (by with_reducible assumption) | exact Nat.ne_of_gt (by with_reducible assumption) | (focus (simp +arith; done)) | (simp; done)))) | (with_reducible apply heap_set_eq) | (with_reducible apply heap_drew_of) | (with_reducible apply heap_drewN_of)))); (focus (first | (simp; done) | rfl)))) (HS.out.fr (S := []) (by repeat' (first | (with_reducible exact Fr.refl _ _) | (with_reducible assumption) | (with_reducible refine Fr.drew ?_) | (with_reducible refine Fr.drewN ?_ _) | (with_reducible refine Fr.alloc ?_ _) | ((with_reducible refine Fr.setNew ?_ _ ?_ _); rotate_left; (focus (first | (with_reducible assumption) | exact Nat.le_of_lt (by with_reducible assumption) | (focus (simp +arith; done)) | exact Nat.le_trans (by with_reducible assumption) (by simp +arith; done) | (simp; done)))) | ((with_reducible refine Fr.setOld ?_ _ ?_ _); rotate_left; (focus (simp; done))))) (by simp))).mono ?_
  rintro e w2 ⟨rfl, f2⟩
  have F2 : Fr [] w w2 := Fr.trans (by repeat' (first | (with_reducible exact Fr.refl _ _) | (with_reducible assumption) | (with_reducible refine Fr.drew ?_) | (with_reducible refine Fr.drewN ?_ _) | (with_reducible refine Fr.alloc ?_ _) | ((with_reducible refine Fr.setNew ?_ _ ?_ _); rotate_left; (focus (first | (with_reducible assumption) | exact Nat.le_of_lt (by with_reducible assumption) | (focus (simp +arith; done)) | exact Nat.le_trans (by with_reducible assumption) (by simp +arith; done) | (simp; done)))) | ((with_reducible refine Fr.setOld ?_ _ ?_ _); rotate_left; (focus (simp; done))))) f2
  clear f2 hg1 hc1 hz1
  have HI2 := HI.out
  generalize hr : idxS id xs = r at *
  have HR := Lib.hid hr
  clear hr
  rcases HI2 with rfl | ⟨i, rfl, hil⟩
  · have hY : Hid (Y = xs) := by unfold Hid; rw [HTU.out, if_neg (by omega)]
    go_wp2_with fail
    go_ret
    exact ⟨ret_bool (by rw [HR.out]; decide), by rw [hY.out]; exact HH.out.fr0 F2, F2.mono (by simp)⟩
  · have hX : xs[i]? = some xs[i] := List.getElem?_eq_getElem hil
    have hY : Hid (Y = xs.set i ⟨xs[i].id, xs[i].nx, xs[i].ah, xs[i].pp, alateG xs[i].pp xs[i].gg, xs[i].us⟩) := by
      unfold Hid; rw [HTU.out, if_pos (by omega), Int.toNat_natCast]
      apply List.ext_getElem?
      intro k
      rw [List.getElem?_modify, List.getElem?_set]
      by_cases e : i = k
      · subst e; simp [hil, hX]
      · simp [e]
    have hpp := HPP.out xs[i] (List.getElem_mem _)
    generalize xs[i] = X at *
    rcases HO.out.2 with ⟨_, hz0⟩ | ⟨g, cap, cur, hsl, hg, hb, hc, hm, hz, ht⟩
    · omega
    injection hsl with e1 e2 e3
    subst e1 e3
    have hb' : w.heap[g]? = some (.cells cur 59 (0, 0)) := hb
    have ht' : cur.toList.take (xs.length * 6) = eS.cs xs := ht
    have hz' : cur.size = c0 * 6 := hz
    have hcell : ∀ j u, j < 6 → (eS.f X)[j]? = some u → cur[i * 6 + j]? = some u := by
      intro j u hj hu
      have h1 := eSok.cs_get xs i j X hX hj
      have h1' : (eS.cs xs)[i * 6 + j]? = (eS.f X)[j]? := h1
      rw [← ht', List.getElem?_take, if_pos (by omega), Array.getElem?_toList] at h1'
      rw [h1', hu]
    have k1 := hcell 1 _ (by decide) rfl
    have k2 := hcell 2 _ (by decide) rfl
    have k3 := hcell 3 _ (by decide) rfl
    have k4 := hcell 4 _ (by decide) rfl
    have HCELL := Lib.hid hcell
    have B2 := F2.heap hb' (by simp)
    have HX2 := F2.heap HX (by simp)
    have hgt : g ≠ t := by have := HH.out.lt; have hg' : base ≤ g := hg; omega
    have hil' : (i : Int) < (xs.length : Int) := by omega
    have hcap : xs.length ≤ c0 := hc
    have HD := Lib.hid (And.intro ht' (And.intro hz' (And.intro hg (And.intro hc hm))))
    clear hb ht hz hb' ht' hz' hg hc hm hcell e2 hX
    apply blk_use HX2; intro hg2 hc2 hz2 _ _ _ _ _
    go_wp2_with fail
    refine wp_region_seqV_lit (FinS 17 (Fr [] w2) (fun w' => w'.heap[g]? = some (.cells ((((cur.setIfInBounds (i * 6 + 1) (.int .i64 X.nx)).setIfInBounds (i * 6 + 2) (.int .i64 X.ah)).setIfInBounds (i * 6 + 3) (.int .i64 (X.pp))).setIfInBounds (i * 6 + 4) (.int .i64 (alateG X.pp X.gg))) 59) ∧ Fr [g] w2 w')) fol (by kernel_rfl) (FinS.start (Fr.refl _ _).drew) ?_
    (repeat (apply SeqV.cons; (focus (intro Vv bv wv hbv hdv hsh hSv; have bst := shut_no hsh hbv 17 (by kernel_rfl); have s0 := FinS.pre hSv bst; clear hsh hdv; (have hx2 := s0.heap HX2 (by simp)); apply blk_use hx2; intro hg21 hc21 hz21 _ _ _ _ _; (have hx3 := s0.heap B2 (by simp)); apply blk_use hx3; intro hg22 hc22 hz22 _ _ _ _ _; go_wp2_with fail; exact StepPost.mk rfl (FinS.plain (by decide) bst (Fr.trans s0 (by repeat' (first | (with_reducible exact Fr.refl _ _) | (with_reducible assumption) | (with_reducible refine Fr.drew ?_) | (with_reducible refine Fr.drewN ?_ _) | (with_reducible refine Fr.alloc ?_ _) | ((with_reducible refine Fr.setNew ?_ _ ?_ _); rotate_left; (focus (first | (with_reducible assumption) | exact Nat.le_of_lt (by with_reducible assumption) | (focus (simp +arith; done)) | exact Nat.le_trans (by with_reducible assumption) (by simp +arith; done) | (simp; done)))) | ((with_reducible refine Fr.setOld ?_ _ ?_ _); rotate_left; (focus (simp; done))))))))); (try simp only [Act.put, List.setIfInBounds_toArray, List.set_cons_zero, List.set_cons_succ, Nat.reduceAdd, Nat.zero_add])))
    apply SeqV.cons (v := .agg #[.int .i64 X.nx, .int .i64 X.ah, .int .i64 (X.pp), .int .i64 (alateG X.pp X.gg)]); (focus (intro Vv bv wv hbv hdv hsh hSv; have bst := shut_no hsh hbv 17 (by kernel_rfl); have s0 := FinS.pre hSv bst; go_wp2_with fail; with_reducible refine (alate_any X.nx X.ah X.pp X.gg _).mono ?_; rintro e ww ⟨rfl, ff⟩; go_wp2_with fail; exact StepPost.mk rfl (FinS.plain (by decide) bst (s0.trans ff)))); (try simp only [Act.put, List.setIfInBounds_toArray, List.set_cons_zero, List.set_cons_succ, Nat.reduceAdd, Nat.zero_add])
    (repeat (apply SeqV.cons; (focus (intro Vv bv wv hbv hdv hsh hSv; have bst := shut_no hsh hbv 17 (by kernel_rfl); have s0 := FinS.pre hSv bst; clear hsh hdv; skip; go_wp2_with fail; exact StepPost.mk rfl (FinS.plain (by decide) bst (Fr.trans s0 (by repeat' (first | (with_reducible exact Fr.refl _ _) | (with_reducible assumption) | (with_reducible refine Fr.drew ?_) | (with_reducible refine Fr.drewN ?_ _) | (with_reducible refine Fr.alloc ?_ _) | ((with_reducible refine Fr.setNew ?_ _ ?_ _); rotate_left; (focus (first | (with_reducible assumption) | exact Nat.le_of_lt (by with_reducible assumption) | (focus (simp +arith; done)) | exact Nat.le_trans (by with_reducible assumption) (by simp +arith; done) | (simp; done)))) | ((with_reducible refine Fr.setOld ?_ _ ?_ _); rotate_left; (focus (simp; done))))))))); (try simp only [Act.put, List.setIfInBounds_toArray, List.set_cons_zero, List.set_cons_succ, Nat.reduceAdd, Nat.zero_add])))
    apply SeqV.cons (v := undef); (focus (intro Vv bv wv hbv hdv hsh hSv; have s0 := FinS.pre hSv hbv; (have hx3 := s0.heap B2 (by simp)); apply blk_use hx3; intro hg22 hc22 hz22 _ _ _ _ _; go_wp2_with fail; exact StepPost.mk rfl (FinS.fin ⟨by (apply heap_eq_of; (focus (repeat (first | (with_reducible assumption) | ((with_reducible refine heap_alloc_at ?_ _); first | (with_reducible rfl) | (focus (simp; done))) | (with_reducible apply heap_alloc_old) | ((with_reducible apply heap_set_other); (case hne => (first | (with_reducible assumption) | exact Nat.ne_of_lt (by with_reducible assumption) | exact Nat.ne_of_gt (by with_reducible assumption) | (focus (simp +arith; done)) | (simp; done)))) | (with_reducible apply heap_set_eq) | (with_reducible apply heap_drew_of) | (with_reducible apply heap_drewN_of)))); (focus (first | (simp; done) | rfl))), (s0.mono (by simp)).trans (by repeat' (first | (with_reducible exact Fr.refl _ _) | (with_reducible assumption) | (with_reducible refine Fr.drew ?_) | (with_reducible refine Fr.drewN ?_ _) | (with_reducible refine Fr.alloc ?_ _) | ((with_reducible refine Fr.setNew ?_ _ ?_ _); rotate_left; (focus (first | (with_reducible assumption) | exact Nat.le_of_lt (by with_reducible assumption) | (focus (simp +arith; done)) | exact Nat.le_trans (by with_reducible assumption) (by simp +arith; done) | (simp; done)))) | ((with_reducible refine Fr.setOld ?_ _ ?_ _); rotate_left; (focus (simp; done)))))⟩))); (try simp only [Act.put, List.setIfInBounds_toArray, List.set_cons_zero, List.set_cons_succ, Nat.reduceAdd, Nat.zero_add])
    refine SeqV.nil ?_
    intro Vv bv w5 hb5 hSv
    obtain ⟨B5, F5⟩ := FinS.end_ hSv (hb5 17 (by decide))
    clear hSv hb5
    go_wp2_with fail
    go_ret
    have F9 : Fr (Value.slice (some ⟨g, 0, none⟩) xs.length c0).ownBlock.toList w w5 := (F2.mono (by simp)).trans (F5.mono (by simp [Value.ownBlock]))
    obtain ⟨d1, d2, d3, d4, d5⟩ := HD.out
    refine ⟨ret_bool (by rw [HR.out]; simp), ⟨F9.heap HX HOW.out.1, ?_, HH.out.tp.fr F9 HOW.out.2.1 HOW.out.2.2, HH.out.lt, HH.out.ne, Nat.le_trans HH.out.bs F9.size⟩, F9⟩
    rw [hY.out]
    have hsz : i * 6 + 5 < cur.size := by omega
    refine own_upd rfl d1 d2 d3 d4 d5 hil B5 (by simp) (fun j hj => ?_) (fun k hk => ?_)
    · simp only [Array.getElem?_setIfInBounds, Array.size_setIfInBounds]
      rcases (by omega : j = 0 ∨ j = 1 ∨ j = 2 ∨ j = 3 ∨ j = 4 ∨ j = 5) with rfl | rfl | rfl | rfl | rfl | rfl
      all_goals
        (repeat (first | rw [if_pos (by omega)] | rw [if_neg (by omega)]))
        first | rfl | (exact HCELL.out 0 _ (by decide) rfl) | (exact HCELL.out 5 _ (by decide) rfl)
    · simp only [Array.getElem?_setIfInBounds, Array.size_setIfInBounds]
      (repeat (first | rw [if_neg (by omega)]))
end
section
variable {w w' : World} {t tb b base : Nat} {size life most deg blk us la L : Int} {v : Value} {xs : List Str} {E : List (Int × Int)}
set_option maxRecDepth 100000 in
set_option maxHeartbeats 4000000 in
theorem stune_Waste (id : Int) (hx : xs.length ≤ 16) (hp : ∀ s ∈ xs, s.pp ≤ 16) (H : TrkAt w t tb b base size life most deg blk v xs us la L E) :
    Calls Try.prog 55 #[.pointer (some ⟨t, 0, none⟩), .int .i64 id, .func (.func 59) #[] #[]] w fun e w' => e = .returned (.bool (decide (0 ≤ idxS id xs))) ∧ TrkAt w' t tb b base size life most deg blk v (tunWaste id xs) us la L E ∧ Fr v.ownBlock.toList w w' := by
  have fol : Try.prog.follows .mixedOrders = true := by kernel_rfl
  have HX := H.ht
  have HH := Lib.hid H
  have HS := Lib.hid (H.ow.sl (M := []) (by simp))
  obtain ⟨ow1, ow2, ow3⟩ := H.own
  have HOW := Lib.hid (And.intro ow1 (And.intro ow2 ow3))
  obtain ⟨A0, c0, hv0⟩ := H.ow.shape
  have HO := Lib.hid H.ow
  subst hv0
  have hx' : (xs.length : Int) ≤ 16 := by omega
  have HTU : Hid (tunWaste id xs = if 0 ≤ idxS id xs then xs.modify (idxS id xs).toNat (fun s => ⟨s.id, s.nx, s.ah, awasteP s.pp s.gg, awasteG s.pp s.gg, s.us⟩) else xs) := rfl
  have HI : Hid ((idxS id xs = -1) ∨ ∃ i : Nat, idxS id xs = i ∧ i < xs.length) := by
    unfold Hid idxS
    split
    · rename_i i hi; exact Or.inr ⟨i, rfl, (List.findIdx?_eq_some_iff_getElem.1 hi).1⟩
    · exact Or.inl rfl
  generalize tunWaste id xs = Y at *
  have HPP := Lib.hid hp
  have htl := lt_of_heap HX
  clear H ow1 ow2 ow3 hp
  apply blk_use HX; intro hg1 hc1 hz1 _ _ _ _ _
  go_enter Try.func55, Try.ntmps55
  go_wp2_with fail
  with_reducible refine (sindex _ xs (by omega) [] w.heap.size id _ (by (apply heap_eq_of; (focus (repeat (first | (with_reducible assumption) | ((with_reducible refine heap_alloc_at ?_ _); first | (with_reducible rfl) | (focus (simp; done))) | (with_reducible apply heap_alloc_old) | ((with_reducible apply heap_set_other); (case hne => (first | (with_reducible assumption) | exact Nat.ne_of_lt (by with_reducible assumption) | exact Nat.ne_of_gt (by with_reducible assumption) | (focus (simp +arith; done)) | (simp; done)))) | (with_reducible apply heap_set_eq) | (with_reducible apply heap_drew_of) | (with_reducible apply heap_drewN_of)))); (focus (first | (simp; done) | rfl)))) (HS.out.fr (S := []) (by repeat' (first | (with_reducible exact Fr.refl _ _) | (with_reducible assumption) | (with_reducible refine Fr.drew ?_) | (with_reducible refine Fr.drewN ?_ _) | (with_reducible refine Fr.alloc ?_ _) | ((with_reducible refine Fr.setNew ?_ _ ?_ _); rotate_left; (focus (first | (with_reducible assumption) | exact Nat.le_of_lt (by with_reducible assumption) | (focus (simp +arith; done)) | exact Nat.le_trans (by with_reducible assumption) (by simp +arith; done) | (simp; done)))) | ((with_reducible refine Fr.setOld ?_ _ ?_ _); rotate_left; (focus (simp; done))))) (by simp))).mono ?_
  rintro e w2 ⟨rfl, f2⟩
  have F2 : Fr [] w w2 := Fr.trans (by repeat' (first | (with_reducible exact Fr.refl _ _) | (with_reducible assumption) | (with_reducible refine Fr.drew ?_) | (with_reducible refine Fr.drewN ?_ _) | (with_reducible refine Fr.alloc ?_ _) | ((with_reducible refine Fr.setNew ?_ _ ?_ _); rotate_left; (focus (first | (with_reducible assumption) | exact Nat.le_of_lt (by with_reducible assumption) | (focus (simp +arith; done)) | exact Nat.le_trans (by with_reducible assumption) (by simp +arith; done) | (simp; done)))) | ((with_reducible refine Fr.setOld ?_ _ ?_ _); rotate_left; (focus (simp; done))))) f2
  clear f2 hg1 hc1 hz1
  have HI2 := HI.out
  generalize hr : idxS id xs = r at *
  have HR := Lib.hid hr
  clear hr
  rcases HI2 with rfl | ⟨i, rfl, hil⟩
  · have hY : Hid (Y = xs) := by unfold Hid; rw [HTU.out, if_neg (by omega)]
    go_wp2_with fail
    go_ret
    exact ⟨ret_bool (by rw [HR.out]; decide), by rw [hY.out]; exact HH.out.fr0 F2, F2.mono (by simp)⟩
  · have hX : xs[i]? = some xs[i] := List.getElem?_eq_getElem hil
    have hY : Hid (Y = xs.set i ⟨xs[i].id, xs[i].nx, xs[i].ah, awasteP xs[i].pp xs[i].gg, awasteG xs[i].pp xs[i].gg, xs[i].us⟩) := by
      unfold Hid; rw [HTU.out, if_pos (by omega), Int.toNat_natCast]
      apply List.ext_getElem?
      intro k
      rw [List.getElem?_modify, List.getElem?_set]
      by_cases e : i = k
      · subst e; simp [hil, hX]
      · simp [e]
    have hpp := HPP.out xs[i] (List.getElem_mem _)
    generalize xs[i] = X at *
    rcases HO.out.2 with ⟨_, hz0⟩ | ⟨g, cap, cur, hsl, hg, hb, hc, hm, hz, ht⟩
    · omega
    injection hsl with e1 e2 e3
    subst e1 e3
    have hb' : w.heap[g]? = some (.cells cur 59 (0, 0)) := hb
    have ht' : cur.toList.take (xs.length * 6) = eS.cs xs := ht
    have hz' : cur.size = c0 * 6 := hz
    have hcell : ∀ j u, j < 6 → (eS.f X)[j]? = some u → cur[i * 6 + j]? = some u := by
      intro j u hj hu
      have h1 := eSok.cs_get xs i j X hX hj
      have h1' : (eS.cs xs)[i * 6 + j]? = (eS.f X)[j]? := h1
      rw [← ht', List.getElem?_take, if_pos (by omega), Array.getElem?_toList] at h1'
      rw [h1', hu]
    have k1 := hcell 1 _ (by decide) rfl
    have k2 := hcell 2 _ (by decide) rfl
    have k3 := hcell 3 _ (by decide) rfl
    have k4 := hcell 4 _ (by decide) rfl
    have HCELL := Lib.hid hcell
    have B2 := F2.heap hb' (by simp)
    have HX2 := F2.heap HX (by simp)
    have hgt : g ≠ t := by have := HH.out.lt; have hg' : base ≤ g := hg; omega
    have hil' : (i : Int) < (xs.length : Int) := by omega
    have hcap : xs.length ≤ c0 := hc
    have HD := Lib.hid (And.intro ht' (And.intro hz' (And.intro hg (And.intro hc hm))))
    clear hb ht hz hb' ht' hz' hg hc hm hcell e2 hX
    apply blk_use HX2; intro hg2 hc2 hz2 _ _ _ _ _
    go_wp2_with fail
    refine wp_region_seqV_lit (FinS 17 (Fr [] w2) (fun w' => w'.heap[g]? = some (.cells ((((cur.setIfInBounds (i * 6 + 1) (.int .i64 X.nx)).setIfInBounds (i * 6 + 2) (.int .i64 X.ah)).setIfInBounds (i * 6 + 3) (.int .i64 (awasteP X.pp X.gg))).setIfInBounds (i * 6 + 4) (.int .i64 (awasteG X.pp X.gg))) 59) ∧ Fr [g] w2 w')) fol (by kernel_rfl) (FinS.start (Fr.refl _ _).drew) ?_
    (repeat (apply SeqV.cons; (focus (intro Vv bv wv hbv hdv hsh hSv; have bst := shut_no hsh hbv 17 (by kernel_rfl); have s0 := FinS.pre hSv bst; clear hsh hdv; (have hx2 := s0.heap HX2 (by simp)); apply blk_use hx2; intro hg21 hc21 hz21 _ _ _ _ _; (have hx3 := s0.heap B2 (by simp)); apply blk_use hx3; intro hg22 hc22 hz22 _ _ _ _ _; go_wp2_with fail; exact StepPost.mk rfl (FinS.plain (by decide) bst (Fr.trans s0 (by repeat' (first | (with_reducible exact Fr.refl _ _) | (with_reducible assumption) | (with_reducible refine Fr.drew ?_) | (with_reducible refine Fr.drewN ?_ _) | (with_reducible refine Fr.alloc ?_ _) | ((with_reducible refine Fr.setNew ?_ _ ?_ _); rotate_left; (focus (first | (with_reducible assumption) | exact Nat.le_of_lt (by with_reducible assumption) | (focus (simp +arith; done)) | exact Nat.le_trans (by with_reducible assumption) (by simp +arith; done) | (simp; done)))) | ((with_reducible refine Fr.setOld ?_ _ ?_ _); rotate_left; (focus (simp; done))))))))); (try simp only [Act.put, List.setIfInBounds_toArray, List.set_cons_zero, List.set_cons_succ, Nat.reduceAdd, Nat.zero_add])))
    apply SeqV.cons (v := .agg #[.int .i64 X.nx, .int .i64 X.ah, .int .i64 (awasteP X.pp X.gg), .int .i64 (awasteG X.pp X.gg)]); (focus (intro Vv bv wv hbv hdv hsh hSv; have bst := shut_no hsh hbv 17 (by kernel_rfl); have s0 := FinS.pre hSv bst; go_wp2_with fail; with_reducible refine (awaste_any X.nx X.ah X.pp X.gg (by omega) _).mono ?_; rintro e ww ⟨rfl, ff⟩; go_wp2_with fail; exact StepPost.mk rfl (FinS.plain (by decide) bst (s0.trans ff)))); (try simp only [Act.put, List.setIfInBounds_toArray, List.set_cons_zero, List.set_cons_succ, Nat.reduceAdd, Nat.zero_add])
    (repeat (apply SeqV.cons; (focus (intro Vv bv wv hbv hdv hsh hSv; have bst := shut_no hsh hbv 17 (by kernel_rfl); have s0 := FinS.pre hSv bst; clear hsh hdv; skip; go_wp2_with fail; exact StepPost.mk rfl (FinS.plain (by decide) bst (Fr.trans s0 (by repeat' (first | (with_reducible exact Fr.refl _ _) | (with_reducible assumption) | (with_reducible refine Fr.drew ?_) | (with_reducible refine Fr.drewN ?_ _) | (with_reducible refine Fr.alloc ?_ _) | ((with_reducible refine Fr.setNew ?_ _ ?_ _); rotate_left; (focus (first | (with_reducible assumption) | exact Nat.le_of_lt (by with_reducible assumption) | (focus (simp +arith; done)) | exact Nat.le_trans (by with_reducible assumption) (by simp +arith; done) | (simp; done)))) | ((with_reducible refine Fr.setOld ?_ _ ?_ _); rotate_left; (focus (simp; done))))))))); (try simp only [Act.put, List.setIfInBounds_toArray, List.set_cons_zero, List.set_cons_succ, Nat.reduceAdd, Nat.zero_add])))
    apply SeqV.cons (v := undef); (focus (intro Vv bv wv hbv hdv hsh hSv; have s0 := FinS.pre hSv hbv; (have hx3 := s0.heap B2 (by simp)); apply blk_use hx3; intro hg22 hc22 hz22 _ _ _ _ _; go_wp2_with fail; exact StepPost.mk rfl (FinS.fin ⟨by (apply heap_eq_of; (focus (repeat (first | (with_reducible assumption) | ((with_reducible refine heap_alloc_at ?_ _); first | (with_reducible rfl) | (focus (simp; done))) | (with_reducible apply heap_alloc_old) | ((with_reducible apply heap_set_other); (case hne => (first | (with_reducible assumption) | exact Nat.ne_of_lt (by with_reducible assumption) | exact Nat.ne_of_gt (by with_reducible assumption) | (focus (simp +arith; done)) | (simp; done)))) | (with_reducible apply heap_set_eq) | (with_reducible apply heap_drew_of) | (with_reducible apply heap_drewN_of)))); (focus (first | (simp; done) | rfl))), (s0.mono (by simp)).trans (by repeat' (first | (with_reducible exact Fr.refl _ _) | (with_reducible assumption) | (with_reducible refine Fr.drew ?_) | (with_reducible refine Fr.drewN ?_ _) | (with_reducible refine Fr.alloc ?_ _) | ((with_reducible refine Fr.setNew ?_ _ ?_ _); rotate_left; (focus (first | (with_reducible assumption) | exact Nat.le_of_lt (by with_reducible assumption) | (focus (simp +arith; done)) | exact Nat.le_trans (by with_reducible assumption) (by simp +arith; done) | (simp; done)))) | ((with_reducible refine Fr.setOld ?_ _ ?_ _); rotate_left; (focus (simp; done)))))⟩))); (try simp only [Act.put, List.setIfInBounds_toArray, List.set_cons_zero, List.set_cons_succ, Nat.reduceAdd, Nat.zero_add])
    refine SeqV.nil ?_
    intro Vv bv w5 hb5 hSv
    obtain ⟨B5, F5⟩ := FinS.end_ hSv (hb5 17 (by decide))
    clear hSv hb5
    go_wp2_with fail
    go_ret
    have F9 : Fr (Value.slice (some ⟨g, 0, none⟩) xs.length c0).ownBlock.toList w w5 := (F2.mono (by simp)).trans (F5.mono (by simp [Value.ownBlock]))
    obtain ⟨d1, d2, d3, d4, d5⟩ := HD.out
    refine ⟨ret_bool (by rw [HR.out]; simp), ⟨F9.heap HX HOW.out.1, ?_, HH.out.tp.fr F9 HOW.out.2.1 HOW.out.2.2, HH.out.lt, HH.out.ne, Nat.le_trans HH.out.bs F9.size⟩, F9⟩
    rw [hY.out]
    have hsz : i * 6 + 5 < cur.size := by omega
    refine own_upd rfl d1 d2 d3 d4 d5 hil B5 (by simp) (fun j hj => ?_) (fun k hk => ?_)
    · simp only [Array.getElem?_setIfInBounds, Array.size_setIfInBounds]
      rcases (by omega : j = 0 ∨ j = 1 ∨ j = 2 ∨ j = 3 ∨ j = 4 ∨ j = 5) with rfl | rfl | rfl | rfl | rfl | rfl
      all_goals
        (repeat (first | rw [if_pos (by omega)] | rw [if_neg (by omega)]))
        first | rfl | (exact HCELL.out 0 _ (by decide) rfl) | (exact HCELL.out 5 _ (by decide) rfl)
    · simp only [Array.getElem?_setIfInBounds, Array.size_setIfInBounds]
      (repeat (first | rw [if_neg (by omega)]))
end
section
variable {w w' : World} {t tb b base : Nat} {size life most deg blk us la L : Int} {v : Value} {xs : List Str} {E : List (Int × Int)}
set_option maxHeartbeats 1000000 in
theorem slate (id : Int) (hx : xs.length ≤ 16) (hp : ∀ s ∈ xs, s.pp ≤ 16) (H : TrkAt w t tb b base size life most deg blk v xs us la L E) :
    Calls Try.prog 19 #[.pointer (some ⟨t, 0, none⟩), .int .i64 id] w fun e w' => e = .returned (.bool (decide (0 ≤ idxS id xs))) ∧ TrkAt w' t tb b base size life most deg blk v (tunLate id xs) us la L E ∧ Fr v.ownBlock.toList w w' := by
  have HC := Lib.hid (stune_Late id hx hp H)
  generalize tunLate id xs = Y at *
  generalize decide (0 ≤ idxS id xs) = β at *
  clear H hp hx
  go_enter Try.func19, Try.ntmps19
  go_wp2_with fail
  with_reducible refine HC.out.mono ?_
  rintro e w2 ⟨rfl, T2, f2⟩
  go_wp2_with fail
  go_ret
  exact ⟨rfl, T2, f2⟩
set_option maxHeartbeats 1000000 in
theorem swaste (id : Int) (hx : xs.length ≤ 16) (hp : ∀ s ∈ xs, s.pp ≤ 16) (H : TrkAt w t tb b base size life most deg blk v xs us la L E) :
    Calls Try.prog 21 #[.pointer (some ⟨t, 0, none⟩), .int .i64 id] w fun e w' => e = .returned (.bool (decide (0 ≤ idxS id xs))) ∧ TrkAt w' t tb b base size life most deg blk v (tunWaste id xs) us la L E ∧ Fr v.ownBlock.toList w w' := by
  have HC := Lib.hid (stune_Waste id hx hp H)
  generalize tunWaste id xs = Y at *
  generalize decide (0 ≤ idxS id xs) = β at *
  clear H hp hx
  go_enter Try.func21, Try.ntmps21
  go_wp2_with fail
  with_reducible refine HC.out.mono ?_
  rintro e w2 ⟨rfl, T2, f2⟩
  go_wp2_with fail
  go_ret
  exact ⟨rfl, T2, f2⟩
set_option maxHeartbeats 1000000 in
theorem sstreams (hx : xs.length ≤ 1000) (H : TrkAt w t tb b base size life most deg blk v xs us la L E) :
    Calls Try.prog 23 #[.pointer (some ⟨t, 0, none⟩)] w fun e w' => (∃ v', e = .returned v' ∧ eS.Own w' w.heap.size v' xs) ∧ Fr [] w w' := by
  have HX := H.ht
  have HC := Lib.hid (sclone v xs hx [] w (H.ow.sl (by simp)))
  clear H
  apply blk_use HX; intro hg1 hc1 hz1 _ _ _ _ _
  go_enter Try.func23, Try.ntmps23
  go_wp2_with fail
  with_reducible refine HC.out.mono ?_
  rintro e w2 ⟨⟨v2, rfl, O2⟩, f2⟩
  go_wp2_with fail
  go_ret
  exact ⟨⟨_, rfl, O2⟩, f2⟩
set_option maxHeartbeats 1000000 in
theorem sexpected (hL2 : L < 10000) (hs : size ≤ 32) (K : TapOk size (L, E)) (H : TrkAt w t tb b base size life most deg blk v xs us la L E) :
    Calls Try.prog 25 #[.pointer (some ⟨t, 0, none⟩)] w fun e w' => (∃ A c, e = .returned (.slice A E.length c) ∧ eX.Own w' w.heap.size (.slice A E.length c) (E.map (ag L))) ∧ Fr [] w w' := by
  have HX := H.ht
  have HC := Lib.hid (tlistk (w := w) hL2 hs K H.tp)
  clear H K
  apply blk_use HX; intro hg1 hc1 hz1 _ _ _ _ _
  go_enter Try.func25, Try.ntmps25
  go_wp2_with fail
  with_reducible refine HC.out.mono ?_
  rintro e w2 ⟨⟨A, c, rfl, O2⟩, f2⟩
  go_wp2_with fail
  go_ret
  exact ⟨⟨_, _, rfl, O2⟩, f2⟩
end
end Go.Proofs.Ytoapobhdpgcmbaa
