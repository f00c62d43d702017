/- Package req: put, Give, Lose, Cancel, Kind, Take. -/
import Derived.Test.YtobekkgaildbgaaReq3
import Derived.Deep.WholeRow
namespace Go.Proofs.Ytobekkgaildbgaa
open Go.RowKit Go.Lib Go.Maps

theorem Rq.Eight.cells {r : Rq} (h : r.Eight) : ∃ k p0 p1 p2 p3 p4 p5 p6 p7 v0 v1 v2 v3 v4 v5 v6 v7, r.cs.toArray = #[.int .i64 k, .int .i64 p0, .int .i64 p1, .int .i64 p2, .int .i64 p3, .int .i64 p4, .int .i64 p5, .int .i64 p6, .int .i64 p7, .int .u64 v0, .int .u64 v1, .int .u64 v2, .int .u64 v3, .int .u64 v4, .int .u64 v5, .int .u64 v6, .int .u64 v7] ∧ r.kind = k ∧ r.ps = [p0, p1, p2, p3, p4, p5, p6, p7] := by
  obtain ⟨k, p0, p1, p2, p3, p4, p5, p6, p7, v0, v1, v2, v3, v4, v5, v6, v7, rfl⟩ := h.lit
  exact ⟨k, p0, p1, p2, p3, p4, p5, p6, p7, v0, v1, v2, v3, v4, v5, v6, v7, rfl, rfl, rfl⟩
theorem rq_put {r : Rq} (h : r.Eight) {k : Nat} (hk : k < 8) (a c : Int) : ((r.cs.toArray).setIfInBounds (1 + k) (.int .i64 a)).setIfInBounds (9 + k) (.int .u64 c) = (⟨r.kind, r.ps.set k a, r.vs.set k c⟩ : Rq).cs.toArray := by
  have hp : (r.ps.map (Value.int .i64)).length = 8 := by rw [List.length_map, h.p]
  unfold Rq.cs
  simp only [List.setIfInBounds_toArray]
  congr 1
  rw [show 1 + k = k + 1 by omega, show 9 + k = (8 + k) + 1 by omega, List.set_cons_succ, List.set_cons_succ, List.set_append_left _ _ (by omega), List.set_append_right _ _ (by rw [List.length_set]; omega), List.length_set, hp, show 8 + k - 8 = k by omega, List.map_set, List.map_set]
theorem rq_set8 {r : Rq} (h : r.Eight) (k : Nat) (a c : Int) : (⟨r.kind, r.ps.set k a, r.vs.set k c⟩ : Rq).Eight := ⟨by simp [h.p], by simp [h.v]⟩
theorem rq_pat {w : World} {b k : Nat} {r : Rq} {T : TypeId} {x : Int} (h : w.heap[b]? = some (.cells r.cs.toArray T)) (h8 : r.Eight) (hx : r.ps[k]? = some x) : w.cell? ⟨b, 1 + k, none⟩ = some (.int .i64 x) := by
  have hl := (List.getElem?_eq_some_iff.1 hx).1
  rw [blk_cell h, ← Array.getElem?_toList, Nat.add_comm]
  show (Value.int .i64 r.kind :: (r.ps.map (Value.int .i64) ++ r.vs.map (Value.int .u64)))[k + 1]? = _
  rw [List.getElem?_cons_succ, List.getElem?_append_left (by simpa using hl)]; simp [hx]
theorem rq_vat {w : World} {b k : Nat} {r : Rq} {T : TypeId} {x : Int} (h : w.heap[b]? = some (.cells r.cs.toArray T)) (h8 : r.Eight) (hk : k < 8) (hx : r.vs[k]? = some x) : w.cell? ⟨b, 9 + k, none⟩ = some (.int .u64 x) := by
  rw [blk_cell h, ← Array.getElem?_toList, show 9 + k = (8 + k) + 1 by omega]
  show (Value.int .i64 r.kind :: (r.ps.map (Value.int .i64) ++ r.vs.map (Value.int .u64)))[8 + k + 1]? = _
  rw [List.getElem?_cons_succ, List.getElem?_append_right (by simp [h8.p]), List.length_map, h8.p, show 8 + k - 8 = k by omega]; simp [hx]
theorem rq_size {r : Rq} (h8 : r.Eight) : r.cs.toArray.size = 17 := by simp [Rq.cs, h8.p, h8.v]
theorem rq_info : (Try.prog.info? 95).map (·.size) = some 17 := by kernel_rfl
theorem rq_load {r : Rq} (h8 : r.Eight) (W : World) (q : Nat) (h : W.heap[q]? = some (.cells r.cs.toArray 95)) : (loadCellsFrom ⟨q, 0, none⟩ 0 17 #[]).run Try.prog W = .ok r.cs.toArray W := by
  have := run_loadCells_list (P := Try.prog) W ⟨q, 0, none⟩ r.cs (fun j v hv => by
    have hadd : (⟨q, 0, none⟩ : Addr).add j = ⟨q, j, none⟩ := by unfold Addr.add; split <;> simp_all
    rw [hadd, blk_cell h]
    simpa using hv)
  have hs : r.cs.length = 17 := rq_size h8
  simpa [loadCells, hs] using this
theorem arr17 (l : List Value) (h : l.length = 17) : #[l[0]'(by omega), l[1]'(by omega), l[2]'(by omega), l[3]'(by omega), l[4]'(by omega), l[5]'(by omega), l[6]'(by omega), l[7]'(by omega), l[8]'(by omega), l[9]'(by omega), l[10]'(by omega), l[11]'(by omega), l[12]'(by omega), l[13]'(by omega), l[14]'(by omega), l[15]'(by omega), l[16]'(by omega)] = l.toArray := by
  match l, h with
  | [a0, a1, a2, a3, a4, a5, a6, a7, a8, a9, a10, a11, a12, a13, a14, a15, a16], _ => rfl
theorem rq_loadn {r : Rq} (h8 : r.Eight) (W : World) : (loadCellsFrom ⟨W.heap.size, 0, none⟩ 0 17 #[]).run Try.prog (W.alloc (.cells r.cs.toArray 95)) = .ok r.cs.toArray (W.alloc (.cells r.cs.toArray 95)) := rq_load h8 _ _ (heap_alloc_new _ _)
theorem rq_store {r : Rq} (h8 : r.Eight) (W : World) (z : Array Value) (hz : z.size = 17) : (storeCells ⟨W.heap.size, 0, none⟩ r.cs 0).run Try.prog (W.alloc (.cells z 95)) = .ok () (W.alloc (.cells r.cs.toArray 95)) := by
  have := run_storeCells_new (P := Try.prog) W 95 z r.cs.toArray (by rw [rq_info, rq_size h8]) (by rw [hz, rq_size h8]) (by
    rw [Array.all_eq_true']
    intro u hu
    simp only [Rq.cs, List.mem_toArray, List.mem_cons, List.mem_append, List.mem_map] at hu
    rcases hu with rfl | ⟨_, _, rfl⟩ | ⟨_, _, rfl⟩ <;> rfl)
  simpa using this
def putR (id place what value : Int) (S : RS) : Int × RS := match getg id S.E with
  | none => (3, S)
  | some r => if place < 0 ∨ (sizeP r.ps : Int) ≤ place then (1, S) else if r.ps[place.toNat]? = some 1 then (0, settleR id ⟨r.kind, r.ps.set place.toNat what, r.vs.set place.toNat value⟩ S) else (4, S)
def kindR (id : Int) (S : RS) : Int := ((getg id S.E).getD Rq.z).kind
def cancelR (id : Int) (S : RS) : Int × RS := if (getg id S.E).isSome then (0, ⟨cutg id S.E, S.K ++ [⟨id, 8, []⟩]⟩) else (3, S)
section
variable {w w' : World} {B t b base : Nat} {M M' N : List Nat} {room : Int} {v : Value} {xs : List AV} {S : RS}
theorem get8 (h : ∀ p ∈ S.E, p.2.Eight) (id : Int) : ((getg id S.E).getD mR.z).Eight := by
  cases hg : getg id S.E with
  | none => exact Rq.z8
  | some r => exact h _ (getg_mem hg)
set_option maxRecDepth 100000 in
set_option maxHeartbeats 8000000 in
theorem qput_no (id place what value : Int) (hg : getg id S.E = none) (H : ReqM w B M t room S) (wid : (Lit.int .i64 id).wf = true) (wp : (Lit.int .i64 place).wf = true) :
    Calls Try.prog 65 #[.pointer (some ⟨t, 0, none⟩), .int .i64 id, .int .i64 place, .int .i64 what, .int .u64 value] w fun e w' => e = .returned (.int .i64 3) ∧ ReqM w' B M t room S ∧ KeepM B M w w' := by
  obtain ⟨b, base, v, xs, H⟩ := H
  obtain ⟨lo, hi⟩ := i64_bounds wp
  have h8 := get8 H.e8 id
  have HL := Lib.hid (fun Q ops rest o a (hg : Oper.guard o = none) (mo x : Operand) hop hmo hx hK => @wpList_lookg Int Rq _ mR w ops rest o a Q mRok hg mo x hop b S.E hmo H.mp id hx wid hK)
  have HT := H.ht
  have HH := Lib.hid H
  rw [hg] at h8
  unfold Hid at HL
  rw [hg] at HL
  have HL := Lib.hid HL
  simp only [Option.getD_none, Option.isSome_none] at HL h8
  clear H wid wp hg
  have hev : mR.ev mR.z = .agg (Rq.cs mR.z).toArray := rfl
  rw [hev] at HL
  have hld := rq_loadn h8
  have hsz : (Rq.cs mR.z).length = 17 := rq_size h8
  have hst := rq_store h8
  have H8 := Lib.hid h8
  obtain ⟨cl, hcl⟩ : ∃ cl, cl = Rq.cs mR.z := ⟨_, rfl⟩
  rw [← hcl] at HL hld hst hsz
  have harr := arr17 cl hsz
  have HCS := Lib.hid hcl
  clear hev hcl h8
  apply blk_use HT; intro hg1 hc1 hz1 _ _ _ _ _
  go_enter Try.func65, Try.ntmps65
  go_wp2_with (at_lookup; refine HL.out _ _ _ _ _ rfl (.tmp 17) (.tmp 18) rfl rfl rfl ?_)
  go_ret
  exact ⟨rfl, ⟨_, _, _, _, HH.out.fr0 (by repeat' (first | (with_reducible exact Fr.refl _ _) | (with_reducible assumption) | (with_reducible refine Fr.drew ?_) | (with_reducible refine Fr.drewN ?_ _) | (with_reducible refine Fr.alloc ?_ _) | ((with_reducible refine Fr.setNew ?_ _ ?_ _); rotate_left; (focus (first | (with_reducible assumption) | exact Nat.le_of_lt (by with_reducible assumption) | (focus (simp +arith; done)) | exact Nat.le_trans (by with_reducible assumption) (by simp +arith; done) | (simp; done)))) | ((with_reducible refine Fr.setOld ?_ _ ?_ _); rotate_left; (focus (simp; done)))))⟩, KeepM.fr0 (by repeat' (first | (with_reducible exact Fr.refl _ _) | (with_reducible assumption) | (with_reducible refine Fr.drew ?_) | (with_reducible refine Fr.drewN ?_ _) | (with_reducible refine Fr.alloc ?_ _) | ((with_reducible refine Fr.setNew ?_ _ ?_ _); rotate_left; (focus (first | (with_reducible assumption) | exact Nat.le_of_lt (by with_reducible assumption) | (focus (simp +arith; done)) | exact Nat.le_trans (by with_reducible assumption) (by simp +arith; done) | (simp; done)))) | ((with_reducible refine Fr.setOld ?_ _ ?_ _); rotate_left; (focus (simp; done)))))⟩
set_option maxRecDepth 100000 in
set_option maxHeartbeats 8000000 in
theorem qput_neg (id place what value : Int) (r : Rq) (hg : getg id S.E = some r) (h0 : place < 0) (H : ReqM w B M t room S) (wid : (Lit.int .i64 id).wf = true) (wp : (Lit.int .i64 place).wf = true) :
    Calls Try.prog 65 #[.pointer (some ⟨t, 0, none⟩), .int .i64 id, .int .i64 place, .int .i64 what, .int .u64 value] w fun e w' => e = .returned (.int .i64 1) ∧ ReqM w' B M t room S ∧ KeepM B M w w' := by
  obtain ⟨b, base, v, xs, H⟩ := H
  obtain ⟨lo, hi⟩ := i64_bounds wp
  have h8 := get8 H.e8 id
  have HL := Lib.hid (fun Q ops rest o a (hg : Oper.guard o = none) (mo x : Operand) hop hmo hx hK => @wpList_lookg Int Rq _ mR w ops rest o a Q mRok hg mo x hop b S.E hmo H.mp id hx wid hK)
  have HT := H.ht
  have HH := Lib.hid H
  rw [hg] at h8
  unfold Hid at HL
  rw [hg] at HL
  have HL := Lib.hid HL
  simp only [Option.getD_some, Option.isSome_some] at HL h8
  clear H wid wp hg
  have hev : mR.ev r = .agg (Rq.cs r).toArray := rfl
  rw [hev] at HL
  have hld := rq_loadn h8
  have hsz : (Rq.cs r).length = 17 := rq_size h8
  have hst := rq_store h8
  have H8 := Lib.hid h8
  obtain ⟨cl, hcl⟩ : ∃ cl, cl = Rq.cs r := ⟨_, rfl⟩
  rw [← hcl] at HL hld hst hsz
  have harr := arr17 cl hsz
  have HCS := Lib.hid hcl
  clear hev hcl h8
  apply blk_use HT; intro hg1 hc1 hz1 _ _ _ _ _
  go_enter Try.func65, Try.ntmps65
  go_wp2_with (at_lookup; refine HL.out _ _ _ _ _ rfl (.tmp 17) (.tmp 18) rfl rfl rfl ?_)
  go_ret
  exact ⟨rfl, ⟨_, _, _, _, HH.out.fr0 (by repeat' (first | (with_reducible exact Fr.refl _ _) | (with_reducible assumption) | (with_reducible refine Fr.drew ?_) | (with_reducible refine Fr.drewN ?_ _) | (with_reducible refine Fr.alloc ?_ _) | ((with_reducible refine Fr.setNew ?_ _ ?_ _); rotate_left; (focus (first | (with_reducible assumption) | exact Nat.le_of_lt (by with_reducible assumption) | (focus (simp +arith; done)) | exact Nat.le_trans (by with_reducible assumption) (by simp +arith; done) | (simp; done)))) | ((with_reducible refine Fr.setOld ?_ _ ?_ _); rotate_left; (focus (simp; done)))))⟩, KeepM.fr0 (by repeat' (first | (with_reducible exact Fr.refl _ _) | (with_reducible assumption) | (with_reducible refine Fr.drew ?_) | (with_reducible refine Fr.drewN ?_ _) | (with_reducible refine Fr.alloc ?_ _) | ((with_reducible refine Fr.setNew ?_ _ ?_ _); rotate_left; (focus (first | (with_reducible assumption) | exact Nat.le_of_lt (by with_reducible assumption) | (focus (simp +arith; done)) | exact Nat.le_trans (by with_reducible assumption) (by simp +arith; done) | (simp; done)))) | ((with_reducible refine Fr.setOld ?_ _ ?_ _); rotate_left; (focus (simp; done)))))⟩
set_option maxRecDepth 100000 in
set_option maxHeartbeats 8000000 in
theorem qput_far (id place what value : Int) (r : Rq) (hg : getg id S.E = some r) (k : Nat) (hk : place = k) (h1 : sizeP r.ps ≤ k) (H : ReqM w B M t room S) (wid : (Lit.int .i64 id).wf = true) (wp : (Lit.int .i64 place).wf = true) :
    Calls Try.prog 65 #[.pointer (some ⟨t, 0, none⟩), .int .i64 id, .int .i64 place, .int .i64 what, .int .u64 value] w fun e w' => e = .returned (.int .i64 1) ∧ ReqM w' B M t room S ∧ KeepM B M w w' := by
  obtain ⟨b, base, v, xs, H⟩ := H
  obtain ⟨lo, hi⟩ := i64_bounds wp
  have h8 := get8 H.e8 id
  have HL := Lib.hid (fun Q ops rest o a (hg : Oper.guard o = none) (mo x : Operand) hop hmo hx hK => @wpList_lookg Int Rq _ mR w ops rest o a Q mRok hg mo x hop b S.E hmo H.mp id hx wid hK)
  have HT := H.ht
  have HH := Lib.hid H
  rw [hg] at h8
  unfold Hid at HL
  rw [hg] at HL
  have HL := Lib.hid HL
  simp only [Option.getD_some, Option.isSome_some] at HL h8
  clear H wid wp hg
  have hev : mR.ev r = .agg (Rq.cs r).toArray := rfl
  rw [hev] at HL
  have hld := rq_loadn h8
  have hsz : (Rq.cs r).length = 17 := rq_size h8
  have hst := rq_store h8
  have H8 := Lib.hid h8
  obtain ⟨cl, hcl⟩ : ∃ cl, cl = Rq.cs r := ⟨_, rfl⟩
  rw [← hcl] at HL hld hst hsz
  have harr := arr17 cl hsz
  have HCS := Lib.hid hcl
  clear hev hcl h8
  apply blk_use HT; intro hg1 hc1 hz1 _ _ _ _ _
  subst hk
  have HQ := Lib.hid (fun W => qsize r H8.out W)
  rw [← HCS.out] at HQ
  have h1d : decide (sizeP r.ps ≤ k) = true := by simpa using h1
  have hn := sizeP_le H8.out.p
  generalize sizeP r.ps = n at *
  go_enter Try.func65, Try.ntmps65
  go_wp2_with (at_lookup; refine HL.out _ _ _ _ _ rfl (.tmp 17) (.tmp 18) rfl rfl rfl ?_)
  with_reducible refine (HQ.out _).mono ?_
  rintro e w1 ⟨rfl, f1⟩
  have F1 : Fr [] w w1 := Fr.trans (by repeat' (first | (with_reducible exact Fr.refl _ _) | (with_reducible assumption) | (with_reducible refine Fr.drew ?_) | (with_reducible refine Fr.drewN ?_ _) | (with_reducible refine Fr.alloc ?_ _) | ((with_reducible refine Fr.setNew ?_ _ ?_ _); rotate_left; (focus (first | (with_reducible assumption) | exact Nat.le_of_lt (by with_reducible assumption) | (focus (simp +arith; done)) | exact Nat.le_trans (by with_reducible assumption) (by simp +arith; done) | (simp; done)))) | ((with_reducible refine Fr.setOld ?_ _ ?_ _); rotate_left; (focus (simp; done))))) f1
  go_wp2_with fail
  go_ret
  exact ⟨rfl, ⟨_, _, _, _, HH.out.fr0 F1⟩, KeepM.fr0 F1⟩
set_option maxRecDepth 100000 in
set_option maxHeartbeats 8000000 in
theorem qput_ex (id place what value : Int) (r : Rq) (hg : getg id S.E = some r) (k : Nat) (hk : place = k) (h1 : k < sizeP r.ps) (h2 : r.ps[k]? ≠ some 1) (H : ReqM w B M t room S) (wid : (Lit.int .i64 id).wf = true) (wp : (Lit.int .i64 place).wf = true) :
    Calls Try.prog 65 #[.pointer (some ⟨t, 0, none⟩), .int .i64 id, .int .i64 place, .int .i64 what, .int .u64 value] w fun e w' => e = .returned (.int .i64 4) ∧ ReqM w' B M t room S ∧ KeepM B M w w' := by
  obtain ⟨b, base, v, xs, H⟩ := H
  obtain ⟨lo, hi⟩ := i64_bounds wp
  have h8 := get8 H.e8 id
  have HL := Lib.hid (fun Q ops rest o a (hg : Oper.guard o = none) (mo x : Operand) hop hmo hx hK => @wpList_lookg Int Rq _ mR w ops rest o a Q mRok hg mo x hop b S.E hmo H.mp id hx wid hK)
  have HT := H.ht
  have HH := Lib.hid H
  rw [hg] at h8
  unfold Hid at HL
  rw [hg] at HL
  have HL := Lib.hid HL
  simp only [Option.getD_some, Option.isSome_some] at HL h8
  clear H wid wp hg
  have hev : mR.ev r = .agg (Rq.cs r).toArray := rfl
  rw [hev] at HL
  have hld := rq_loadn h8
  have hsz : (Rq.cs r).length = 17 := rq_size h8
  have hst := rq_store h8
  have H8 := Lib.hid h8
  obtain ⟨cl, hcl⟩ : ∃ cl, cl = Rq.cs r := ⟨_, rfl⟩
  rw [← hcl] at HL hld hst hsz
  have harr := arr17 cl hsz
  have HCS := Lib.hid hcl
  clear hev hcl h8
  apply blk_use HT; intro hg1 hc1 hz1 _ _ _ _ _
  subst hk
  have HQ := Lib.hid (fun W => qsize r H8.out W)
  rw [← HCS.out] at HQ
  have h1d : decide (sizeP r.ps ≤ k) = false := by simpa using h1
  have hn := sizeP_le H8.out.p
  have hk9 : k < 8 := by omega
  have hk9' : (k : Int) < 8 := by omega
  have hpk : r.ps[k]? = some (r.ps[k]'(by rw [H8.out.p]; omega)) := List.getElem?_eq_getElem _
  have hvk : ∃ y, r.vs[k]? = some y := ⟨_, List.getElem?_eq_getElem (by rw [H8.out.v]; omega)⟩
  obtain ⟨vk, hvk⟩ := hvk
  have HPK := Lib.hid hpk
  have HVK := Lib.hid hvk
  generalize r.ps[k]'(by rw [H8.out.p]; omega) = pk at *
  generalize sizeP r.ps = n at *
  have hp1 : pk ≠ 1 := fun e => h2 (by rw [HPK.out, e])
  have hpb : (pk == 1) = false := by simpa using hp1
  have hpn : (pk != 1) = true := by simpa using hp1
  clear hpk hvk h1 h2 hp1
  go_enter Try.func65, Try.ntmps65
  go_wp2_with (at_lookup; refine HL.out _ _ _ _ _ rfl (.tmp 17) (.tmp 18) rfl rfl rfl ?_)
  with_reducible refine (HQ.out _).mono ?_
  rintro e w1 ⟨rfl, f1⟩
  have F1 : Fr [] w w1 := Fr.trans (by repeat' (first | (with_reducible exact Fr.refl _ _) | (with_reducible assumption) | (with_reducible refine Fr.drew ?_) | (with_reducible refine Fr.drewN ?_ _) | (with_reducible refine Fr.alloc ?_ _) | ((with_reducible refine Fr.setNew ?_ _ ?_ _); rotate_left; (focus (first | (with_reducible assumption) | exact Nat.le_of_lt (by with_reducible assumption) | (focus (simp +arith; done)) | exact Nat.le_trans (by with_reducible assumption) (by simp +arith; done) | (simp; done)))) | ((with_reducible refine Fr.setOld ?_ _ ?_ _); rotate_left; (focus (simp; done))))) f1
  have Q1 : w1.heap[w.heap.size]? = some (.cells r.cs.toArray 95) := f1.heap (by rw [← HCS.out]; (apply heap_eq_of; (focus (repeat (first | (with_reducible assumption) | ((with_reducible refine heap_alloc_at ?_ _); first | (with_reducible rfl) | (focus (simp; done))) | (with_reducible apply heap_alloc_old) | ((with_reducible apply heap_set_other); (case hne => (first | (with_reducible assumption) | exact Nat.ne_of_lt (by with_reducible assumption) | exact Nat.ne_of_gt (by with_reducible assumption) | (focus (simp +arith; done)) | (simp; done)))) | (with_reducible apply heap_set_eq) | (with_reducible apply heap_drew_of) | (with_reducible apply heap_drewN_of)))); (focus (first | (simp; done) | rfl)))) (by simp)
  have hcA : w1.cell? ⟨w.heap.size, 1 + k, none⟩ = some (.int .i64 pk) := rq_pat Q1 H8.out HPK.out
  have F1 := Lib.hid F1
  clear f1 Q1 hg1 hc1 hz1
  go_wp2_with fail
  go_ret
  exact ⟨rfl, ⟨_, _, _, _, HH.out.fr0 F1.out⟩, KeepM.fr0 F1.out⟩
set_option maxRecDepth 100000 in
set_option maxHeartbeats 8000000 in
theorem qput_ok (id place what value : Int) (r : Rq) (hg : getg id S.E = some r) (k : Nat) (hk : place = k) (h1 : k < sizeP r.ps) (h2 : r.ps[k]? = some 1) (hE : S.E.length ≤ 1000) (hK : S.K.length ≤ 1000) (hB : B ≤ w.heap.size) (H : ReqM w B M t room S) (wid : (Lit.int .i64 id).wf = true) (wp : (Lit.int .i64 place).wf = true) :
    Calls Try.prog 65 #[.pointer (some ⟨t, 0, none⟩), .int .i64 id, .int .i64 place, .int .i64 what, .int .u64 value] w fun e w' => e = .returned (.int .i64 0) ∧ ReqM w' B M t room (settleR id ⟨r.kind, r.ps.set k what, r.vs.set k value⟩ S) ∧ KeepM B M w w' := by
  obtain ⟨b, base, v, xs, H⟩ := H
  obtain ⟨lo, hi⟩ := i64_bounds wp
  have h8 := get8 H.e8 id
  have HL := Lib.hid (fun Q ops rest o a (hg : Oper.guard o = none) (mo x : Operand) hop hmo hx hK => @wpList_lookg Int Rq _ mR w ops rest o a Q mRok hg mo x hop b S.E hmo H.mp id hx wid hK)
  have HT := H.ht
  have HH := Lib.hid H
  rw [hg] at h8
  unfold Hid at HL
  rw [hg] at HL
  have HL := Lib.hid HL
  simp only [Option.getD_some, Option.isSome_some] at HL h8
  have HSET := Lib.hid (fun r' (h8 : Rq.Eight r') w1 L (H : ReqM w1 B L t room S) => qsettle id r' h8 H wid hE hK)
  have HBZ := Lib.hid hB
  clear H wid wp hg hE hK hB
  have hev : mR.ev r = .agg (Rq.cs r).toArray := rfl
  rw [hev] at HL
  have hld := rq_loadn h8
  have hsz : (Rq.cs r).length = 17 := rq_size h8
  have hst := rq_store h8
  have H8 := Lib.hid h8
  obtain ⟨cl, hcl⟩ : ∃ cl, cl = Rq.cs r := ⟨_, rfl⟩
  rw [← hcl] at HL hld hst hsz
  have harr := arr17 cl hsz
  have HCS := Lib.hid hcl
  clear hev hcl h8
  apply blk_use HT; intro hg1 hc1 hz1 _ _ _ _ _
  subst hk
  have HQ := Lib.hid (fun W => qsize r H8.out W)
  rw [← HCS.out] at HQ
  have h1d : decide (sizeP r.ps ≤ k) = false := by simpa using h1
  have hn := sizeP_le H8.out.p
  have hk9 : k < 8 := by omega
  have hk9' : (k : Int) < 8 := by omega
  have hpk : r.ps[k]? = some (r.ps[k]'(by rw [H8.out.p]; omega)) := List.getElem?_eq_getElem _
  have hvk : ∃ y, r.vs[k]? = some y := ⟨_, List.getElem?_eq_getElem (by rw [H8.out.v]; omega)⟩
  obtain ⟨vk, hvk⟩ := hvk
  have HPK := Lib.hid hpk
  have HVK := Lib.hid hvk
  generalize r.ps[k]'(by rw [H8.out.p]; omega) = pk at *
  generalize sizeP r.ps = n at *
  obtain rfl : pk = 1 := by have := HPK.out; rw [h2] at this; injection this with e; exact e.symm
  clear hpk hvk h1 h2
  go_enter Try.func65, Try.ntmps65
  go_wp2_with (at_lookup; refine HL.out _ _ _ _ _ rfl (.tmp 17) (.tmp 18) rfl rfl rfl ?_)
  with_reducible refine (HQ.out _).mono ?_
  rintro e w1 ⟨rfl, f1⟩
  have F1 : Fr [] w w1 := Fr.trans (by repeat' (first | (with_reducible exact Fr.refl _ _) | (with_reducible assumption) | (with_reducible refine Fr.drew ?_) | (with_reducible refine Fr.drewN ?_ _) | (with_reducible refine Fr.alloc ?_ _) | ((with_reducible refine Fr.setNew ?_ _ ?_ _); rotate_left; (focus (first | (with_reducible assumption) | exact Nat.le_of_lt (by with_reducible assumption) | (focus (simp +arith; done)) | exact Nat.le_trans (by with_reducible assumption) (by simp +arith; done) | (simp; done)))) | ((with_reducible refine Fr.setOld ?_ _ ?_ _); rotate_left; (focus (simp; done))))) f1
  have Q1 : w1.heap[w.heap.size]? = some (.cells r.cs.toArray 95) := f1.heap (by rw [← HCS.out]; (apply heap_eq_of; (focus (repeat (first | (with_reducible assumption) | ((with_reducible refine heap_alloc_at ?_ _); first | (with_reducible rfl) | (focus (simp; done))) | (with_reducible apply heap_alloc_old) | ((with_reducible apply heap_set_other); (case hne => (first | (with_reducible assumption) | exact Nat.ne_of_lt (by with_reducible assumption) | exact Nat.ne_of_gt (by with_reducible assumption) | (focus (simp +arith; done)) | (simp; done)))) | (with_reducible apply heap_set_eq) | (with_reducible apply heap_drew_of) | (with_reducible apply heap_drewN_of)))); (focus (first | (simp; done) | rfl)))) (by simp)
  have hcA : w1.cell? ⟨w.heap.size, 1 + k, none⟩ = some (.int .i64 1) := rq_pat Q1 H8.out HPK.out
  have hcB : w1.cell? ⟨w.heap.size, 9 + k, none⟩ = some (.int .u64 vk) := rq_vat Q1 H8.out hk9 HVK.out
  have H1 := Lib.hid (HH.out.turn (M' := w.heap.size :: M) F1 (by simp) (fun x hx => (List.mem_cons.1 hx).elim (fun e => Or.inr (by have := lt_of_heap Q1; omega)) Or.inl))
  have HQN : Hid (B ≤ w.heap.size ∧ w.heap.size ∉ M) := ⟨HBZ.out, fun h => by have := HH.out.ms _ h; omega⟩
  have F1 := Lib.hid F1
  have hfz := blk_frozen Q1
  have hql := lt_of_heap Q1
  have HQ1 := Lib.hid Q1
  clear Q1 f1 hg1 hc1 hz1 HT HH HQ HL
  generalize w.heap.size = q at *
  go_upto_region 9 with fail
  have Q2 : ((w1.setCell ⟨q, 1 + k, none⟩ (.int .i64 what)).setCell ⟨q, 9 + k, none⟩ (.int .u64 value)).heap[q]? = some (.cells (⟨r.kind, r.ps.set k what, r.vs.set k value⟩ : Rq).cs.toArray 95) := by
    rw [← rq_put H8.out hk9 what value]
    exact heap_set_eq (heap_set_eq HQ1.out _ _) _ _
  have f2 : Fr [q] w1 ((w1.setCell ⟨q, 1 + k, none⟩ (.int .i64 what)).setCell ⟨q, 9 + k, none⟩ (.int .u64 value)) := (by repeat' (first | (with_reducible exact Fr.refl _ _) | (with_reducible assumption) | (with_reducible refine Fr.drew ?_) | (with_reducible refine Fr.drewN ?_ _) | (with_reducible refine Fr.alloc ?_ _) | ((with_reducible refine Fr.setNew ?_ _ ?_ _); rotate_left; (focus (first | (with_reducible assumption) | exact Nat.le_of_lt (by with_reducible assumption) | (focus (simp +arith; done)) | exact Nat.le_trans (by with_reducible assumption) (by simp +arith; done) | (simp; done)))) | ((with_reducible refine Fr.setOld ?_ _ ?_ _); rotate_left; (focus (simp; done)))))
  have H2 := Lib.hid (H1.out.turn (M' := q :: M) f2 (by simp) (fun x hx => Or.inl hx))
  have K2 : Hid (KeepM B M w ((w1.setCell ⟨q, 1 + k, none⟩ (.int .i64 what)).setCell ⟨q, 9 + k, none⟩ (.int .u64 value))) := (KeepM.fr0 F1.out).trans (KeepM.of f2 (by simp; exact HQN.out))
  have h8' := rq_set8 H8.out k what value
  have HS := HSET.out _ h8'
  have hld2 := rq_load h8'
  have hsz2 : (Rq.cs ⟨r.kind, r.ps.set k what, r.vs.set k value⟩).length = 17 := rq_size h8'
  obtain ⟨r', hr'⟩ : ∃ r' : Rq, r' = ⟨r.kind, r.ps.set k what, r.vs.set k value⟩ := ⟨_, rfl⟩
  rw [← hr'] at HS Q2 hld2 hsz2
  obtain ⟨cl2, hcl2⟩ : ∃ cl2, cl2 = r'.cs := ⟨_, rfl⟩
  rw [← hcl2] at HS Q2 hld2 hsz2
  have harr2 := arr17 cl2 hsz2
  have HS := Lib.hid HS
  have HR' := Lib.hid hr'
  generalize ((w1.setCell ⟨q, 1 + k, none⟩ (.int .i64 what)).setCell ⟨q, 9 + k, none⟩ (.int .u64 value)) = w2 at *
  have H2M : Hid (ReqM w2 B (q :: M) t room S) := ⟨_, _, _, _, H2.out⟩
  clear h8' f2 HQ1 hfz hql hcA hcB HSET H1 H2 hr' hcl2 hld hst
  apply blk_use Q2; intro hg2 hc2 hz2 _ _ _ _ _
  go_wp2_with fail
  with_reducible refine (HS.out _ (q :: M) H2M.out).mono ?_
  rintro e w3 ⟨rfl, H3, K3⟩
  go_wp2_with fail
  go_ret
  rw [← HR'.out]
  exact ⟨rfl, H3.turn (Fr.refl [] _) (by simp) (fun x hx => Or.inl (List.mem_cons_of_mem _ hx)), K2.out.trans (K3.mono (fun x hx => List.mem_cons_of_mem _ hx))⟩
theorem qput (id place what value : Int) (H : ReqM w B M t room S) (wid : (Lit.int .i64 id).wf = true) (wp : (Lit.int .i64 place).wf = true) (hE : S.E.length ≤ 1000) (hk : S.K.length ≤ 1000) (hB : B ≤ w.heap.size) :
    Calls Try.prog 65 #[.pointer (some ⟨t, 0, none⟩), .int .i64 id, .int .i64 place, .int .i64 what, .int .u64 value] w fun e w' => e = .returned (.int .i64 (putR id place what value S).1) ∧ ReqM w' B M t room (putR id place what value S).2 ∧ KeepM B M w w' := by
  unfold putR
  cases hg : getg id S.E with
  | none => exact qput_no id place what value hg H wid wp
  | some r =>
    simp only
    by_cases h0 : place < 0
    · rw [if_pos (Or.inl h0)]; exact qput_neg id place what value r hg h0 H wid wp
    · obtain ⟨k, rfl⟩ : ∃ k : Nat, place = k := ⟨place.toNat, by omega⟩
      by_cases h1 : sizeP r.ps ≤ k
      · rw [if_pos (Or.inr (by omega))]; exact qput_far id k what value r hg k rfl h1 H wid wp
      · rw [if_neg (by omega), Int.toNat_natCast]
        by_cases h2 : r.ps[k]? = some 1
        · rw [if_pos h2]; exact qput_ok id k what value r hg k rfl (by omega) h2 hE hk hB H wid wp
        · rw [if_neg h2]; exact qput_ex id k what value r hg k rfl (by omega) h2 H wid wp
set_option maxHeartbeats 2000000 in
theorem qgive (id place value : Int) (H : ReqM w B M t room S) (wid : (Lit.int .i64 id).wf = true) (wp : (Lit.int .i64 place).wf = true) (hE : S.E.length ≤ 1000) (hk : S.K.length ≤ 1000) (hB : B ≤ w.heap.size) :
    Calls Try.prog 45 #[.pointer (some ⟨t, 0, none⟩), .int .i64 id, .int .i64 place, .int .u64 value] w fun e w' => e = .returned (.int .i64 (putR id place 2 value S).1) ∧ ReqM w' B M t room (putR id place 2 value S).2 ∧ KeepM B M w w' := by
  have HC := Lib.hid (qput id place 2 value H wid wp hE hk hB)
  clear H wid wp hE hk hB
  go_enter Try.func45, Try.ntmps45
  go_wp2_with fail
  with_reducible refine HC.out.mono ?_
  rintro e w1 ⟨rfl, h1, k1⟩
  go_wp2_with fail
  go_ret
  exact ⟨rfl, h1, k1⟩
set_option maxHeartbeats 2000000 in
theorem qlose (id place : Int) (H : ReqM w B M t room S) (wid : (Lit.int .i64 id).wf = true) (wp : (Lit.int .i64 place).wf = true) (hE : S.E.length ≤ 1000) (hk : S.K.length ≤ 1000) (hB : B ≤ w.heap.size) :
    Calls Try.prog 46 #[.pointer (some ⟨t, 0, none⟩), .int .i64 id, .int .i64 place] w fun e w' => e = .returned (.int .i64 (putR id place 3 0 S).1) ∧ ReqM w' B M t room (putR id place 3 0 S).2 ∧ KeepM B M w w' := by
  have HC := Lib.hid (qput id place 3 0 H wid wp hE hk hB)
  clear H wid wp hE hk hB
  go_enter Try.func46, Try.ntmps46
  go_wp2_with fail
  with_reducible refine HC.out.mono ?_
  rintro e w1 ⟨rfl, h1, k1⟩
  go_wp2_with fail
  go_ret
  exact ⟨rfl, h1, k1⟩
set_option maxRecDepth 100000 in
set_option maxHeartbeats 4000000 in
theorem qcancel (id : Int) (H : ReqM w B M t room S) (wid : (Lit.int .i64 id).wf = true) (hk : S.K.length ≤ 1000) :
    Calls Try.prog 47 #[.pointer (some ⟨t, 0, none⟩), .int .i64 id] w fun e w' => e = .returned (.int .i64 (cancelR id S).1) ∧ ReqM w' B M t room (cancelR id S).2 ∧ KeepM B M w w' := by
  obtain ⟨b, base, v, xs, H⟩ := H
  have h8 := get8 H.e8 id
  have HL := Lib.hid (fun Q ops rest o a (hg : Oper.guard o = none) (mo x : Operand) hop hmo hx hK => @wpList_lookg Int Rq _ mR w ops rest o a Q mRok hg mo x hop b S.E hmo H.mp id hx wid hK)
  have HA : Hid (∀ w', ReqI w' B M t b base room v xs S → Calls Try.prog 66 #[.pointer (some ⟨t, 0, none⟩), .agg #[.int .i64 id, .int .i64 8, .slice none 0 0]] w' fun e w'' => e = .returned (.tuple #[]) ∧ (∃ v' xs', ReqI w'' B M t b base room v' xs' ⟨cutg id S.E, S.K ++ [⟨id, 8, []⟩]⟩) ∧ KeepM B M w' w'') :=
    fun w' h => qans ⟨id, 8, none, 0, 0⟩ [] h (El.Sl.nil _ _ _) wid hk
  have HT := H.ht
  have HH := Lib.hid H
  have HCR : Hid (cancelR id S = if (getg id S.E).isSome then (0, ⟨cutg id S.E, S.K ++ [⟨id, 8, []⟩]⟩) else (3, S)) := rfl
  generalize cancelR id S = cr at *
  clear H wid hk
  have hev : mR.ev ((getg id S.E).getD mR.z) = .agg ((getg id S.E).getD mR.z).cs.toArray := rfl
  rw [hev] at HL
  have hld := rq_loadn h8
  have hsz : (Rq.cs ((getg id S.E).getD mR.z)).length = 17 := rq_size h8
  have hst := rq_store h8
  generalize ((getg id S.E).getD mR.z).cs = cl at *
  clear hev h8
  generalize (getg id S.E).isSome = β at *
  apply blk_use HT; intro hg1 hc1 hz1 _ _ _ _ _
  cases β
  · go_enter Try.func47, Try.ntmps47
    go_wp2_with (at_lookup; refine HL.out _ _ _ _ _ rfl (.tmp 11) (.tmp 12) rfl rfl rfl ?_)
    go_ret
    rw [HCR.out]
    exact ⟨rfl, ⟨_, _, _, _, HH.out.fr0 (by repeat' (first | (with_reducible exact Fr.refl _ _) | (with_reducible assumption) | (with_reducible refine Fr.drew ?_) | (with_reducible refine Fr.drewN ?_ _) | (with_reducible refine Fr.alloc ?_ _) | ((with_reducible refine Fr.setNew ?_ _ ?_ _); rotate_left; (focus (first | (with_reducible assumption) | exact Nat.le_of_lt (by with_reducible assumption) | (focus (simp +arith; done)) | exact Nat.le_trans (by with_reducible assumption) (by simp +arith; done) | (simp; done)))) | ((with_reducible refine Fr.setOld ?_ _ ?_ _); rotate_left; (focus (simp; done)))))⟩, KeepM.fr0 (by repeat' (first | (with_reducible exact Fr.refl _ _) | (with_reducible assumption) | (with_reducible refine Fr.drew ?_) | (with_reducible refine Fr.drewN ?_ _) | (with_reducible refine Fr.alloc ?_ _) | ((with_reducible refine Fr.setNew ?_ _ ?_ _); rotate_left; (focus (first | (with_reducible assumption) | exact Nat.le_of_lt (by with_reducible assumption) | (focus (simp +arith; done)) | exact Nat.le_trans (by with_reducible assumption) (by simp +arith; done) | (simp; done)))) | ((with_reducible refine Fr.setOld ?_ _ ?_ _); rotate_left; (focus (simp; done)))))⟩
  · go_enter Try.func47, Try.ntmps47
    go_wp2_with (at_lookup; refine HL.out _ _ _ _ _ rfl (.tmp 11) (.tmp 12) rfl rfl rfl ?_)
    have f1 : Fr [] w (w.alloc (.cells cl.toArray 95)) := (by repeat' (first | (with_reducible exact Fr.refl _ _) | (with_reducible assumption) | (with_reducible refine Fr.drew ?_) | (with_reducible refine Fr.drewN ?_ _) | (with_reducible refine Fr.alloc ?_ _) | ((with_reducible refine Fr.setNew ?_ _ ?_ _); rotate_left; (focus (first | (with_reducible assumption) | exact Nat.le_of_lt (by with_reducible assumption) | (focus (simp +arith; done)) | exact Nat.le_trans (by with_reducible assumption) (by simp +arith; done) | (simp; done)))) | ((with_reducible refine Fr.setOld ?_ _ ?_ _); rotate_left; (focus (simp; done)))))
    with_reducible refine (HA.out _ (HH.out.fr0 f1)).mono ?_
    rintro e w2 ⟨rfl, ⟨v2', xs2, H2⟩, K2⟩
    go_wp2_with fail
    go_ret
    rw [HCR.out]
    exact ⟨rfl, ⟨_, _, _, _, H2⟩, (KeepM.fr0 f1).trans K2⟩
set_option maxRecDepth 100000 in
set_option maxHeartbeats 4000000 in
theorem qkind (id : Int) (H : ReqM w B M t room S) (wid : (Lit.int .i64 id).wf = true) :
    Calls Try.prog 39 #[.pointer (some ⟨t, 0, none⟩), .int .i64 id] w fun e w' => e = .returned (.int .i64 (kindR id S)) ∧ Fr [] w w' := by
  obtain ⟨b, base, v, xs, H⟩ := H
  have h8 := get8 H.e8 id
  have HL := Lib.hid (fun Q ops rest o a (hg : Oper.guard o = none) (mo x : Operand) hop hmo hx hK => @wpList_lookg1 Int Rq _ mR w ops rest o a Q mRok hg mo x hop b S.E hmo H.mp id hx wid hK)
  have HT := H.ht
  obtain ⟨kd, p0, p1, p2, p3, p4, p5, p6, p7, v0, v1, v2, v3, v4, v5, v6, v7, hcs, hkd, hps⟩ := h8.cells
  have hev : mR.ev ((getg id S.E).getD mR.z) = .agg ((getg id S.E).getD mR.z).cs.toArray := rfl
  rw [hev, hcs] at HL
  have HK : Hid (kindR id S = kd) := hkd
  clear H wid hev hcs hkd hps h8
  have hfd : ∀ w, (Instr.field 95 (.agg #[.int .i64 kd, .int .i64 p0, .int .i64 p1, .int .i64 p2, .int .i64 p3, .int .i64 p4, .int .i64 p5, .int .i64 p6, .int .i64 p7, .int .u64 v0, .int .u64 v1, .int .u64 v2, .int .u64 v3, .int .u64 v4, .int .u64 v5, .int .u64 v6, .int .u64 v7]) 0).run Try.prog w = .ok (.int .i64 kd) w := fun w => by kernel_rfl
  apply blk_use HT; intro hg1 hc1 hz1 _ _ _ _ _
  go_enter Try.func39, Try.ntmps39
  go_wp2_with (at_lookup; refine HL.out _ _ _ _ _ rfl (.tmp 8) (.tmp 9) rfl rfl rfl ?_)
  go_ret
  exact ⟨ret_int HK.out.symm, (by repeat' (first | (with_reducible exact Fr.refl _ _) | (with_reducible assumption) | (with_reducible refine Fr.drew ?_) | (with_reducible refine Fr.drewN ?_ _) | (with_reducible refine Fr.alloc ?_ _) | ((with_reducible refine Fr.setNew ?_ _ ?_ _); rotate_left; (focus (first | (with_reducible assumption) | exact Nat.le_of_lt (by with_reducible assumption) | (focus (simp +arith; done)) | exact Nat.le_trans (by with_reducible assumption) (by simp +arith; done) | (simp; done)))) | ((with_reducible refine Fr.setOld ?_ _ ?_ _); rotate_left; (focus (simp; done)))))⟩
end
end Go.Proofs.Ytobekkgaildbgaa
