/- Package index: Far, Len, New. -/
import Derived.Test.YtobekkgaildbgaaIdx2
namespace Go.Proofs.Ytobekkgaildbgaa
open Go.RowKit

theorem i64_mask_int (a : Int) (k : Nat) (hk : k ≤ 8) : bits .and .i64 a ((2 ^ k : Nat) - 1 : Int) = a % ((2 ^ k : Nat) : Int) := by
  have h1 : 2 ^ k ≤ 2 ^ 8 := Nat.pow_le_pow_right (by omega) hk
  have h0 : 0 < 2 ^ k := Nat.pow_pos (by omega)
  have e : ((2 ^ k : Nat) - 1 : Int) = ((2 ^ k - 1 : Nat) : Int) := by omega
  have hd : ((2 ^ k : Nat) : Int) ∣ ((2 ^ 64 : Nat) : Int) := Int.natCast_dvd_natCast.2 (Nat.pow_dvd_pow 2 (by omega))
  rw [e]
  show IntKind.i64.wrap ((BitVec.ofInt 64 a &&& BitVec.ofInt 64 ((2 ^ k - 1 : Nat) : Int)).toNat : Int) = _
  rw [BitVec.toNat_and, Go.ofInt_u64 (2 ^ k - 1) (by omega), BitVec.toNat_ofInt, Nat.and_two_pow_sub_one_eq_mod]
  have e2 : (((a % ((2 ^ 64 : Nat) : Int)).toNat % 2 ^ k : Nat) : Int) = a % ((2 ^ k : Nat) : Int) := by
    have p0 : 0 ≤ a % ((2 ^ 64 : Nat) : Int) := Int.emod_nonneg _ (by decide)
    rw [Int.natCast_emod, Int.toNat_of_nonneg p0]
    exact Int.emod_emod_of_dvd a hd
  rw [e2]
  have b0 : 0 ≤ a % ((2 ^ k : Nat) : Int) := Int.emod_nonneg _ (by omega)
  have b1 : a % ((2 ^ k : Nat) : Int) < ((2 ^ k : Nat) : Int) := Int.emod_lt_of_pos _ (by omega)
  generalize a % ((2 ^ k : Nat) : Int) = r at *
  simp [IntKind.wrap, IntKind.bits, IntKind.signed]
  omega
theorem dist_mod {N : Nat} {f : Nat} {key : Int} (hf : f < N) : ((f : Int) - key) % (N : Int) = (dist N (hm N (key + 1)) f : Nat) := by
  have hN : 0 < N := by omega
  have hh := hm_lt (key + 1) hN
  have e : ((hm N (key + 1) : Nat) : Int) = key % N := by
    unfold hm; rw [Int.add_sub_cancel, Int.toNat_of_nonneg (Int.emod_nonneg _ (by omega))]
  rw [Int.sub_emod, ← e]
  have e1 : ((f : Int) % N) = f := Int.emod_eq_of_lt (by omega) (by omega)
  rw [e1]
  generalize hm N (key + 1) = h at *
  unfold dist
  split
  · rw [Int.emod_eq_of_lt (by omega) (by omega)]; omega
  · rw [← Int.add_emod_right, Int.emod_eq_of_lt (by omega) (by omega)]; omega
/-- How far a key lies from its home; -1: it isn't there. -/
def farL (N : Nat) (T : Tb) (key : Int) : Int := if (getL N T key).2 = true then (dist N (hm N (key + 1)) (findL N T (key + 1)) : Nat) else -1

section
variable {x b N : Nat} {T : Tb} {c : Int} {w : World}
set_option maxRecDepth 100000 in
set_option maxHeartbeats 4000000 in
theorem idx_far (key : Int) (hk : IOk N T c) (H : IdxAt w x b N T c) :
    Calls Try.prog 28 #[.pointer (some ⟨x, 0, none⟩), .int .i64 key] w fun e w' => e = .returned (.int .i64 (farL N T key)) ∧ Fr [] w w' := by
  have fol : Try.prog.follows .mixedOrders = true := by kernel_rfl
  have HG := Lib.hid (idx_get key hk H)
  have HH := Lib.hid H
  by_cases hr : (getL N T key).2 = true
  · have e : Hid (farL N T key = (dist N (hm N (key + 1)) (findL N T (key + 1)) : Nat)) := by unfold Hid farL; rw [if_pos hr]
    rw [hr] at HG
    have hrk : rightK key = true := by
      unfold getL at hr
      split at hr
      · cases hr
      · rename_i q; simpa using q
    obtain ⟨k0, k1⟩ := rightK_of hrk
    have HF := Lib.hid (find_of (x := x) (b := b) hk key k0 k1 rfl)
    have hfl := (hk.found (key + 1)).lt
    obtain ⟨k, hk8, hkN⟩ := hk.pw
    have hm9 : bits .and .i64 ((findL N T (key + 1) : Nat) - key) ((N : Int) - 1) = (dist N (hm N (key + 1)) (findL N T (key + 1)) : Nat) := by
      rw [← dist_mod hfl, hkN]; exact i64_mask_int _ k hk8
    have n2 := (pow_le hk.pw).2
    have n0' : 0 < (N : Int) := by omega
    have n1' : (N : Int) ≤ 256 := by omega
    have HX := H.hx
    have hz9 : (getL N T key).1 = (getL N T key).1 := rfl
    generalize dist N (hm N (key + 1)) (findL N T (key + 1)) = D at *
    generalize findL N T (key + 1) = f at *
    generalize (getL N T key).1 = g at *
    have hfl' : (f : Int) < N := by omega
    clear H hk hr hrk hkN hz9
    go_enter Try.func28, Try.ntmps28
    go_wp2_with fail
    with_reducible refine HG.out.mono ?_
    rintro e' w1 ⟨rfl, f1⟩
    have H1 := Lib.hid (HH.out.fr f1 (by simp) (by simp))
    apply f1.use (k := x); (focus (repeat (first | (with_reducible assumption) | ((with_reducible refine heap_alloc_at ?_ _); first | (with_reducible rfl) | (focus (simp; done))) | (with_reducible apply heap_alloc_old) | ((with_reducible apply heap_set_other); (case hne => (first | (with_reducible assumption) | exact Nat.ne_of_lt (by with_reducible assumption) | exact Nat.ne_of_gt (by with_reducible assumption) | (focus (simp +arith; done)) | (simp; done)))) | (with_reducible apply heap_set_eq) | (with_reducible apply heap_drew_of) | (with_reducible apply heap_drewN_of)))); (focus (first | (simp; done) | (simp; assumption))); intro hg1 hc1 hz1 _ _ _ _ _; (try simp only [List.setIfInBounds_toArray, List.set_cons_zero, List.set_cons_succ] at hg1 hc1)
    go_wp2_with fail
    refine wp_region_seqV_lit (fun _ _ w' => Fr [] w1 w') fol (by kernel_rfl) (Fr.refl _ _).drew ?_
    (repeat (apply SeqV.cons; (focus (intro Vv bv wv hbv hdv hsh hSv; apply hSv.use (k := x); (focus (repeat (first | (with_reducible assumption) | ((with_reducible refine heap_alloc_at ?_ _); first | (with_reducible rfl) | (focus (simp; done))) | (with_reducible apply heap_alloc_old) | ((with_reducible apply heap_set_other); (case hne => (first | (with_reducible assumption) | exact Nat.ne_of_lt (by with_reducible assumption) | exact Nat.ne_of_gt (by with_reducible assumption) | (focus (simp +arith; done)) | (simp; done)))) | (with_reducible apply heap_set_eq) | (with_reducible apply heap_drew_of) | (with_reducible apply heap_drewN_of)))); (focus (first | (simp; done) | (simp; assumption))); intro hg21 hc21 hz21 _ _ _ _ _; (try simp only [List.setIfInBounds_toArray, List.set_cons_zero, List.set_cons_succ] at hg21 hc21); go_wp2_with fail; exact StepPost.mk rfl (Fr.trans (S := []) hSv (by repeat' (first | (with_reducible exact Fr.refl _ _) | (with_reducible assumption) | (with_reducible refine Fr.drew ?_) | (with_reducible refine Fr.drewN ?_ _) | (with_reducible refine Fr.alloc ?_ _) | ((with_reducible refine Fr.setNew ?_ _ ?_ _); rotate_left; (focus (first | (with_reducible assumption) | exact Nat.le_of_lt (by with_reducible assumption) | (focus (simp +arith; done)) | exact Nat.le_trans (by with_reducible assumption) (by simp +arith; done) | (simp; done)))) | ((with_reducible refine Fr.setOld ?_ _ ?_ _); rotate_left; (focus (simp; done)))))))); (try simp only [Act.put, List.setIfInBounds_toArray, List.set_cons_zero, List.set_cons_succ, Nat.reduceAdd, Nat.zero_add])))
    apply SeqV.cons (v := .int .i64 (f : Nat)); (focus (intro Vv bv wv hbv hdv hsh hSv; go_wp2_with fail; with_reducible refine (HF.out _ (H1.out.fr hSv (by simp) (by simp))).mono ?_; rintro e ww ⟨rfl, rfl⟩; go_wp2_with fail; exact StepPost.mk rfl hSv)); (try simp only [Act.put, List.setIfInBounds_toArray, List.set_cons_zero, List.set_cons_succ, Nat.reduceAdd, Nat.zero_add])
    (repeat (apply SeqV.cons; (focus (intro Vv bv wv hbv hdv hsh hSv; apply hSv.use (k := x); (focus (repeat (first | (with_reducible assumption) | ((with_reducible refine heap_alloc_at ?_ _); first | (with_reducible rfl) | (focus (simp; done))) | (with_reducible apply heap_alloc_old) | ((with_reducible apply heap_set_other); (case hne => (first | (with_reducible assumption) | exact Nat.ne_of_lt (by with_reducible assumption) | exact Nat.ne_of_gt (by with_reducible assumption) | (focus (simp +arith; done)) | (simp; done)))) | (with_reducible apply heap_set_eq) | (with_reducible apply heap_drew_of) | (with_reducible apply heap_drewN_of)))); (focus (first | (simp; done) | (simp; assumption))); intro hg21 hc21 hz21 _ _ _ _ _; (try simp only [List.setIfInBounds_toArray, List.set_cons_zero, List.set_cons_succ] at hg21 hc21); go_wp2_with fail; exact StepPost.mk rfl (Fr.trans (S := []) hSv (by repeat' (first | (with_reducible exact Fr.refl _ _) | (with_reducible assumption) | (with_reducible refine Fr.drew ?_) | (with_reducible refine Fr.drewN ?_ _) | (with_reducible refine Fr.alloc ?_ _) | ((with_reducible refine Fr.setNew ?_ _ ?_ _); rotate_left; (focus (first | (with_reducible assumption) | exact Nat.le_of_lt (by with_reducible assumption) | (focus (simp +arith; done)) | exact Nat.le_trans (by with_reducible assumption) (by simp +arith; done) | (simp; done)))) | ((with_reducible refine Fr.setOld ?_ _ ?_ _); rotate_left; (focus (simp; done)))))))); (try simp only [Act.put, List.setIfInBounds_toArray, List.set_cons_zero, List.set_cons_succ, Nat.reduceAdd, Nat.zero_add])))
    refine SeqV.nil ?_
    intro Vv bv w5 hb5 hSv
    clear hb5
    go_wp2_with fail
    go_ret
    exact ⟨by rw [e.out]; rfl, f1.trans hSv⟩
  · have hr' : (getL N T key).2 = false := by simpa using hr
    have e : Hid (farL N T key = -1) := by unfold Hid farL; rw [if_neg hr]
    rw [hr'] at HG
    generalize (getL N T key).1 = g at *
    clear hr hr' H hk
    go_enter Try.func28, Try.ntmps28
    go_wp2_with fail
    with_reducible refine HG.out.mono ?_
    rintro e' w1 ⟨rfl, f1⟩
    go_wp2_with fail
    go_ret
    exact ⟨by rw [e.out]; rfl, f1⟩

set_option maxHeartbeats 1000000 in
theorem idx_len (H : IdxAt w x b N T c) : Calls Try.prog 23 #[.pointer (some ⟨x, 0, none⟩)] w fun e w' => e = .returned (.int .i64 c) ∧ w = w' := by
  have HX := H.hx
  apply blk_use HX; intro hg1 hc1 hz1 _ _ _ _ _
  clear H
  go_enter Try.func23, Try.ntmps23
  go_wp2
  go_ret
  exact ⟨rfl, rfl⟩

theorem eP_make (n : Nat) (hn : n ≤ 100000) (w : World) : (Instr.makeSlice 73 (.int .i64 n) (.int .i64 n)).run Try.prog w = .ok (.slice (some ⟨w.heap.size, 0, none⟩) n n) (w.alloc (.cells (eP.cs (List.replicate n (0, 0))).toArray 79)) := by
  obtain ⟨ti, h1, h2, h3, h4⟩ := info_parts (P := Try.prog) (e := 79) (z := .agg #[.int .i64 0, .int .i64 0]) (size := 2) (bytes := 16) (by kernel_rfl)
  exact ePok.run_make (0, 0) h1 h2 h3 (by omega) rfl n hn w
set_option maxRecDepth 100000 in
set_option maxHeartbeats 2000000 in
theorem idx_new (k : Nat) (h0 : 1 ≤ k) (h1 : k ≤ 8) (n : Int) (hn : n = (2 ^ k : Nat)) (w : World) : Calls Try.prog 14 #[.int .i64 n] w fun e w' => e = .returned (.tuple #[.pointer (some ⟨w.heap.size + 1, 0, none⟩), .int .i64 0]) ∧ IdxAt w' (w.heap.size + 1) w.heap.size (2 ^ k) (List.replicate (2 ^ k) (0, 0)) 0 ∧ Fr [] w w' := by
  subst hn
  have h2 : 2 ^ k ≤ 2 ^ 8 := Nat.pow_le_pow_right (by omega) h1
  have h3 : 2 ^ 1 ≤ 2 ^ k := Nat.pow_le_pow_right (by omega) h0
  have hm9 : bits .and .i64 ((2 ^ k : Nat) : Int) (((2 ^ k : Nat) : Int) - 1) = 0 := by
    rw [i64_mask_int _ k h1, Int.emod_self]
  have hmk := fun w => eP_make (2 ^ k) (by omega) w
  generalize hN : 2 ^ k = N at *
  have n0 : 2 ≤ (N : Int) := by omega
  have n1 : (N : Int) ≤ 256 := by omega
  clear hN h2 h3 h0 h1
  go_enter Try.func14, Try.ntmps14
  go_wp2_with fail
  go_ret2
  exact ⟨rfl, ⟨by (apply heap_eq_of; (focus (repeat (first | (with_reducible assumption) | ((with_reducible refine heap_alloc_at ?_ _); first | (with_reducible rfl) | (focus (simp; done))) | (with_reducible apply heap_alloc_old) | ((with_reducible apply heap_set_other); (case hne => (first | (with_reducible assumption) | exact Nat.ne_of_lt (by with_reducible assumption) | exact Nat.ne_of_gt (by with_reducible assumption) | (focus (simp +arith; done)) | (simp; done)))) | (with_reducible apply heap_set_eq) | (with_reducible apply heap_drew_of) | (with_reducible apply heap_drewN_of)))); (focus (first | (simp; done) | rfl))), by (apply heap_eq_of; (focus (repeat (first | (with_reducible assumption) | ((with_reducible refine heap_alloc_at ?_ _); first | (with_reducible rfl) | (focus (simp; done))) | (with_reducible apply heap_alloc_old) | ((with_reducible apply heap_set_other); (case hne => (first | (with_reducible assumption) | exact Nat.ne_of_lt (by with_reducible assumption) | exact Nat.ne_of_gt (by with_reducible assumption) | (focus (simp +arith; done)) | (simp; done)))) | (with_reducible apply heap_set_eq) | (with_reducible apply heap_drew_of) | (with_reducible apply heap_drewN_of)))); (focus (first | (simp; done) | rfl))), by omega⟩, (by repeat' (first | (with_reducible exact Fr.refl _ _) | (with_reducible assumption) | (with_reducible refine Fr.drew ?_) | (with_reducible refine Fr.drewN ?_ _) | (with_reducible refine Fr.alloc ?_ _) | ((with_reducible refine Fr.setNew ?_ _ ?_ _); rotate_left; (focus (first | (with_reducible assumption) | exact Nat.le_of_lt (by with_reducible assumption) | (focus (simp +arith; done)) | exact Nat.le_trans (by with_reducible assumption) (by simp +arith; done) | (simp; done)))) | ((with_reducible refine Fr.setOld ?_ _ ?_ _); rotate_left; (focus (simp; done)))))⟩
end
end Go.Proofs.Ytobekkgaildbgaa
