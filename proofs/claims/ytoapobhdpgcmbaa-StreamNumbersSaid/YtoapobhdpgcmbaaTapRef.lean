/- The reference of layer 8: New, May, at, without. -/
import Derived.Test.YtoapobhdpgcmbaaGen
import Derived.Deep.DeepCutAuto
import Derived.Deep.CutBlock
namespace Go.Proofs.Ytoapobhdpgcmbaa
open Go.RowKit

/-- An entry: the block, and its age. -/
def eX : El (Int × Int) := ⟨110, 50, 2, fun p => [.int .i64 p.1, .int .i64 p.2]⟩
theorem eXok : eX.Ok where
  len _ := rfl
  one x u hu := by simp [eX] at hu; rcases hu with rfl | rfl <;> rfl
  und := Try.underlying50
  pos := by decide
  info := by
    obtain ⟨ti, h1, h2, h3, h4⟩ := info_parts (P := Try.prog) (e := 110) (z := .agg #[.int .i64 0, .int .i64 0]) (size := 2) (bytes := 16) (by kernel_rfl)
    exact ⟨ti, _, h1, h2, h3, by omega, rfl⟩
theorem exat {w : World} {b off i : Nat} {xs : List (Int × Int)} {x : Int × Int} (h : ∀ j u, (eX.cs xs)[j]? = some u → w.cell? ⟨b, off + j, none⟩ = some u) (hi : xs[i]? = some x) :
    w.cell? ⟨b, off + i * 2, none⟩ = some (.int .i64 x.1) ∧ w.cell? ⟨b, off + i * 2 + 1, none⟩ = some (.int .i64 x.2) := ⟨(eXok.at h hi).1, (eXok.at h hi).2.1⟩

/-- The reference's table at block r; M are the blocks that are written to. -/
def RTap (M : List Nat) (w : World) (r : Nat) (size life : Int) (xs : List (Int × Int)) : Prop :=
  r ∈ M ∧ (∀ m ∈ M, m < w.heap.size) ∧ ∃ v, w.heap[r]? = some (.cells #[.int .i64 size, .int .i64 life, v] 53) ∧ eX.Sl M w v xs
theorem RTap.fr {M S : List Nat} {w w' : World} {r : Nat} {size life : Int} {xs : List (Int × Int)} (h : RTap M w r size life xs) (f : Fr S w w') (hS : ∀ x ∈ S, (x ∈ M ∨ w.heap.size ≤ x) ∧ x ≠ r) : RTap M w' r size life xs := by
  obtain ⟨h1, h2, v, h3, h4⟩ := h
  exact ⟨h1, fun m hm => Nat.lt_of_lt_of_le (h2 m hm) f.size, v, f.heap h3 (fun hx => (hS r hx).2 rfl), h4.fr f (fun x hx => (hS x hx).1)⟩

def atI (n : Int) : List (Int × Int) → Nat → Int
  | [], _ => -1
  | x :: r, k => if x.1 = n then k else atI n r (k + 1)
theorem atI_no {n : Int} : ∀ {xs : List (Int × Int)} {k : Nat}, n ∉ xs.map Prod.fst → atI n xs k = -1
  | [], _, _ => rfl
  | x :: r, k, h => by
    simp only [List.map_cons, List.mem_cons, not_or] at h
    rw [atI, if_neg (Ne.symm h.1), atI_no h.2]
theorem atI_yes {n : Int} : ∀ {xs : List (Int × Int)} {k : Nat}, n ∈ xs.map Prod.fst → ∃ i, i < xs.length ∧ atI n xs k = ((k + i : Nat) : Int) ∧ (∃ c, xs[i]? = some (n, c)) ∧ ∀ j < i, ∀ y, xs[j]? = some y → y.1 ≠ n
  | [], _, h => by simp at h
  | x :: r, k, h => by
    by_cases e : x.1 = n
    · exact ⟨0, by simp, by rw [atI, if_pos e]; simp, ⟨x.2, by simp [← e]⟩, fun j hj => by omega⟩
    · obtain ⟨i, h1, h2, h3, h4⟩ := atI_yes (xs := r) (k := k + 1) (by simp only [List.map_cons, List.mem_cons] at h; exact h.resolve_left (fun q => e q.symm))
      refine ⟨i + 1, by simp; omega, by rw [atI, if_neg e, h2]; congr 1; omega, by simpa using h3, fun j hj y hy => ?_⟩
      rcases j with _ | j
      · simp at hy; subst hy; exact e
      · exact h4 j (by omega) y (by simpa using hy)

section
variable {M : List Nat} {w : World}
set_option maxHeartbeats 1000000 in
theorem rt_at (r : Nat) (size life n : Int) (xs : List (Int × Int)) (hl : xs.length ≤ 100000) (H : RTap M w r size life xs) :
    Calls Try.prog 77 #[.pointer (some ⟨r, 0, none⟩), .int .i64 n] w fun e w' => e = .returned (.int .i64 (atI n xs 0)) ∧ w = w' := by
  obtain ⟨_, _, v, hr, A, cap, rfl, _, hA⟩ := H
  have HA := Lib.hid hA
  have hl' : (xs.length : Int) ≤ 100000 := by omega
  clear hA
  apply blk_use hr; intro hg1 hc1 hz1 _ _ _ _ _
  go_enter Try.func77, Try.ntmps77
  go_wp2_with fail
  go_loop [5] (fun v => ∃ i : Nat, v = .int .i64 i ∧ i ≤ xs.length ∧ atI n (xs.drop i) i = atI n xs 0) (fun v => xs.length - (intOf v).toNat)
  case atStart => exact ⟨0, rfl, by omega, rfl⟩
  case round =>
    obtain ⟨i, rfl, i1, hi⟩ := hrel
    have HI := Lib.hid hi
    clear hi
    by_cases hlt : i < xs.length
    · rcases HA.out with rfl | ⟨b, off, rfl, hb, _, hcl⟩
      · simp at hlt
      obtain ⟨c0, c1⟩ := exat hcl (List.getElem?_eq_getElem hlt)
      have hD : atI n (xs.drop i) i = if xs[i].1 = n then (i : Int) else atI n (xs.drop (i + 1)) (i + 1) := by rw [List.drop_eq_getElem_cons hlt, atI]
      generalize xs[i] = x at *
      clear hcl
      by_cases hx : x.1 = n
      · rw [if_pos hx] at hD
        have HD := Lib.hid hD
        clear hD
        subst hx
        go_wp2
        go_ret
        exact ⟨ret_int (by rw [← HI.out, HD.out]), rfl⟩
      · rw [if_neg hx] at hD
        have HD := Lib.hid hD
        clear hD
        go_wp2
        go_round
        case rel => exact ⟨i + 1, by go_num, by omega, by rw [← HD.out, HI.out]⟩
        case measure => simp [intOf]; omega
    · have : i = xs.length := by omega
      subst this
      go_wp2
      go_ret
      exact ⟨ret_int (by rw [← HI.out]; simp [atI]), rfl⟩

set_option maxRecDepth 100000 in
set_option maxHeartbeats 4000000 in
theorem rt_without (r : Nat) (size life : Int) (xs : List (Int × Int)) (i : Nat) (hi : i < xs.length) (hl : xs.length ≤ 100000) (H : RTap M w r size life xs) :
    Calls Try.prog 78 #[.pointer (some ⟨r, 0, none⟩), .int .i64 i] w fun e w' => e = .returned (.tuple #[]) ∧ RTap M w' r size life (xs.eraseIdx i) ∧ Fr [r] w w' := by
  have fol : Try.prog.follows .mixedOrders = true := by kernel_rfl
  obtain ⟨hrM, hM, v, hr, hS⟩ := H
  obtain ⟨A, cap, rfl, hc, _⟩ := id hS
  have e : Hid (xs.eraseIdx i = xs.take i ++ xs.drop (i + 1)) := List.eraseIdx_eq_take_drop_succ _ _
  have T1 := Lib.hid (hS.take eXok i (by omega))
  obtain ⟨u, hu, hu2⟩ := hS.from eXok (i + 1) (by omega)
  have T2 := Lib.hid hu2
  simp only [Int.natCast_succ, eX] at hu
  have hrb := hM r hrM
  have HM := Lib.hid hM
  have hi' : (i : Int) < xs.length := by omega
  have hl' : (xs.length : Int) ≤ 100000 := by omega
  clear hu2 hS hM
  go_enter Try.func78, Try.ntmps78
  go_wp2_with fail
  refine wp_region_seqV_lit (ChS eX w [r] w.heap.size (.slice none 0 0) [] [1, 8, 16] [[], xs.take i, xs.take i ++ xs.drop (i + 1)] [] 19 1000 r _ (fun u => .cells #[.int .i64 size, .int .i64 life, u] 53)) fol (by kernel_rfl) (ChS.start hr (Nat.le_refl _) (El.Own.nil _ _ _)) ?_
  (repeat (apply SeqV.cons; (focus (intro Vv bv wv hbv hdv hsh hSv; have t0 := hSv.t0 (shut_no hsh hbv 19 (by kernel_rfl)); apply blk_use t0; intro hg21 hc21 hz21 _ _ _ _ _; clear hsh hdv; go_wp2_with fail; exact StepPost.mk rfl (hSv.plain (by first | decide | simp) hrb (by repeat' (first | (with_reducible exact Fr.refl _ _) | (with_reducible assumption) | (with_reducible refine Fr.drew ?_) | (with_reducible refine Fr.drewN ?_ _) | (with_reducible refine Fr.alloc ?_ _) | ((with_reducible refine Fr.setNew ?_ _ ?_ _); rotate_left; (focus (first | (with_reducible assumption) | exact Nat.le_of_lt (by with_reducible assumption) | (focus (simp +arith; done)) | exact Nat.le_trans (by with_reducible assumption) (by simp +arith; done) | (simp; done)))) | ((with_reducible refine Fr.setOld ?_ _ ?_ _); rotate_left; (focus (simp; done)))))))); (try simp only [Act.put, List.setIfInBounds_toArray, List.set_cons_zero, List.set_cons_succ, Nat.reduceAdd, Nat.zero_add])))
  apply SeqV.var; (focus (intro Vv bv wv hbv hdv hsh hSv; go_wp2_with fail; exact StepV.mk _ rfl (hSv.row 0 rfl rfl (by first | decide | simp) (by simp) hbv (shut_no hsh hbv _ (by kernel_rfl)) (hSv.noq rfl) hrb (S := []) (by repeat' (first | (with_reducible exact Fr.refl _ _) | (with_reducible assumption) | (with_reducible refine Fr.drew ?_) | (with_reducible refine Fr.drewN ?_ _) | (with_reducible refine Fr.alloc ?_ _) | ((with_reducible refine Fr.setNew ?_ _ ?_ _); rotate_left; (focus (first | (with_reducible assumption) | exact Nat.le_of_lt (by with_reducible assumption) | (focus (simp +arith; done)) | exact Nat.le_trans (by with_reducible assumption) (by simp +arith; done) | (simp; done)))) | ((with_reducible refine Fr.setOld ?_ _ ?_ _); rotate_left; (focus (simp; done))))) (by simp) (by simp) (by simp) (El.Own.lit [] (by (apply heap_eq_of; (focus (repeat (first | (with_reducible assumption) | ((with_reducible refine heap_alloc_at ?_ _); first | (with_reducible rfl) | (focus (simp; done))) | (with_reducible apply heap_alloc_old) | ((with_reducible apply heap_set_other); (case hne => (first | (with_reducible assumption) | exact Nat.ne_of_lt (by with_reducible assumption) | exact Nat.ne_of_gt (by with_reducible assumption) | (focus (simp +arith; done)) | (simp; done)))) | (with_reducible apply heap_set_eq) | (with_reducible apply heap_drew_of) | (with_reducible apply heap_drewN_of)))); (focus (first | (simp; done) | rfl)))) hSv.fr.le rfl eXok (by simp [maxLen]) 0 rfl) (Or.inl (by simp [Value.ownBlock]))))); (try simp only [Act.put, List.setIfInBounds_toArray, List.set_cons_zero, List.set_cons_succ, Nat.reduceAdd, Nat.zero_add])
  (repeat (apply SeqV.cons; (focus (intro Vv bv wv hbv hdv hsh hSv; have t0 := hSv.t0 (shut_no hsh hbv 19 (by kernel_rfl)); apply blk_use t0; intro hg21 hc21 hz21 _ _ _ _ _; clear hsh hdv; go_wp2_with fail; exact StepPost.mk rfl (hSv.plain (by first | decide | simp) hrb (by repeat' (first | (with_reducible exact Fr.refl _ _) | (with_reducible assumption) | (with_reducible refine Fr.drew ?_) | (with_reducible refine Fr.drewN ?_ _) | (with_reducible refine Fr.alloc ?_ _) | ((with_reducible refine Fr.setNew ?_ _ ?_ _); rotate_left; (focus (first | (with_reducible assumption) | exact Nat.le_of_lt (by with_reducible assumption) | (focus (simp +arith; done)) | exact Nat.le_trans (by with_reducible assumption) (by simp +arith; done) | (simp; done)))) | ((with_reducible refine Fr.setOld ?_ _ ?_ _); rotate_left; (focus (simp; done)))))))); (try simp only [Act.put, List.setIfInBounds_toArray, List.set_cons_zero, List.set_cons_succ, Nat.reduceAdd, Nat.zero_add])))
  apply SeqV.var; (focus (intro Vv bv wv hbv hdv hsh hSv; have d0 := hdv { on := 1, ground := .data } (by simp) rfl; have p0 := hSv.at (1 - 1) rfl rfl rfl d0 hbv; go_wp2_with (at_builtin; refine wpList_appG eXok _ rfl (.tmp 5) (.tmp 11) rfl rfl _ _ _ rfl p0 _ _ rfl (T1.out.frB hSv.fr (by simpa using hrM) rfl) (by simp; omega) hSv.fr.le ?_; intro v1 wq O1 G1 U1); exact StepV.mk v1 rfl (hSv.row 1 rfl rfl (by first | decide | simp) (by intro p _ hp; simp at hp; subst hp; exact d0) hbv (shut_no hsh hbv _ (by kernel_rfl)) (hSv.noq rfl) hrb G1 (fun x hx => p0.ge x hx) (by intro p _ hp; simp at hp; subst hp; exact fun x hx => hx) (by simp) (by simpa using O1) (Or.inl U1)))); (try simp only [Act.put, List.setIfInBounds_toArray, List.set_cons_zero, List.set_cons_succ, Nat.reduceAdd, Nat.zero_add])
  (repeat (apply SeqV.cons; (focus (intro Vv bv wv hbv hdv hsh hSv; have t0 := hSv.t0 (shut_no hsh hbv 19 (by kernel_rfl)); apply blk_use t0; intro hg21 hc21 hz21 _ _ _ _ _; clear hsh hdv; go_wp2_with fail; exact StepPost.mk rfl (hSv.plain (by first | decide | simp) hrb (by repeat' (first | (with_reducible exact Fr.refl _ _) | (with_reducible assumption) | (with_reducible refine Fr.drew ?_) | (with_reducible refine Fr.drewN ?_ _) | (with_reducible refine Fr.alloc ?_ _) | ((with_reducible refine Fr.setNew ?_ _ ?_ _); rotate_left; (focus (first | (with_reducible assumption) | exact Nat.le_of_lt (by with_reducible assumption) | (focus (simp +arith; done)) | exact Nat.le_trans (by with_reducible assumption) (by simp +arith; done) | (simp; done)))) | ((with_reducible refine Fr.setOld ?_ _ ?_ _); rotate_left; (focus (simp; done)))))))); (try simp only [Act.put, List.setIfInBounds_toArray, List.set_cons_zero, List.set_cons_succ, Nat.reduceAdd, Nat.zero_add])))
  apply SeqV.var; (focus (intro Vv bv wv hbv hdv hsh hSv; have d0 := hdv { on := 8, ground := .data } (by simp) rfl; have p0 := hSv.at (2 - 1) rfl rfl rfl d0 hbv; go_wp2_with (at_builtin; refine wpList_appG eXok _ rfl (.tmp 12) (.tmp 19) rfl rfl _ _ _ rfl p0 _ _ rfl (T2.out.frB hSv.fr (by simpa using hrM) rfl) (by simp; omega) hSv.fr.le ?_; intro v1 wq O1 G1 U1); exact StepV.mk v1 rfl (hSv.row 2 rfl rfl (by first | decide | simp) (by intro p _ hp; simp at hp; subst hp; exact d0) hbv (shut_no hsh hbv _ (by kernel_rfl)) (hSv.noq rfl) hrb G1 (fun x hx => p0.ge x hx) (by intro p _ hp; simp at hp; subst hp; exact fun x hx => hx) (by simp) (by simpa using O1) (Or.inl U1)))); (try simp only [Act.put, List.setIfInBounds_toArray, List.set_cons_zero, List.set_cons_succ, Nat.reduceAdd, Nat.zero_add])
  (repeat (apply SeqV.cons; (focus (intro Vv bv wv hbv hdv hsh hSv; skip; clear hsh hdv; go_wp2_with fail; exact StepPost.mk rfl (hSv.plain (by first | decide | simp) hrb (by repeat' (first | (with_reducible exact Fr.refl _ _) | (with_reducible assumption) | (with_reducible refine Fr.drew ?_) | (with_reducible refine Fr.drewN ?_ _) | (with_reducible refine Fr.alloc ?_ _) | ((with_reducible refine Fr.setNew ?_ _ ?_ _); rotate_left; (focus (first | (with_reducible assumption) | exact Nat.le_of_lt (by with_reducible assumption) | (focus (simp +arith; done)) | exact Nat.le_trans (by with_reducible assumption) (by simp +arith; done) | (simp; done)))) | ((with_reducible refine Fr.setOld ?_ _ ?_ _); rotate_left; (focus (simp; done)))))))); (try simp only [Act.put, List.setIfInBounds_toArray, List.set_cons_zero, List.set_cons_succ, Nat.reduceAdd, Nat.zero_add])))
  apply SeqV.cons (v := undef); (focus (intro Vv bv wv hbv hdv hsh hSv; have t0 := hSv.t0 hbv; have d0 := hdv { on := 16, ground := .data } (by simp) rfl; obtain ⟨sA, sc, hsv⟩ := hSv.shape (p := 16) rfl rfl d0; apply blk_use t0; intro hg21 hc21 hz21 _ _ _ _ _; go_wp2_with fail; exact StepPost.mk rfl (hSv.store (by first | decide | simp) (by simp) hrb (p := 16) rfl d0 (S := [r]) (by repeat' (first | (with_reducible exact Fr.refl _ _) | (with_reducible assumption) | (with_reducible refine Fr.drew ?_) | (with_reducible refine Fr.drewN ?_ _) | (with_reducible refine Fr.alloc ?_ _) | ((with_reducible refine Fr.setNew ?_ _ ?_ _); rotate_left; (focus (first | (with_reducible assumption) | exact Nat.le_of_lt (by with_reducible assumption) | (focus (simp +arith; done)) | exact Nat.le_trans (by with_reducible assumption) (by simp +arith; done) | (simp; done)))) | ((with_reducible refine Fr.setOld ?_ _ ?_ _); rotate_left; (focus (simp; done))))) (by simp) (by rw [hsv]; (apply heap_eq_of; (focus (repeat (first | (with_reducible assumption) | ((with_reducible refine heap_alloc_at ?_ _); first | (with_reducible rfl) | (focus (simp; done))) | (with_reducible apply heap_alloc_old) | ((with_reducible apply heap_set_other); (case hne => (first | (with_reducible assumption) | exact Nat.ne_of_lt (by with_reducible assumption) | exact Nat.ne_of_gt (by with_reducible assumption) | (focus (simp +arith; done)) | (simp; done)))) | (with_reducible apply heap_set_eq) | (with_reducible apply heap_drew_of) | (with_reducible apply heap_drewN_of)))); (focus (first | (simp; done) | rfl))))))); (try simp only [Act.put, List.setIfInBounds_toArray, List.set_cons_zero, List.set_cons_succ, Nat.reduceAdd, Nat.zero_add])
  refine SeqV.nil ?_
  intro Vv bv w5 hb5 hSv
  have O5 := hSv.last (p := 16) rfl rfl (hb5 16 (by decide))
  have R5 := (hSv.t1 (hb5 19 (by decide)) 16 rfl).2
  have F5 := hSv.fr.after (Fr.refl [r] w) (Nat.le_refl _) (by simp)
  clear hSv hb5
  go_end0
  exact ⟨rfl, ⟨hrM, fun m hm => Nat.lt_of_lt_of_le (HM.out m hm) F5.size, _, R5, by rw [e.out]; exact O5.sl HM.out⟩, F5⟩
end
end Go.Proofs.Ytoapobhdpgcmbaa
