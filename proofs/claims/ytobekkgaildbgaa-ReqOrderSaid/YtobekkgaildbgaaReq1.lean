/- Package req: a request in memory, the answers that are kept; fresh, size, New, answer. -/
import Derived.Test.YtobekkgaildbgaaNum
import Derived.Test.YtobekkgaildbgaaMapG
import Derived.Deep.DeepCutAuto
import Derived.Deep.CutBlock
namespace Go.Proofs.Ytobekkgaildbgaa
open Go.RowKit Go.Lib

/-- A request: its kind, its places (0 none, 1 open, 2 given, 3 lost), and what they were given. -/
structure Rq where
  kind : Int
  ps : List Int
  vs : List Int
def Rq.cs (r : Rq) : List Value := .int .i64 r.kind :: (r.ps.map (Value.int .i64) ++ r.vs.map (Value.int .u64))
structure Rq.Eight (r : Rq) : Prop where
  p : r.ps.length = 8
  v : r.vs.length = 8
/-- An answer. -/
structure Ans where
  id : Int
  cd : Int
  vs : List Int
/-- How an answer lies in memory. -/
structure AV where
  id : Int
  cd : Int
  A : Option Addr
  n : Nat
  c : Nat
abbrev AV.v (x : AV) : Value := .slice x.A x.n x.c
def eA : El AV := ⟨65, 57, 3, fun x => [.int .i64 x.id, .int .i64 x.cd, .slice x.A x.n x.c]⟩
theorem eAok : eA.Ok where
  len _ := rfl
  one x u hu := by simp [eA] at hu; rcases hu with rfl | rfl | rfl <;> rfl
  und := Try.underlying57
  pos := by decide
  info := by
    obtain ⟨ti, h1, h2, h3, h4⟩ := info_parts (P := Try.prog) (e := 65) (z := .agg #[.int .i64 0, .int .i64 0, .slice none 0 0]) (size := 3) (bytes := 40) (by kernel_rfl)
    exact ⟨ti, _, h1, h2, h3, by omega, rfl⟩
theorem eA_at {w : World} {b off i : Nat} {xs : List AV} {x : AV} (h : ∀ j u, (eA.cs xs)[j]? = some u → w.cell? ⟨b, off + j, none⟩ = some u) (hi : xs[i]? = some x) :
    w.cell? ⟨b, off + i * 3, none⟩ = some (.int .i64 x.id) ∧ w.cell? ⟨b, off + i * 3 + 1, none⟩ = some (.int .i64 x.cd) ∧ w.cell? ⟨b, off + i * 3 + 2, none⟩ = some (.slice x.A x.n x.c) := by
  have q := fun j hj u hu => h (i * 3 + j) u ((eAok.cs_get xs i j x hi hj).trans hu)
  simp only [← Nat.add_assoc] at q
  exact ⟨q 0 (by decide) _ rfl, q 1 (by decide) _ rfl, q 2 (by decide) _ rfl⟩
/-- What the answers' values are; their blocks are none of M. -/
def AnsR (w : World) (M : List Nat) : List AV → List Ans → Prop
  | [], [] => True
  | x :: xs, a :: ts => (x.id = a.id ∧ x.cd = a.cd ∧ eU.Sl M w x.v a.vs) ∧ AnsR w M xs ts
  | _, _ => False
section
variable {w w' : World} {M M' S : List Nat}
theorem AnsR.len : ∀ {xs : List AV} {ts : List Ans}, AnsR w M xs ts → xs.length = ts.length
  | [], [], _ => rfl
  | x :: xs, a :: ts, h => by simp [AnsR.len h.2]
  | [], _ :: _, h => h.elim
  | _ :: _, [], h => h.elim
theorem AnsR.get : ∀ {xs : List AV} {ts : List Ans} {i : Nat} {x : AV} {a : Ans}, AnsR w M xs ts → xs[i]? = some x → ts[i]? = some a → x.id = a.id ∧ x.cd = a.cd ∧ eU.Sl M w x.v a.vs
  | [], [], _, _, _, _, h, _ => by simp at h
  | x :: xs, a :: ts, 0, _, _, h, h1, h2 => by simp at h1 h2; subst h1 h2; exact h.1
  | x :: xs, a :: ts, i + 1, _, _, h, h1, h2 => AnsR.get h.2 (by simpa using h1) (by simpa using h2)
  | [], _ :: _, _, _, _, h, _, _ => h.elim
  | _ :: _, [], _, _, _, h, _, _ => h.elim
theorem AnsR.imp (f : ∀ v l, eU.Sl M w v l → eU.Sl M' w' v l) : ∀ {xs : List AV} {ts : List Ans}, AnsR w M xs ts → AnsR w' M' xs ts
  | [], [], _ => trivial
  | x :: xs, a :: ts, h => ⟨⟨h.1.1, h.1.2.1, f _ _ h.1.2.2⟩, AnsR.imp f h.2⟩
  | [], _ :: _, h => h.elim
  | _ :: _, [], h => h.elim
theorem AnsR.app : ∀ {xs : List AV} {ts : List Ans} {ys : List AV} {bs : List Ans}, AnsR w M xs ts → AnsR w M ys bs → AnsR w M (xs ++ ys) (ts ++ bs)
  | [], [], _, _, _, h => h
  | x :: xs, a :: ts, _, _, h, h2 => ⟨h.1, AnsR.app h.2 h2⟩
  | [], _ :: _, _, _, h, _ => h.elim
  | _ :: _, [], _, _, h, _ => h.elim
theorem AnsR.fr {xs : List AV} {ts : List Ans} (h : AnsR w M xs ts) (f : Fr S w w') (hS : ∀ x ∈ S, x ∈ M ∨ w.heap.size ≤ x) : AnsR w' M xs ts := h.imp fun _ _ q => q.fr f hS
theorem Sl_turnG {α : Type} {E : El α} {v : Value} {xs : List α} (h : E.Sl M w v xs) (f : Fr S w w') (hS : ∀ x ∈ S, x ∈ M ∨ w.heap.size ≤ x) (hM : ∀ x ∈ M', x ∈ M ∨ w.heap.size ≤ x) : E.Sl M' w' v xs := by
  obtain ⟨A, cap, rfl, hc, h0 | ⟨b, off, rfl, hb, hMb, hcl⟩⟩ := h
  · exact ⟨A, cap, rfl, hc, Or.inl h0⟩
  · refine ⟨_, cap, rfl, hc, Or.inr ⟨b, off, rfl, Nat.lt_of_lt_of_le hb f.size, fun hx => (hM b hx).elim hMb (fun q => by omega), fun j u hj => ?_⟩⟩
    have hbS : b ∉ S := fun hx => (hS b hx).elim hMb (fun h => by omega)
    rw [← hcl j u hj]; simp only [World.cell?, f.block b hb hbS]
theorem AnsR.turn {xs : List AV} {ts : List Ans} (h : AnsR w M xs ts) (f : Fr S w w') (hS : ∀ x ∈ S, x ∈ M ∨ w.heap.size ≤ x) (hM : ∀ x ∈ M', x ∈ M ∨ w.heap.size ≤ x) : AnsR w' M' xs ts := h.imp fun _ _ q => Sl_turnG q f hS hM
end
/-- A request's places, and its values, as rows of its block. -/
theorem rq_ps {w : World} {b : Nat} {r : Rq} {cs : Array Value} {T : TypeId} {z : Nat × Nat} {M : List Nat} (h : w.heap[b]? = some (.cells cs T z)) (hc : cs.toList = r.cs) (h8 : r.Eight) (hM : b ∉ M) : eNi.Sl M w (.slice (some ⟨b, 1, none⟩) 8 8) r.ps := by
  refine ⟨_, 8, by rw [h8.p], by rw [h8.p]; exact Nat.le_refl _, Or.inr ⟨b, 1, rfl, lt_of_heap h, hM, fun j u hj => ?_⟩⟩
  rw [blk_cell h, ← Array.getElem?_toList, hc, Nat.add_comm]
  rw [eNi_cs] at hj
  have hl := (List.getElem?_eq_some_iff.1 hj).1
  unfold Rq.cs
  rw [List.getElem?_cons_succ, List.getElem?_append_left hl]; exact hj
theorem rq_vs {w : World} {b n : Nat} {r : Rq} {cs : Array Value} {T : TypeId} {z : Nat × Nat} {M : List Nat} (h : w.heap[b]? = some (.cells cs T z)) (hc : cs.toList = r.cs) (h8 : r.Eight) (hn : n ≤ 8) (hM : b ∉ M) : eU.Sl M w (.slice (some ⟨b, 9, none⟩) n 8) (r.vs.take n) := by
  have hl8 := h8.v
  refine ⟨_, 8, by rw [List.length_take, hl8, Nat.min_eq_left hn], by rw [List.length_take]; omega, Or.inr ⟨b, 9, rfl, lt_of_heap h, hM, fun j u hj => ?_⟩⟩
  rw [blk_cell h, ← Array.getElem?_toList, hc]
  rw [eU_cs] at hj
  have hj' : (r.vs.map (Value.int .u64))[j]? = some u := by
    rw [List.map_take, List.getElem?_take] at hj
    split at hj
    · exact hj
    · cases hj
  unfold Rq.cs
  rw [show 9 + j = 8 + j + 1 by omega, List.getElem?_cons_succ, List.getElem?_append_right (by rw [List.length_map, h8.p]; omega), List.length_map, h8.p, show 8 + j - 8 = j by omega]
  exact hj'
theorem eight (l : List Int) (h : l.length = 8) : ∃ a0 a1 a2 a3 a4 a5 a6 a7, l = [a0, a1, a2, a3, a4, a5, a6, a7] := by
  match l, h with
  | [a0, a1, a2, a3, a4, a5, a6, a7], _ => exact ⟨a0, a1, a2, a3, a4, a5, a6, a7, rfl⟩
theorem Rq.Eight.lit {r : Rq} (h : r.Eight) : ∃ k p0 p1 p2 p3 p4 p5 p6 p7 v0 v1 v2 v3 v4 v5 v6 v7, r = ⟨k, [p0, p1, p2, p3, p4, p5, p6, p7], [v0, v1, v2, v3, v4, v5, v6, v7]⟩ := by
  obtain ⟨k, ps, vs⟩ := r
  obtain ⟨p0, p1, p2, p3, p4, p5, p6, p7, rfl⟩ := eight ps h.p
  obtain ⟨v0, v1, v2, v3, v4, v5, v6, v7, rfl⟩ := eight vs h.v
  exact ⟨k, p0, p1, p2, p3, p4, p5, p6, p7, v0, v1, v2, v3, v4, v5, v6, v7, rfl⟩
/-- The places of a request that was just opened. -/
def freshP (n : Nat) : List Int := List.replicate n 1 ++ List.replicate (8 - n) 0
theorem freshP_len {n : Nat} (h : n ≤ 8) : (freshP n).length = 8 := by simp [freshP]; omega
/-- How many places there are. -/
def sizeP (ps : List Int) : Nat := ps.findIdx (fun x => decide (x = 0))
theorem sizeP_idx {ps : List Int} (h : ps.length = 8) : (sizeP ps : Int) = if idxI 0 ps < 0 then 8 else idxI 0 ps := by
  unfold sizeP idxI
  cases hf : ps.findIdx? (fun x => decide (x = 0)) with
  | none =>
    simp only
    rw [if_pos (by omega), List.findIdx_eq_length_of_false (by
      rw [List.findIdx?_eq_none_iff] at hf; exact hf), h]; rfl
  | some i =>
    simp only
    rw [if_neg (by omega)]
    rw [List.findIdx?_eq_some_iff_findIdx_eq] at hf
    rw [hf.2]
theorem sizeP_le {ps : List Int} (h : ps.length = 8) : sizeP ps ≤ 8 := by rw [← h]; exact List.findIdx_le_length
set_option maxHeartbeats 2000000 in
theorem qfresh (n : Nat) (hn : n ≤ 8) (w : World) : Calls Try.prog 61 #[.int .i64 n] w fun e w' => e = .returned (.agg ((freshP n).map (Value.int .i64)).toArray) ∧ Fr [] w w' := by
  have hn' : (n : Int) ≤ 8 := by omega
  go_enter Try.func61, Try.ntmps61
  go_wp2_with fail
  go_loopw [5] (fun v wr => ∃ i : Nat, v = .int .i64 i ∧ i ≤ n ∧ wr.heap[w.heap.size]? = some (.cells ((freshP i).map (Value.int .i64)).toArray 93) ∧ Fr [] w wr) (fun v _ => n - (intOf v).toNat)
  case atStart => exact ⟨0, rfl, by omega, by (apply heap_eq_of; (focus (repeat (first | (with_reducible assumption) | ((with_reducible refine heap_alloc_at ?_ _); first | (with_reducible rfl) | (focus (simp; done))) | (with_reducible apply heap_alloc_old) | ((with_reducible apply heap_set_other); (case hne => (first | (with_reducible assumption) | exact Nat.ne_of_lt (by with_reducible assumption) | exact Nat.ne_of_gt (by with_reducible assumption) | (focus (simp +arith; done)) | (simp; done)))) | (with_reducible apply heap_set_eq) | (with_reducible apply heap_drew_of) | (with_reducible apply heap_drewN_of)))); (focus (first | (simp; done) | rfl))), (by repeat' (first | (with_reducible exact Fr.refl _ _) | (with_reducible assumption) | (with_reducible refine Fr.drew ?_) | (with_reducible refine Fr.drewN ?_ _) | (with_reducible refine Fr.alloc ?_ _) | ((with_reducible refine Fr.setNew ?_ _ ?_ _); rotate_left; (focus (first | (with_reducible assumption) | exact Nat.le_of_lt (by with_reducible assumption) | (focus (simp +arith; done)) | exact Nat.le_trans (by with_reducible assumption) (by simp +arith; done) | (simp; done)))) | ((with_reducible refine Fr.setOld ?_ _ ?_ _); rotate_left; (focus (simp; done)))))⟩
  case round =>
    obtain ⟨i, rfl, i1, H, F⟩ := hrel
    have HX := H
    by_cases hlt : i < n
    · have hi8 : (i : Int) < 8 := by omega
      have hfl := freshP_len (n := i) (by omega)
      have hc : ∃ u, wr.cell? ⟨w.heap.size, i, none⟩ = some u := by
        rw [blk_cell H]; exact ⟨_, Array.getElem?_eq_getElem (by simp [hfl]; omega)⟩
      obtain ⟨u, hcu⟩ := hc
      have hfz := blk_frozen H i
      have hst : (((freshP i).map (Value.int .i64)).toArray).setIfInBounds i (.int .i64 1) = ((freshP (i + 1)).map (Value.int .i64)).toArray := by
        have : (freshP i).set i 1 = freshP (i + 1) := by
          unfold freshP
          rw [List.set_append_right _ _ (by simp), List.length_replicate, Nat.sub_self, show 8 - i = (8 - (i + 1)) + 1 by omega, List.replicate_succ, List.set_cons_zero, List.replicate_succ', List.append_assoc]
          rfl
        rw [← this]
        simp
      have HST := Lib.hid hst
      have HX := Lib.hid HX
      clear hst H hfl
      go_wp2_with fail
      go_roundw
      case rel => exact ⟨i + 1, by go_num, by omega, by rw [← HST.out]; exact heap_set_eq HX.out _ _, F.setNew _ (Nat.le_refl _) _⟩
      case measure => simp [intOf]; omega
    · obtain rfl : i = n := by omega
      clear hlt i1
      have h9 : i = 0 ∨ i = 1 ∨ i = 2 ∨ i = 3 ∨ i = 4 ∨ i = 5 ∨ i = 6 ∨ i = 7 ∨ i = 8 := by omega
      rcases h9 with rfl | rfl | rfl | rfl | rfl | rfl | rfl | rfl | rfl
      all_goals
        simp [freshP, List.replicate] at H
        simp only [freshP, List.replicate, List.map, List.append, List.nil_append, List.cons_append, Nat.sub_zero]
        apply blk_use H; intro hg1 hc1 hz1 _ _ _ _ _
        go_wp2_with fail
        refine bodyPost_ret (v := .agg _) (by simp [results, Try.results61, go_sem, *]; rfl) rfl ⟨rfl, (by repeat' (first | (with_reducible exact Fr.refl _ _) | (with_reducible assumption) | (with_reducible refine Fr.drew ?_) | (with_reducible refine Fr.drewN ?_ _) | (with_reducible refine Fr.alloc ?_ _) | ((with_reducible refine Fr.setNew ?_ _ ?_ _); rotate_left; (focus (first | (with_reducible assumption) | exact Nat.le_of_lt (by with_reducible assumption) | (focus (simp +arith; done)) | exact Nat.le_trans (by with_reducible assumption) (by simp +arith; done) | (simp; done)))) | ((with_reducible refine Fr.setOld ?_ _ ?_ _); rotate_left; (focus (simp; done)))))⟩
set_option maxHeartbeats 2000000 in
theorem qsize (r : Rq) (h8 : r.Eight) (w : World) : Calls Try.prog 62 #[.agg r.cs.toArray] w fun e w' => e = .returned (.int .i64 (sizeP r.ps)) ∧ Fr [] w w' := by
  have hs := sizeP_idx h8.p
  have hl := sizeP_le h8.p
  have hix : -1 ≤ idxI 0 r.ps := by unfold idxI; split <;> omega
  have HS : Hid (∀ w1 b, w1.heap[b]? = some (.cells r.cs.toArray 95) → Calls Try.prog 72 #[.slice (some ⟨b, 1, none⟩) 8 8, .int .i64 0] w1 fun e w' => e = .returned (.int .i64 (idxI 0 r.ps)) ∧ Fr [] w1 w') :=
    fun w1 b hw => sindexI _ r.ps 0 (by rw [h8.p]; omega) [] w1 (rq_ps hw rfl h8 (by simp))
  have HI := Lib.hid hs
  generalize hn : sizeP r.ps = n at *
  generalize idxI 0 r.ps = x at *
  clear hs hn
  obtain ⟨k, p0, p1, p2, p3, p4, p5, p6, p7, v0, v1, v2, v3, v4, v5, v6, v7, rfl⟩ := h8.lit
  simp only [Rq.cs, List.map, List.cons_append, List.nil_append] at HS ⊢
  go_enter Try.func62, Try.ntmps62
  go_wp2_with fail
  with_reducible refine (HS.out _ _ (by (apply heap_eq_of; (focus (repeat (first | (with_reducible assumption) | ((with_reducible refine heap_alloc_at ?_ _); first | (with_reducible rfl) | (focus (simp; done))) | (with_reducible apply heap_alloc_old) | ((with_reducible apply heap_set_other); (case hne => (first | (with_reducible assumption) | exact Nat.ne_of_lt (by with_reducible assumption) | exact Nat.ne_of_gt (by with_reducible assumption) | (focus (simp +arith; done)) | (simp; done)))) | (with_reducible apply heap_set_eq) | (with_reducible apply heap_drew_of) | (with_reducible apply heap_drewN_of)))); (focus (first | (simp; done) | rfl))))).mono ?_
  rintro e w1 ⟨rfl, f1⟩
  have F1 : Fr [] w w1 := Fr.trans (by repeat' (first | (with_reducible exact Fr.refl _ _) | (with_reducible assumption) | (with_reducible refine Fr.drew ?_) | (with_reducible refine Fr.drewN ?_ _) | (with_reducible refine Fr.alloc ?_ _) | ((with_reducible refine Fr.setNew ?_ _ ?_ _); rotate_left; (focus (first | (with_reducible assumption) | exact Nat.le_of_lt (by with_reducible assumption) | (focus (simp +arith; done)) | exact Nat.le_trans (by with_reducible assumption) (by simp +arith; done) | (simp; done)))) | ((with_reducible refine Fr.setOld ?_ _ ?_ _); rotate_left; (focus (simp; done))))) f1
  clear f1
  by_cases hx : x < 0
  · go_wp2_with fail
    go_ret
    exact ⟨ret_int (by rw [HI.out, if_pos (by omega)]), F1⟩
  · go_wp2_with fail
    go_ret
    exact ⟨ret_int (by rw [HI.out, if_neg (by omega)]), F1⟩
end Go.Proofs.Ytobekkgaildbgaa
