/- Package stream: slices.Delete on a row of streams of the call's own. -/
import Derived.Test.YtoapobhdpgcmbaaStr1
import Derived.Lib.AppendZeros
import Derived.Lib.SliceRun
import Derived.ArgAppend
namespace Go.Proofs.Ytoapobhdpgcmbaa
open Go.RowKit Go.Lib

/-- A run of cells, written from o on. -/
def putCs : Array Value → Nat → List Value → Array Value
  | cs, _, [] => cs
  | cs, o, v :: r => putCs (cs.setIfInBounds o v) (o + 1) r
theorem take_set1 (l : List Value) (o : Nat) (v : Value) (h : o < l.length) : (l.set o v).take (o + 1) = l.take o ++ [v] := by
  rw [List.take_succ_eq_append_getElem (by simpa using h)]
  congr 1
  · rw [List.take_set_of_le (Nat.le_refl _)]
  · simp
theorem putCs_list : ∀ (vs : List Value) (cs : Array Value) (o : Nat), o + vs.length ≤ cs.size → (putCs cs o vs).toList = cs.toList.take o ++ vs ++ cs.toList.drop (o + vs.length)
  | [], cs, o, _ => by simp [putCs]
  | v :: r, cs, o, h => by
    simp only [List.length_cons] at h
    rw [putCs, putCs_list r _ _ (by simp; omega)]
    have ho : o < cs.toList.length := by simp; omega
    simp only [Array.toList_setIfInBounds, List.length_cons]
    rw [take_set1 _ _ _ ho, List.drop_set_of_lt (by omega), List.append_assoc, List.append_assoc, List.append_assoc]
    rw [show o + 1 + r.length = o + (r.length + 1) by omega]
    rfl
theorem putCs_size : ∀ (vs : List Value) (cs : Array Value) (o : Nat), (putCs cs o vs).size = cs.size
  | [], _, _ => rfl
  | v :: r, cs, o => by rw [putCs, putCs_size r]; simp
theorem heap_setCells : ∀ (vs : List Value) {w : World} {b : Nat} {cs : Array Value} {T : TypeId} {z : Nat × Nat} (o : Nat), w.heap[b]? = some (.cells cs T z) → (w.setCells b o vs).heap[b]? = some (.cells (putCs cs o vs) T z)
  | [], _, _, _, _, _, _, h => h
  | v :: r, _, _, _, _, _, o, h => heap_setCells r (o + 1) (heap_set_eq h o v)
theorem fr_setCells : ∀ (vs : List Value) (w : World) (b o : Nat), Fr [b] w (w.setCells b o vs)
  | [], w, b, _ => Fr.refl _ _
  | v :: r, w, b, o => ((Fr.refl [b] w).setOld o (by simp) v).trans (fr_setCells r _ b (o + 1))

theorem zero_six (w : World) : (zeroValue 59).run Try.prog w = .ok (.agg #[.int .i64 0, .int .i64 0, .int .i64 0, .int .i64 0, .int .i64 0, .int .i64 0]) w := Try.zeroValue59 w
def zeros6 : List Value := [.int .i64 0, .int .i64 0, .int .i64 0, .int .i64 0, .int .i64 0, .int .i64 0]
/-- clear of a slice of one stream. -/
theorem run_clear6 (w : World) (ty : TypeId) (b o c : Nat) (hc : ∀ j, j < 6 → (w.cell? ⟨b, o + j, none⟩).isSome = true) (hf : ∀ j, j < 6 → w.frozen? ⟨b, o + j, none⟩ = false) :
    (Builtin.clear_ #[44] ty #[.slice (some ⟨b, o, none⟩) 1 c]).run Try.prog w = .ok (.tuple #[]) (w.setCells b o zeros6) := by
  have hst := run_storeCells_cells (P := Try.prog) b o zeros6 0 w (by simpa [zeros6] using hc) (by simpa [zeros6] using hf) (by intro v hv; simp [zeros6] at hv; subst hv; rfl)
  simp only [Nat.add_zero] at hst
  have hzc : (Builtin.zeroCells (Value.cells (.agg #[.int .i64 0, .int .i64 0, .int .i64 0, .int .i64 0, .int .i64 0, .int .i64 0])) 1).toList = zeros6 := by kernel_rfl
  simp [Builtin.clear_, run_underlying Try.underlying44, zero_six, hzc, hst]

set_option maxRecDepth 100000 in
set_option maxHeartbeats 4000000 in
theorem sdel (base : Nat) (v : Value) (xs : List Str) (i : Nat) (hi : i < xs.length) (hl : xs.length ≤ 1000) (w : World) (H : eS.Own w base v xs) :
    Calls Try.prog 74 #[v, .int .i64 i, .int .i64 ((i : Int) + 1)] w fun e w' => (∃ v', e = .returned v' ∧ eS.Own w' base v' (xs.eraseIdx i) ∧ v'.ownBlock = v.ownBlock) ∧ Fr v.ownBlock.toList w w' := by
  have fol : Try.prog.follows .mixedOrders = true := by kernel_rfl
  obtain ⟨h1, ⟨rfl, hn⟩ | ⟨g, cap, cur, rfl, hg, hb, hc, hm, hz, ht⟩⟩ := H
  · exfalso; omega
  have hrow : w.heap[g]? = some (.cells cur 59 (0, 0)) := hb
  have hz6 : cur.size = cap * 6 := hz
  have hcs : (eS.cs xs).length = xs.length * 6 := eSok.cs_len xs
  have ht6 : cur.toList.take (xs.length * 6) = eS.cs xs := ht
  obtain ⟨ti, _, hinfo, _, hsize, _⟩ := eSok.info
  have hnews : (eS.cs (xs.drop (i + 1))).length = (xs.length - (i + 1)) * 6 := by rw [eSok.cs_len, List.length_drop]; rfl
  have hsrc : ∀ t u, (eS.cs (xs.drop (i + 1)))[t]? = some u → cur.toList[(i + 1) * 6 + t]? = some u := by
    intro t u hu
    rw [eSok.cs_drop xs (i + 1) (by omega), List.getElem?_drop] at hu
    have hlt := (List.getElem?_eq_some_iff.1 hu).1
    have h9 : (cur.toList.take (xs.length * 6))[(i + 1) * 6 + t]? = some u := by rw [ht6]; exact hu
    rw [List.getElem?_take, if_pos (by rw [hcs] at hlt; exact hlt)] at h9
    exact h9
  obtain ⟨m, hnl⟩ : ∃ m, xs.length = m + 1 := ⟨xs.length - 1, by omega⟩
  have hcap9 : xs.length ≤ cap := hc
  rw [hnl] at hi hl hcs ht6 hnews hcap9 ⊢
  rw [show m + 1 - (i + 1) = m - i by omega] at hnews
  have HZ := Lib.hid hz6
  have HT := Lib.hid ht6
  have HRow := Lib.hid hrow
  have HG := Lib.hid hg
  have HM := Lib.hid hm
  have hin : (i : Int) < (m : Int) + 1 := by omega
  have hn' : (m : Int) + 1 ≤ 1000 := by omega
  have hcap : (m : Int) + 1 ≤ cap := by omega
  clear hb hz ht hz6 ht6 h1 hcs hc hm hg
  go_enter Try.func74, Try.ntmps74
  go_wp2_with fail
  obtain ⟨A, hA, hsA⟩ : ∃ A : Addr, (if cap = i + 1 then (some ⟨g, 0, none⟩ : Option Addr) else some ⟨g, (i + 1) * 6, none⟩) = some A ∧ ∀ wv, Fr [] w wv → ∀ j u, (eS.cs (xs.drop (i + 1)))[j]? = some u → wv.cell? (A.add j) = some u := by
    by_cases hcj : cap = i + 1
    · refine ⟨⟨g, 0, none⟩, by simp [hcj], fun wv f j u hu => ?_⟩
      have h0 : (eS.cs (xs.drop (i + 1))).length = 0 := by rw [hnews]; omega
      rw [List.length_eq_zero_iff.1 h0] at hu
      simp at hu
    · refine ⟨⟨g, (i + 1) * 6, none⟩, by simp [hcj], fun wv f j u hu => ?_⟩
      rw [Addr.add_lit, blk_cell (f.heap HRow.out (by simp)), ← Array.getElem?_toList]
      exact hsrc j u hu
  have hrun : ∀ wv, Fr [] w wv → ∀ ty, (Builtin.append_ #[44, 44] ty #[.slice (some ⟨g, 0, none⟩) i cap, .slice (some A) (m - i) (cap - (i + 1))]).run Try.prog wv = .ok (.slice (some ⟨g, 0, none⟩) m cap) (wv.setCells g (i * 6) (eS.cs (xs.drop (i + 1)))) := by
    intro wv f ty
    have hr := f.heap HRow.out (by simp)
    have hs : ti.size = 6 := hsize
    have hzz := HZ.out
    have h9 := run_append_room_cells (P := Try.prog) (w := wv) 44 ty 59 ti Try.underlying44 hinfo g 0 i cap A (m - i) (cap - (i + 1)) (eS.cs (xs.drop (i + 1)))
      (by rw [hnews, hs]) (hsA wv f) (eSok.cs_one _) (by omega)
      (fun j hj => by rw [hs, blk_cell hr]; rw [hnews] at hj; rw [Array.getElem?_eq_getElem (by omega)]; rfl) (fun j hj => blk_frozen hr _)
    rw [hs, Nat.zero_add, show i + (m - i) = m by omega] at h9
    exact h9
  have HRUN := Lib.hid hrun
  have hsz2 : (putCs cur (i * 6) (eS.cs (xs.drop (i + 1)))).size = cap * 6 := by
    have := congrArg List.length (putCs_list (eS.cs (xs.drop (i + 1))) cur (i * 6) (by rw [hnews, HZ.out]; omega))
    simp only [Array.length_toList, List.length_append, List.length_take, List.length_drop, hnews, HZ.out] at this
    omega
  have hfin : ((putCs (putCs cur (i * 6) (eS.cs (xs.drop (i + 1)))) (m * 6) zeros6).toList.take (m * 6)) = eS.cs (xs.eraseIdx i) := by
    rw [putCs_list _ _ _ (by rw [hsz2]; simp [zeros6]; omega), putCs_list _ _ _ (by rw [hnews, HZ.out]; omega)]
    have e1 : cur.toList.take (i * 6) = eS.cs (xs.take i) := by
      rw [eSok.cs_take xs i (by omega), ← HT.out, List.take_take]
      congr 1
      show _ = min (i * 6) ((m + 1) * 6)
      omega
    have e2 : (eS.cs (xs.take i)).length = i * 6 := by rw [eSok.cs_len, List.length_take, hnl, Nat.min_eq_left (by omega)]; rfl
    rw [e1, List.take_append_of_le_length, List.take_append_of_le_length]
    · rw [List.take_take, Nat.min_self, List.take_append_of_le_length (by simp only [List.length_append, e2, hnews]; omega), List.take_of_length_le (by simp only [List.length_append, e2, hnews]; omega), ← El.cs_app, List.eraseIdx_eq_take_drop_succ]
    · simp only [List.length_take, List.length_append, e2, hnews, List.length_drop, Array.length_toList, HZ.out]; omega
    · simp only [List.length_take, List.length_append, e2, hnews, List.length_drop, Array.length_toList, HZ.out, zeros6, List.length_cons, List.length_nil]; omega
  have HSZ := Lib.hid hsz2
  have HFIN := Lib.hid hfin
  clear hrun hnews hsrc hsz2 hfin hsA
  refine wp_region_seqV_lit (FinS 6 (Fr [] w) (Since fun w' => w'.heap[g]? = some (.cells (putCs cur (i * 6) (eS.cs (xs.drop (i + 1)))) 59) ∧ Fr [g] w w')) fol (by kernel_rfl) (FinS.start (Fr.refl _ _).drew) ?_
  (repeat (apply SeqV.cons; (focus (intro Vv bv wv hbv hdv hsh hSv; have bst := shut_no hsh hbv 6 (by kernel_rfl); have s0 := FinS.pre hSv bst; clear hsh hdv; skip; go_wp2_with fail; exact StepPost.mk rfl (FinS.plain (by decide) bst (Fr.trans s0 (by repeat' (first | (with_reducible exact Fr.refl _ _) | (with_reducible assumption) | (with_reducible refine Fr.drew ?_) | (with_reducible refine Fr.drewN ?_ _) | (with_reducible refine Fr.alloc ?_ _) | ((with_reducible refine Fr.setNew ?_ _ ?_ _); rotate_left; (focus (first | (with_reducible assumption) | exact Nat.le_of_lt (by with_reducible assumption) | (focus (simp +arith; done)) | exact Nat.le_trans (by with_reducible assumption) (by simp +arith; done) | (simp; done)))) | ((with_reducible refine Fr.setOld ?_ _ ?_ _); rotate_left; (focus (simp; done))))))))); (try simp only [Act.put, List.setIfInBounds_toArray, List.set_cons_zero, List.set_cons_succ, Nat.reduceAdd, Nat.zero_add])))
  apply SeqV.cons (v := .slice (some ⟨g, 0, none⟩) m cap); (focus (intro Vv bv wv hbv hdv hsh hSv; have s0 := FinS.pre hSv hbv; clear hsh hdv; go_wp2_with (at_builtin; refine wpList_append_run _ rfl (.tmp 22) (.tmp 25) 44 44 rfl _ _ rfl rfl _ _ (HRUN.out _ s0 _) ?_); exact StepPost.mk rfl (FinS.fin (Since.mk ⟨heap_setCells _ _ (s0.heap HRow.out (by simp)), (s0.mono (by simp)).trans (fr_setCells _ _ _ _)⟩)))); (try simp only [Act.put, List.setIfInBounds_toArray, List.set_cons_zero, List.set_cons_succ, Nat.reduceAdd, Nat.zero_add])
  (repeat (apply SeqV.cons; (focus (intro Vv bv wv hbv hdv hsh hSv; have bst := deps_done hsh hdv 6 (by kernel_rfl); have s0 := FinS.end_ hSv bst; clear hsh hdv; go_wp2_with fail; exact StepPost.mk rfl (FinS.plain2 (by decide) bst (Since.fr s0 (by repeat' (first | (with_reducible exact Fr.refl _ _) | (with_reducible assumption) | (with_reducible refine Fr.drew ?_) | (with_reducible refine Fr.drewN ?_ _) | (with_reducible refine Fr.alloc ?_ _) | ((with_reducible refine Fr.setNew ?_ _ ?_ _); rotate_left; (focus (first | (with_reducible assumption) | exact Nat.le_of_lt (by with_reducible assumption) | (focus (simp +arith; done)) | exact Nat.le_trans (by with_reducible assumption) (by simp +arith; done) | (simp; done)))) | ((with_reducible refine Fr.setOld ?_ _ ?_ _); rotate_left; (focus (simp; done))))))))); (try simp only [Act.put, List.setIfInBounds_toArray, List.set_cons_zero, List.set_cons_succ, Nat.reduceAdd, Nat.zero_add])))
  refine SeqV.nil ?_
  intro Vv bv w5 hb5 hSv
  obtain ⟨w6, ⟨q6, f6⟩, g6⟩ := FinS.end_ hSv (hb5 6 (by decide))
  have q5 := g6.heap q6 (by simp)
  have f5 : Fr [g] w w5 := f6.trans (g6.mono (by simp))
  clear hb5 hSv q6 f6 g6 w6
  have hcl : ∀ ty, (Builtin.clear_ #[44] ty #[.slice (some ⟨g, m * 6, none⟩) 1 (cap - m)]).run Try.prog w5 = .ok (.tuple #[]) (w5.setCells g (m * 6) zeros6) := fun ty => run_clear6 w5 ty g (m * 6) (cap - m)
    (fun j hj => by rw [blk_cell q5, Array.getElem?_eq_getElem (by rw [HSZ.out]; omega)]; rfl) (fun j hj => blk_frozen q5 _)
  have Q7 : Hid ((w5.setCells g (m * 6) zeros6).heap[g]? = some (.cells (putCs (putCs cur (i * 6) (eS.cs (xs.drop (i + 1)))) (m * 6) zeros6) 59)) := heap_setCells _ _ q5
  have F7 : Hid (Fr [g] w (w5.setCells g (m * 6) zeros6)) := f5.trans (fr_setCells _ _ _ _)
  obtain ⟨w7, hw7⟩ : ∃ w7, w7 = w5.setCells g (m * 6) zeros6 := ⟨_, rfl⟩
  rw [← hw7] at Q7 F7 hcl
  clear hw7
  go_wp2_with fail
  go_ret
  have hel : (xs.eraseIdx i).length = m := by rw [List.length_eraseIdx_of_lt (by omega)]; omega
  refine ⟨⟨_, rfl, ⟨eSok.cs_len _, Or.inr ⟨g, cap, _, by rw [hel]; rfl, HG.out, Q7.out, by rw [hel]; omega, HM.out, ?_, ?_⟩⟩, rfl⟩, F7.out⟩
  · rw [putCs_size]; exact HSZ.out
  · rw [hel]; exact HFIN.out
end Go.Proofs.Ytoapobhdpgcmbaa
