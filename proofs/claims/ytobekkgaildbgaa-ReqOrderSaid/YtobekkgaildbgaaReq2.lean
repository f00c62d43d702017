/- Package req: a table in memory; New, answer, settle. -/
import Derived.Test.YtobekkgaildbgaaReq1
import Derived.Test.YtobekkgaildbgaaApG
namespace Go.Proofs.Ytobekkgaildbgaa
open Go.RowKit Go.Lib Go.Maps

def Rq.z : Rq := ⟨0, List.replicate 8 0, List.replicate 8 0⟩
theorem Rq.z8 : Rq.z.Eight := ⟨rfl, rfl⟩
def mR : MK Int Rq := { M := 82, K := 3, V := 95, kv := .int .i64, kl := .int .i64, ev := fun r => .agg r.cs.toArray, z := Rq.z, kok := fun k => (Lit.int .i64 k).wf = true }
theorem mRok : mR.Ok where
  keyed := int_keyed Try.underlying3
  und := Try.underlying82
  key x h := keyOf_int_mk Try.underlying3 h
  inj x y _ _ h := by injection h
  zero w := Try.zeroValue95 w
/-- What is pending, and the answers that are kept. -/
structure RS where
  E : List (Int × Rq)
  K : List Ans
structure ReqI (w : World) (B : Nat) (M : List Nat) (t b base : Nat) (room : Int) (v : Value) (xs : List AV) (S : RS) : Prop where
  ht : w.heap[t]? = some (.cells #[.int .i64 room, .map (some b), v] 84)
  mp : MapG mR w b S.E
  e8 : ∀ p ∈ S.E, p.2.Eight
  ow : eA.Own w base v xs
  av : AnsR w (t :: b :: (v.ownBlock.toList ++ M)) xs S.K
  lt : t < base ∧ b < base ∧ base ≤ w.heap.size
  ne : t ≠ b
  bb : B ≤ t ∧ B ≤ b
  mt : t ∉ M ∧ b ∉ M ∧ ∀ x ∈ v.ownBlock.toList, x ∉ M
  ms : ∀ x ∈ M, x < w.heap.size
/-- A TABLE AT t: its blocks lie behind B, and are none of M; nor are those of the values that it keeps. -/
def ReqM (w : World) (B : Nat) (M : List Nat) (t : Nat) (room : Int) (S : RS) : Prop := ∃ b base v xs, ReqI w B M t b base room v xs S
section
variable {w w' : World} {B t b base : Nat} {M M' N : List Nat} {room : Int} {v : Value} {xs : List AV} {S : RS}
theorem ReqI.own (h : ReqI w B M t b base room v xs S) : ∀ x ∈ v.ownBlock.toList, base ≤ x ∧ x < w.heap.size ∧ x ≠ t ∧ x ≠ b := by
  intro x hx
  have h1 := h.ow.ge x hx
  have h2 := h.ow.lt x hx
  have h3 := h.lt
  exact ⟨h1, h2, by omega, by omega⟩
theorem ReqI.turn (h : ReqI w B M t b base room v xs S) (f : Fr N w w') (hN : ∀ x ∈ N, x ∈ M ∨ w.heap.size ≤ x) (hM : ∀ x ∈ M', x ∈ M ∨ (w.heap.size ≤ x ∧ x < w'.heap.size)) : ReqI w' B M' t b base room v xs S := by
  have hl := h.lt
  have hmt := h.mt
  have hs := f.size
  have ho := h.own
  have hn : ∀ x, x ∉ M → x < w.heap.size → x ∉ N := fun x h1 h2 h3 => (hN x h3).elim h1 (fun q => by omega)
  have hn' : ∀ x, x ∉ M → x < w.heap.size → x ∉ M' := fun x h1 h2 h3 => (hM x h3).elim h1 (fun q => by omega)
  refine ⟨f.heap h.ht (hn t hmt.1 (by omega)), h.mp.fr f (hn b hmt.2.1 (by omega)), h.e8, ?_, ?_, by omega, h.ne, h.bb, ⟨hn' t hmt.1 (by omega), hn' b hmt.2.1 (by omega), fun x hx => hn' x (hmt.2.2 x hx) (ho x hx).2.1⟩, fun x hx => (hM x hx).elim (fun q => by have := h.ms x q; omega) (fun q => q.2)⟩
  · have f2 : Fr (N.filter (fun x => decide (x < w.heap.size))) w w' := f.mono (fun x hx => by
      by_cases q : x < w.heap.size
      · exact Or.inl (List.mem_filter.2 ⟨hx, by simpa using q⟩)
      · exact Or.inr (by omega))
    have hne : ∀ x ∈ v.ownBlock.toList, x ∉ N := fun x hx => hn x (hmt.2.2 x hx) (ho x hx).2.1
    refine ⟨h.ow.1, ?_⟩
    rcases h.ow.2 with q | ⟨g, cap, cur, rfl, q2, q3, q4⟩
    · exact Or.inl q
    · exact Or.inr ⟨g, cap, cur, rfl, q2, f.heap q3 (hne g (by simp [Value.ownBlock])), q4⟩
  · refine h.av.turn f (fun x hx => (hN x hx).imp (fun q => by simp [q]) id) (fun x hx => ?_)
    simp only [List.mem_cons, List.mem_append] at hx ⊢
    rcases hx with q | q | q | q
    · exact Or.inl (Or.inl q)
    · exact Or.inl (Or.inr (Or.inl q))
    · exact Or.inl (Or.inr (Or.inr (Or.inl q)))
    · exact (hM x q).imp (fun z => Or.inr (Or.inr (Or.inr z))) (fun z => z.1)
theorem ReqM.turn (h : ReqM w B M t room S) (f : Fr N w w') (hN : ∀ x ∈ N, x ∈ M ∨ w.heap.size ≤ x) (hM : ∀ x ∈ M', x ∈ M ∨ (w.heap.size ≤ x ∧ x < w'.heap.size)) : ReqM w' B M' t room S := by
  obtain ⟨b, base, v, xs, h⟩ := h
  exact ⟨b, base, v, xs, h.turn f hN hM⟩
theorem ReqM.fr0 (h : ReqM w B M t room S) (f : Fr [] w w') : ReqM w' B M t room S := h.turn f (by simp) (fun x hx => Or.inl hx)
theorem cutg_cut {id : Int} {r : Rq} (E : List (Int × Rq)) : cutg id ((id, r) :: cutg id E) = cutg id E := by
  unfold cutg; simp [List.filter_filter]

set_option maxHeartbeats 2000000 in
theorem qnew (h1 : 1 ≤ room) (h2 : room ≤ 16) (w : World) :
    Calls Try.prog 31 #[.int .i64 room] w fun e w' => (∃ t, e = .returned (.tuple #[.pointer (some ⟨t, 0, none⟩), .int .i64 0]) ∧ ReqM w' w.heap.size [] t room ⟨[], []⟩) ∧ Fr [] w w' := by
  have hmm := @run_makeMap Try.prog
  go_enter Try.func31, Try.ntmps31
  go_wp2
  clear hmm
  refine bodyPost_ret (v := .tuple #[.pointer (some ⟨w.heap.size + 1, 0, none⟩), .int .i64 0]) (by simp [results, Try.results31, go_sem, *]) rfl ⟨⟨_, rfl, w.heap.size, w.heap.size + 2, .slice none 0 0, [], ?_⟩, (by repeat' (first | (with_reducible exact Fr.refl _ _) | (with_reducible assumption) | (with_reducible refine Fr.drew ?_) | (with_reducible refine Fr.drewN ?_ _) | (with_reducible refine Fr.alloc ?_ _) | ((with_reducible refine Fr.setNew ?_ _ ?_ _); rotate_left; (focus (first | (with_reducible assumption) | exact Nat.le_of_lt (by with_reducible assumption) | (focus (simp +arith; done)) | exact Nat.le_trans (by with_reducible assumption) (by simp +arith; done) | (simp; done)))) | ((with_reducible refine Fr.setOld ?_ _ ?_ _); rotate_left; (focus (simp; done)))))⟩
  exact ⟨by (apply heap_eq_of; (focus (repeat (first | (with_reducible assumption) | ((with_reducible refine heap_alloc_at ?_ _); first | (with_reducible rfl) | (focus (simp; done))) | (with_reducible apply heap_alloc_old) | ((with_reducible apply heap_set_other); (case hne => (first | (with_reducible assumption) | exact Nat.ne_of_lt (by with_reducible assumption) | exact Nat.ne_of_gt (by with_reducible assumption) | (focus (simp +arith; done)) | (simp; done)))) | (with_reducible apply heap_set_eq) | (with_reducible apply heap_drew_of) | (with_reducible apply heap_drewN_of)))); (focus (first | (simp; done) | rfl))), MapG.fr (S := []) (w := w.alloc (.map #[] 0)) (MapG.made w) (by repeat' (first | (with_reducible exact Fr.refl _ _) | (with_reducible assumption) | (with_reducible refine Fr.drew ?_) | (with_reducible refine Fr.drewN ?_ _) | (with_reducible refine Fr.alloc ?_ _) | ((with_reducible refine Fr.setNew ?_ _ ?_ _); rotate_left; (focus (first | (with_reducible assumption) | exact Nat.le_of_lt (by with_reducible assumption) | (focus (simp +arith; done)) | exact Nat.le_trans (by with_reducible assumption) (by simp +arith; done) | (simp; done)))) | ((with_reducible refine Fr.setOld ?_ _ ?_ _); rotate_left; (focus (simp; done))))) (by simp), by simp, El.Own.nil _ _ _, trivial, (by first | (simp; done) | (simp; omega)), by simp, by simp, by simp [Value.ownBlock], by simp⟩
set_option maxHeartbeats 2000000 in
theorem qnew_no (h : room < 1 ∨ 16 < room) (w : World) :
    Calls Try.prog 31 #[.int .i64 room] w fun e w' => e = .returned (.tuple #[.pointer none, .int .i64 1]) ∧ Fr [] w w' := by
  rcases h with h | h
  all_goals
    go_enter Try.func31, Try.ntmps31
    go_wp2
    refine bodyPost_ret (v := .tuple #[.pointer none, .int .i64 1]) (by simp [results, Try.results31, go_sem, *]) rfl ⟨rfl, (by repeat' (first | (with_reducible exact Fr.refl _ _) | (with_reducible assumption) | (with_reducible refine Fr.drew ?_) | (with_reducible refine Fr.drewN ?_ _) | (with_reducible refine Fr.alloc ?_ _) | ((with_reducible refine Fr.setNew ?_ _ ?_ _); rotate_left; (focus (first | (with_reducible assumption) | exact Nat.le_of_lt (by with_reducible assumption) | (focus (simp +arith; done)) | exact Nat.le_trans (by with_reducible assumption) (by simp +arith; done) | (simp; done)))) | ((with_reducible refine Fr.setOld ?_ _ ?_ _); rotate_left; (focus (simp; done)))))⟩

set_option maxRecDepth 100000 in
set_option maxHeartbeats 4000000 in
theorem qans (x : AV) (vs : List Int) (H : ReqI w B M t b base room v xs S) (hx : eU.Sl (t :: b :: (v.ownBlock.toList ++ M)) w x.v vs) (wid : (Lit.int .i64 x.id).wf = true) (hk : S.K.length ≤ 1000) :
    Calls Try.prog 66 #[.pointer (some ⟨t, 0, none⟩), .agg #[.int .i64 x.id, .int .i64 x.cd, .slice x.A x.n x.c]] w fun e w' => e = .returned (.tuple #[]) ∧ (∃ v' xs', ReqI w' B M t b base room v' xs' ⟨cutg x.id S.E, S.K ++ [⟨x.id, x.cd, vs⟩]⟩) ∧ KeepM B M w w' := by
  have fol : Try.prog.follows .mixedOrders = true := by kernel_rfl
  have HT := H.ht
  have HH := Lib.hid H
  have HSL := Lib.hid hx
  have HWI := Lib.hid wid
  have hxl : xs.length ≤ 1000 := by rw [H.av.len]; exact hk
  have hxl' : (xs.length : Int) ≤ 1000 := by omega
  have hne := H.ne
  have ho := H.own
  obtain ⟨A, c, rfl⟩ := H.ow.shape
  clear H hx wid hk
  apply blk_use HT; intro hg1 hc1 hz1 _ _ _ _ _
  go_enter Try.func66, Try.ntmps66
  go_wp2_with fail
  have f1 : Fr [] w (w.alloc (.cells #[.int .i64 x.id, .int .i64 x.cd, .slice x.A x.n x.c] 65)) := (by repeat' (first | (with_reducible exact Fr.refl _ _) | (with_reducible assumption) | (with_reducible refine Fr.drew ?_) | (with_reducible refine Fr.drewN ?_ _) | (with_reducible refine Fr.alloc ?_ _) | ((with_reducible refine Fr.setNew ?_ _ ?_ _); rotate_left; (focus (first | (with_reducible assumption) | exact Nat.le_of_lt (by with_reducible assumption) | (focus (simp +arith; done)) | exact Nat.le_trans (by with_reducible assumption) (by simp +arith; done) | (simp; done)))) | ((with_reducible refine Fr.setOld ?_ _ ?_ _); rotate_left; (focus (simp; done)))))
  have Q1 : (w.alloc (.cells #[.int .i64 x.id, .int .i64 x.cd, .slice x.A x.n x.c] 65)).heap[w.heap.size]? = some (.cells #[.int .i64 x.id, .int .i64 x.cd, .slice x.A x.n x.c] 65) := by (apply heap_eq_of; (focus (repeat (first | (with_reducible assumption) | ((with_reducible refine heap_alloc_at ?_ _); first | (with_reducible rfl) | (focus (simp; done))) | (with_reducible apply heap_alloc_old) | ((with_reducible apply heap_set_other); (case hne => (first | (with_reducible assumption) | exact Nat.ne_of_lt (by with_reducible assumption) | exact Nat.ne_of_gt (by with_reducible assumption) | (focus (simp +arith; done)) | (simp; done)))) | (with_reducible apply heap_set_eq) | (with_reducible apply heap_drew_of) | (with_reducible apply heap_drewN_of)))); (focus (first | (simp; done) | rfl)))
  have T1 := f1.heap HT (by simp)
  have P1 := Lib.hid (HH.out.mp.fr f1 (by simp))
  have O1 := Lib.hid (HH.out.ow.fr f1 (by simp))
  have F1 := Lib.hid f1
  clear f1 hg1 hc1 hz1
  generalize (w.alloc (.cells #[.int .i64 x.id, .int .i64 x.cd, .slice x.A x.n x.c] 65)) = w1 at *
  generalize hq : w.heap.size = q at *
  have HQ := Lib.hid hq
  clear hq
  refine wp_region_seqV_lit (FinS 6 (Fr [] w1) (fun w' => MapG mR w' b (cutg x.id S.E) ∧ Fr [b] w1 w')) fol (by kernel_rfl) (FinS.start (Fr.refl _ _).drew) ?_
  (iterate 6 (apply SeqV.cons; (focus (intro Vv bv wv hbv hdv hsh hSv; have bst := shut_no hsh hbv 6 (by kernel_rfl); have s0 := FinS.pre hSv bst; clear hsh hdv; (have t0 := s0.heap T1 (by simp)); apply blk_use t0; intro hg21 hc21 hz21 _ _ _ _ _; (have q0 := s0.heap Q1 (by simp)); apply blk_use q0; intro hg22 hc22 hz22 _ _ _ _ _; go_wp2_with fail; exact StepPost.mk rfl (FinS.plain (by decide) bst (Fr.trans s0 (by repeat' (first | (with_reducible exact Fr.refl _ _) | (with_reducible assumption) | (with_reducible refine Fr.drew ?_) | (with_reducible refine Fr.drewN ?_ _) | (with_reducible refine Fr.alloc ?_ _) | ((with_reducible refine Fr.setNew ?_ _ ?_ _); rotate_left; (focus (first | (with_reducible assumption) | exact Nat.le_of_lt (by with_reducible assumption) | (focus (simp +arith; done)) | exact Nat.le_trans (by with_reducible assumption) (by simp +arith; done) | (simp; done)))) | ((with_reducible refine Fr.setOld ?_ _ ?_ _); rotate_left; (focus (simp; done))))))))); (try simp only [Act.put, List.setIfInBounds_toArray, List.set_cons_zero, List.set_cons_succ, Nat.reduceAdd, Nat.zero_add])))
  apply SeqV.cons (v := undef); (focus (intro Vv bv wv hbv hdv hsh hSv; have s0 := FinS.pre hSv hbv; (go_wp2_with (at_delete; refine wpList_delg _ mRok rfl (.tmp 7) (.tmp 9) rfl b S.E rfl (P1.out.fr s0 (by simp)) x.id rfl HWI.out ?_; intro w6 m6 f6); exact StepPost.mk rfl (FinS.fin ⟨m6, (s0.mono (by simp)).trans f6⟩)))); (try simp only [Act.put, List.setIfInBounds_toArray, List.set_cons_zero, List.set_cons_succ, Nat.reduceAdd, Nat.zero_add])
  refine SeqV.nil ?_
  intro Vv bv w2 hb2 hSv
  obtain ⟨P2, F2⟩ := FinS.end_ hSv (hb2 6 (by decide))
  have P2 := Lib.hid P2
  have T2 := F2.heap T1 (by simpa using hne)
  have Q2 := F2.heap Q1 (by have := HH.out.lt; have := HQ.out; simp; omega)
  have O2 := Lib.hid (O1.out.fr F2 (by have := HH.out.lt; simp; omega))
  have F2 := Lib.hid F2
  have B2 : base ≤ w2.heap.size := Nat.le_trans (Nat.le_trans HH.out.lt.2.2 F1.out.size) F2.out.size
  have HTN : Hid (t ∉ (Value.slice A xs.length c).ownBlock.toList) := fun h => (ho t h).2.2.1 rfl
  have HVL : Hid (∀ y ∈ (Value.slice A xs.length c).ownBlock.toList, y < w2.heap.size) := fun y hy => by have := (ho y hy).2.1; have := F1.out.size; have := F2.out.size; have := HQ.out; omega
  have HTB : Hid (t < base) := HH.out.lt.1
  have HT3 : Hid (∀ q, w2.heap.size ≤ q → q ≠ t) := fun q hq => by have := lt_of_heap T2; omega
  clear hSv hb2 T1 Q1 P1 O1 ho hne
  go_wp2_with fail
  refine wp_region_seqV_lit (ApG eA base (.slice A xs.length c) x (xs ++ [x]) 6 7 10 t _ (fun u => .cells #[.int .i64 room, .map (some b), u] 84) w2) fol (by kernel_rfl) (ApG.start T2) ?_
  (iterate 5 (apply SeqV.cons; (focus (intro Vv bv wv hbv hdv hsh hSv; (have t0 := hSv.c0 (shut_no hsh hbv 10 (by kernel_rfl))); apply blk_use t0; intro hg21 hc21 hz21 _ _ _ _ _; clear hsh hdv; go_wp2_with (fail); exact StepPost.mk rfl (hSv.plain (by decide) (by repeat' (first | (with_reducible exact Fr.refl _ _) | (with_reducible assumption) | (with_reducible refine Fr.drew ?_) | (with_reducible refine Fr.drewN ?_ _) | (with_reducible refine Fr.alloc ?_ _) | ((with_reducible refine Fr.setNew ?_ _ ?_ _); rotate_left; (focus (first | (with_reducible assumption) | exact Nat.le_of_lt (by with_reducible assumption) | (focus (simp +arith; done)) | exact Nat.le_trans (by with_reducible assumption) (by simp +arith; done) | (simp; done)))) | ((with_reducible refine Fr.setOld ?_ _ ?_ _); rotate_left; (focus (simp; done)))))))); (try simp only [Act.put, List.setIfInBounds_toArray, List.set_cons_zero, List.set_cons_succ, Nat.reduceAdd, Nat.zero_add])))
  (iterate 1 (apply SeqV.cons; (focus (intro Vv bv wv hbv hdv hsh hSv; (have q0 := (hSv.a (shut_no hsh hbv 7 (by kernel_rfl))).heap Q2 (by simp)); apply blk_use q0; intro hg22 hc22 hz22 _ _ _ _ _; clear hsh hdv; go_wp2_with (fail); exact StepPost.mk rfl (hSv.plain (by decide) (by repeat' (first | (with_reducible exact Fr.refl _ _) | (with_reducible assumption) | (with_reducible refine Fr.drew ?_) | (with_reducible refine Fr.drewN ?_ _) | (with_reducible refine Fr.alloc ?_ _) | ((with_reducible refine Fr.setNew ?_ _ ?_ _); rotate_left; (focus (first | (with_reducible assumption) | exact Nat.le_of_lt (by with_reducible assumption) | (focus (simp +arith; done)) | exact Nat.le_trans (by with_reducible assumption) (by simp +arith; done) | (simp; done)))) | ((with_reducible refine Fr.setOld ?_ _ ?_ _); rotate_left; (focus (simp; done)))))))); (try simp only [Act.put, List.setIfInBounds_toArray, List.set_cons_zero, List.set_cons_succ, Nat.reduceAdd, Nat.zero_add])))
  apply SeqV.var; (focus (intro Vv bv wv hbv hdv hsh hSv; have b7 := shut_no hsh hbv 7 (by kernel_rfl); have b10 := shut_no hsh hbv 10 (by kernel_rfl); clear hsh hdv; go_wp2_with fail; exact StepV.mk _ rfl (hSv.made (by decide) b7 b10 (Nat.le_refl _) (by repeat' (first | (with_reducible exact Fr.refl _ _) | (with_reducible assumption) | (with_reducible refine Fr.drew ?_) | (with_reducible refine Fr.drewN ?_ _) | (with_reducible refine Fr.alloc ?_ _) | ((with_reducible refine Fr.setNew ?_ _ ?_ _); rotate_left; (focus (first | (with_reducible assumption) | exact Nat.le_of_lt (by with_reducible assumption) | (focus (simp +arith; done)) | exact Nat.le_trans (by with_reducible assumption) (by simp +arith; done) | (simp; done)))) | ((with_reducible refine Fr.setOld ?_ _ ?_ _); rotate_left; (focus (simp; done))))) (by (apply heap_eq_of; (focus (repeat (first | (with_reducible assumption) | ((with_reducible refine heap_alloc_at ?_ _); first | (with_reducible rfl) | (focus (simp; done))) | (with_reducible apply heap_alloc_old) | ((with_reducible apply heap_set_other); (case hne => (first | (with_reducible assumption) | exact Nat.ne_of_lt (by with_reducible assumption) | exact Nat.ne_of_gt (by with_reducible assumption) | (focus (simp +arith; done)) | (simp; done)))) | (with_reducible apply heap_set_eq) | (with_reducible apply heap_drew_of) | (with_reducible apply heap_drewN_of)))); (focus (first | (simp; done) | rfl))))))); (try simp only [Act.put, List.setIfInBounds_toArray, List.set_cons_zero, List.set_cons_succ, Nat.reduceAdd, Nat.zero_add])
  apply SeqV.var; (focus (intro Vv bv wv hbv hdv hsh hSv; have b10 := shut_no hsh hbv 10 (by kernel_rfl); have d6 := hdv { on := 6, ground := .data } (by simp) rfl; obtain ⟨p, p1, p2, p3⟩ := hSv.lit d6; have a0 := hSv.a hbv; clear hsh hdv; go_wp2_with (at_builtin; refine wpList_appG eAok _ rfl (.tmp 14) (.tmp 16) rfl rfl base _ xs rfl (O2.out.fr a0 (by simp)) (Vv 6) [x] rfl (M := []) (by rw [p1]; exact (El.Own.lit (base := 0) [x] p3 (by omega) rfl eAok (by simp [maxLen]) 1 rfl).sl (M := []) (by simp)) (by simp; omega) (Nat.le_trans B2 a0.size) ?_; intro v1 wq O1 G1 U1); exact StepV.mk v1 rfl (hSv.app (by decide) hbv b10 O1 G1 U1 HTN.out HVL.out))); (try simp only [Act.put, List.setIfInBounds_toArray, List.set_cons_zero, List.set_cons_succ, Nat.reduceAdd, Nat.zero_add])
  (iterate 2 (apply SeqV.cons; (focus (intro Vv bv wv hbv hdv hsh hSv; skip; clear hsh hdv; go_wp2_with (fail); exact StepPost.mk rfl (hSv.plain (by decide) (by repeat' (first | (with_reducible exact Fr.refl _ _) | (with_reducible assumption) | (with_reducible refine Fr.drew ?_) | (with_reducible refine Fr.drewN ?_ _) | (with_reducible refine Fr.alloc ?_ _) | ((with_reducible refine Fr.setNew ?_ _ ?_ _); rotate_left; (focus (first | (with_reducible assumption) | exact Nat.le_of_lt (by with_reducible assumption) | (focus (simp +arith; done)) | exact Nat.le_trans (by with_reducible assumption) (by simp +arith; done) | (simp; done)))) | ((with_reducible refine Fr.setOld ?_ _ ?_ _); rotate_left; (focus (simp; done)))))))); (try simp only [Act.put, List.setIfInBounds_toArray, List.set_cons_zero, List.set_cons_succ, Nat.reduceAdd, Nat.zero_add])))
  apply SeqV.cons (v := undef); (focus (intro Vv bv wv hbv hdv hsh hSv; have t0 := hSv.c0 hbv; have d7 := hdv { on := 7, ground := .data } (by simp) rfl; obtain ⟨A9, c9, hv9⟩ := (hSv.m d7).1.shape; apply blk_use t0; intro hg21 hc21 hz21 _ _ _ _ _; clear hsh hdv; go_wp2_with fail; exact StepPost.mk rfl (hSv.store (by decide) d7 (by repeat' (first | (with_reducible exact Fr.refl _ _) | (with_reducible assumption) | (with_reducible refine Fr.drew ?_) | (with_reducible refine Fr.drewN ?_ _) | (with_reducible refine Fr.alloc ?_ _) | ((with_reducible refine Fr.setNew ?_ _ ?_ _); rotate_left; (focus (first | (with_reducible assumption) | exact Nat.le_of_lt (by with_reducible assumption) | (focus (simp +arith; done)) | exact Nat.le_trans (by with_reducible assumption) (by simp +arith; done) | (simp; done)))) | ((with_reducible refine Fr.setOld ?_ _ ?_ _); rotate_left; (focus (simp; done))))) HTB.out (by rw [hv9]; (apply heap_eq_of; (focus (repeat (first | (with_reducible assumption) | ((with_reducible refine heap_alloc_at ?_ _); first | (with_reducible rfl) | (focus (simp; done))) | (with_reducible apply heap_alloc_old) | ((with_reducible apply heap_set_other); (case hne => (first | (with_reducible assumption) | exact Nat.ne_of_lt (by with_reducible assumption) | exact Nat.ne_of_gt (by with_reducible assumption) | (focus (simp +arith; done)) | (simp; done)))) | (with_reducible apply heap_set_eq) | (with_reducible apply heap_drew_of) | (with_reducible apply heap_drewN_of)))); (focus (first | (simp; done) | rfl)))) HT3.out))); (try simp only [Act.put, List.setIfInBounds_toArray, List.set_cons_zero, List.set_cons_succ, Nat.reduceAdd, Nat.zero_add])
  refine SeqV.nil ?_
  intro Vv bv w5 hb5 hSv
  obtain ⟨O5, H5, U5, F5⟩ := hSv.done (hb5 10 (by decide))
  generalize Vv 7 = v5 at *
  clear hSv hb5
  go_wp2_with fail
  go_end0
  have hl := HH.out.lt
  have hn := HH.out.ne
  have ho := HH.out.own
  have hmt := HH.out.mt
  have hbb := HH.out.bb
  have z1 := F1.out.size
  have z2 := F2.out.size
  have z5 := F5.size
  have FF : Fr (t :: b :: (Value.slice A xs.length c).ownBlock.toList) w w5 := ((F1.out.mono (by simp)).trans (F2.out.mono (by simp))).trans (F5.mono (fun y hy => Or.inl (by
    rcases List.mem_cons.1 hy with q | q
    · simp [q]
    · simp [q])))
  have hu : ∀ y ∈ v5.ownBlock.toList, y ∈ (Value.slice A xs.length c).ownBlock.toList ∨ w.heap.size ≤ y := fun y hy => (U5 y hy).imp id (fun q => by omega)
  have av : AnsR w5 (t :: b :: (v5.ownBlock.toList ++ M)) xs S.K := HH.out.av.turn FF (fun y hy => Or.inl (by
    rcases List.mem_cons.1 hy with q | q
    · simp [q]
    rcases List.mem_cons.1 q with q | q
    · simp [q]
    · simp [q])) (fun y hy => by
      simp only [List.mem_cons, List.mem_append] at hy ⊢
      rcases hy with q | q | q | q
      · exact Or.inl (Or.inl q)
      · exact Or.inl (Or.inr (Or.inl q))
      · exact (hu y q).imp (fun z => Or.inr (Or.inr (Or.inl z))) id
      · exact Or.inl (Or.inr (Or.inr (Or.inr q))))
  have nv : eU.Sl (t :: b :: (v5.ownBlock.toList ++ M)) w5 x.v vs := Sl_turnG HSL.out FF (fun y hy => Or.inl (by
    rcases List.mem_cons.1 hy with q | q
    · simp [q]
    rcases List.mem_cons.1 q with q | q
    · simp [q]
    · simp [q])) (fun y hy => by
      simp only [List.mem_cons, List.mem_append] at hy ⊢
      rcases hy with q | q | q | q
      · exact Or.inl (Or.inl q)
      · exact Or.inl (Or.inr (Or.inl q))
      · exact (hu y q).imp (fun z => Or.inr (Or.inr (Or.inl z))) id
      · exact Or.inl (Or.inr (Or.inr (Or.inr q))))
  refine ⟨rfl, ⟨v5, xs ++ [x], ⟨H5, P2.out.fr F5 ?_, fun p hp => HH.out.e8 p (cutg_mem.1 hp).1, O5, av.app ⟨⟨rfl, rfl, nv⟩, trivial⟩, by omega, hn, hbb, ⟨hmt.1, hmt.2.1, fun y hy => (hu y hy).elim (hmt.2.2 y) (fun q z => by have := HH.out.ms y z; omega)⟩, fun y hy => by have := HH.out.ms y hy; omega⟩⟩, _, FF, fun y hy => ?_⟩
  · intro h
    rcases List.mem_cons.1 h with q | q
    · exact hn q.symm
    · exact (ho b q).2.2.2 rfl
  · rcases List.mem_cons.1 hy with rfl | q
    · exact ⟨hbb.1, hmt.1⟩
    rcases List.mem_cons.1 q with rfl | q
    · exact ⟨hbb.2, hmt.2.1⟩
    · exact ⟨by have := (ho y q).1; omega, hmt.2.2 y q⟩
end
end Go.Proofs.Ytobekkgaildbgaa
