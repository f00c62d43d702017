/- Package wire's PutAnswer and the reference's; both of an operation that can't be written. -/
import Derived.Test.YtoebfpimojkamaaDoorWireRefPut
namespace Go.Proofs.YtoebfpimojkamaaDoor
open Go.RowKit

set_option maxRecDepth 100000 in
set_option maxHeartbeats 4000000 in
theorem rputop_no (k id f c : Int) (A : Option Addr) (vc : Nat) (vs : List Int) (wl : Bool) (hv : vs.length ≤ 1000000) (hn : ¬ canP k id f c vs.length wl) (w : World) :
    Calls Tryd.prog 15 #[opv k id f c A vs.length vc wl] w fun e w' => RowCode none w e w' := by
  have hD : decide (canP k id f c vs.length wl) = false := decide_eq_false hn
  have HW := Lib.hid (rcan k id f c A vs.length vc wl hv)
  rw [hD] at HW
  clear hD hn
  go_enter Tryd.func15, Tryd.ntmps15
  go_wp2_with (go_at_call 11; (with_reducible refine (HW.out _).mono ?_); rintro e w1 ⟨rfl, f1⟩; have F1 : Fr [] w w1 := Fr.trans (by repeat' (first | (with_reducible exact Fr.refl _ _) | (with_reducible assumption) | (with_reducible refine Fr.drew ?_) | (with_reducible refine Fr.drewN ?_ _) | (with_reducible refine Fr.alloc ?_ _) | ((with_reducible refine Fr.setNew ?_ _ ?_ _); rotate_left; (focus (first | (with_reducible assumption) | exact Nat.le_of_lt (by with_reducible assumption) | (focus (simp +arith; done)) | exact Nat.le_trans (by with_reducible assumption) (by simp +arith; done) | (simp; done)))) | ((with_reducible refine Fr.setOld ?_ _ ?_ _); rotate_left; (focus (simp; done))))) f1; clear f1)
  refine bodyPost_ret (v := .tuple #[.slice none 0 0, .int .i64 1]) (by simp [results, Tryd.results15, go_sem, *]) rfl ⟨Or.inl ⟨rfl, rfl⟩, (by repeat' (first | (with_reducible exact Fr.refl _ _) | (with_reducible assumption) | (with_reducible refine Fr.drew ?_) | (with_reducible refine Fr.drewN ?_ _) | (with_reducible refine Fr.alloc ?_ _) | ((with_reducible refine Fr.setNew ?_ _ ?_ _); rotate_left; (focus (first | (with_reducible assumption) | exact Nat.le_of_lt (by with_reducible assumption) | (focus (simp +arith; done)) | exact Nat.le_trans (by with_reducible assumption) (by simp +arith; done) | (simp; done)))) | ((with_reducible refine Fr.setOld ?_ _ ?_ _); rotate_left; (focus (simp; done)))))⟩

theorem wputop (k id f c : Int) (A : Option Addr) (vc : Nat) (vs : List Int) (wl : Bool) (hv : vs.length ≤ 1000000) (w : World) (hV : ValsAt w A vs) :
    Calls Tryd.prog 10 #[opv k id f c A vs.length vc wl] w fun e w' => RowCode (putS k id f c vs wl) w e w' := by
  unfold putS
  split
  · exact wputop_ok k id f c A vc vs wl hv ‹_› w hV
  · exact wputop_no k id f c A vc vs wl hv ‹_› w
theorem rputop (k id f c : Int) (A : Option Addr) (vc : Nat) (vs : List Int) (wl : Bool) (hv : vs.length ≤ 1000000) (w : World) (hV : ValsAt w A vs) :
    Calls Tryd.prog 15 #[opv k id f c A vs.length vc wl] w fun e w' => RowCode (putS k id f c vs wl) w e w' := by
  unfold putS
  split
  · exact rputop_ok k id f c A vc vs wl hv ‹_› w hV
  · exact rputop_no k id f c A vc vs wl hv ‹_› w

/-- An answer that can be written, and its record behind the first byte. -/
def ansP (id c : Int) (vl : Nat) : Prop := (0 ≤ id ∧ id ≤ 65535) ∧ (0 ≤ c ∧ c ≤ 255) ∧ vl ≤ 8
instance (id c : Int) (vl : Nat) : Decidable (ansP id c vl) := by unfold ansP; infer_instance
def ansTail (id c : Int) (vs : List Int) : List Int := [16] ++ le id 2 ++ le c 1 ++ les vs
def ansS (id c : Int) (vs : List Int) : Option (List Int) := if ansP id c vs.length then some (recB (ansTail id c vs)) else none
abbrev anv (id c : Int) (A : Option Addr) (n cap : Nat) : Value := .agg #[.int .i64 id, .int .i64 c, .slice A n cap]
abbrev anc (id c : Int) (A : Option Addr) (n cap : Nat) : Obj := .cells #[.int .i64 id, .int .i64 c, .slice A n cap] 37

set_option maxRecDepth 100000 in
set_option maxHeartbeats 8000000 in
theorem wputans_ok (id c : Int) (A : Option Addr) (vc : Nat) (vs : List Int) (hn : ansP id c vs.length) (w : World) (hV : ValsAt w A vs) :
    Calls Tryd.prog 16 #[anv id c A vs.length vc] w fun e w' => RowCode (some (recB (ansTail id c vs))) w e w' := by
  obtain ⟨⟨i0, i1⟩, ⟨c0, c1⟩, v8⟩ := hn
  have HV := Lib.hid hV
  clear hV
  have l2 := fun n => le_len 2 n
  have l1 := fun n => le_len 1 n
  have L2 := Lib.hid l2
  have L1 := Lib.hid l1
  clear l1 l2
  go_enter Tryd.func16, Tryd.ntmps16
  go_wp2_with fail
  refine (wputc (w.heap.size + 1) _ [16] id 2 2 rfl (by omega) (by omega) (by omega) (by simp) _ (OwnB.lit [16] (by (apply heap_eq_of; (focus (repeat (first | (with_reducible assumption) | ((with_reducible refine heap_alloc_at ?_ _); first | (with_reducible rfl) | (focus (simp; done))) | (with_reducible apply heap_alloc_old) | ((with_reducible apply heap_set_other); (case hne => (first | (with_reducible assumption) | exact Nat.ne_of_lt (by with_reducible assumption) | exact Nat.ne_of_gt (by with_reducible assumption) | (focus (simp +arith; done)) | (simp; done)))) | (with_reducible apply heap_set_eq) | (with_reducible apply heap_drew_of) | (with_reducible apply heap_drewN_of)))); (focus (first | (simp; done) | rfl)))) (by simp) (by simp) 1 rfl) (by simp)).mono ?_
  rintro e w2 h2
  have z2 := h2.fr.size
  have g2 := h2.keep (OwnB.lit (base := w.heap.size + 1) [16] (by (apply heap_eq_of; (focus (repeat (first | (with_reducible assumption) | ((with_reducible refine heap_alloc_at ?_ _); first | (with_reducible rfl) | (focus (simp; done))) | (with_reducible apply heap_alloc_old) | ((with_reducible apply heap_set_other); (case hne => (first | (with_reducible assumption) | exact Nat.ne_of_lt (by with_reducible assumption) | exact Nat.ne_of_gt (by with_reducible assumption) | (focus (simp +arith; done)) | (simp; done)))) | (with_reducible apply heap_set_eq) | (with_reducible apply heap_drew_of) | (with_reducible apply heap_drewN_of)))); (focus (first | (simp; done) | rfl)))) (by simp) (by simp) 1 rfl) (k := w.heap.size) (by omega) (by (repeat (first | (with_reducible assumption) | ((with_reducible refine heap_alloc_at ?_ _); first | (with_reducible rfl) | (focus (simp; done))) | (with_reducible apply heap_alloc_old) | ((with_reducible apply heap_set_other); (case hne => (first | (with_reducible assumption) | exact Nat.ne_of_lt (by with_reducible assumption) | exact Nat.ne_of_gt (by with_reducible assumption) | (focus (simp +arith; done)) | (simp; done)))) | (with_reducible apply heap_set_eq) | (with_reducible apply heap_drew_of) | (with_reducible apply heap_drewN_of))))
  have F2 := h2.frame (OwnB.lit (base := w.heap.size + 1) [16] (by (apply heap_eq_of; (focus (repeat (first | (with_reducible assumption) | ((with_reducible refine heap_alloc_at ?_ _); first | (with_reducible rfl) | (focus (simp; done))) | (with_reducible apply heap_alloc_old) | ((with_reducible apply heap_set_other); (case hne => (first | (with_reducible assumption) | exact Nat.ne_of_lt (by with_reducible assumption) | exact Nat.ne_of_gt (by with_reducible assumption) | (focus (simp +arith; done)) | (simp; done)))) | (with_reducible apply heap_set_eq) | (with_reducible apply heap_drew_of) | (with_reducible apply heap_drewN_of)))); (focus (first | (simp; done) | rfl)))) (by simp) (by simp) 1 rfl) (w0 := w) (by omega) (by repeat' (first | (with_reducible exact Fr.refl _ _) | (with_reducible assumption) | (with_reducible refine Fr.drew ?_) | (with_reducible refine Fr.drewN ?_ _) | (with_reducible refine Fr.alloc ?_ _) | ((with_reducible refine Fr.setNew ?_ _ ?_ _); rotate_left; (focus (first | (with_reducible assumption) | exact Nat.le_of_lt (by with_reducible assumption) | (focus (simp +arith; done)) | exact Nat.le_trans (by with_reducible assumption) (by simp +arith; done) | (simp; done)))) | ((with_reducible refine Fr.setOld ?_ _ ?_ _); rotate_left; (focus (simp; done)))))
  obtain ⟨⟨v2, rfl, O2⟩, _⟩ := h2
  apply blk_use g2; intro hg2 hc2 hz2 _ _ _ _ _
  clear g2
  go_wp2_with fail
  refine (wputc (w.heap.size + 1) _ ([16] ++ le id 2) c 1 1 rfl (by omega) (by omega) (by omega) (by simp [L2.out]) _ O2 (by omega)).mono ?_
  rintro e w3 h3
  have z3 := h3.fr.size
  have F3 := h3.frame O2 (w0 := w) (by omega) F2
  have g3 := h3.keep O2 (k := w.heap.size) (by omega) hg2
  apply blk_use g3; intro hg3 hc3 hz3 _ _ _ _ _
  obtain ⟨⟨v3, rfl, O3⟩, _⟩ := h3
  go_wp2_with fail
  go_loopw [4, 44] (fun u i w' => ∃ j : Nat, i = .int .i64 j ∧ j ≤ vs.length ∧ OwnB w' (w.heap.size + 1) u ([16] ++ le id 2 ++ le c 1 ++ les (vs.take j)) ∧ Fr [] w w' ∧ w.heap.size + 1 ≤ w'.heap.size) (fun _ i _ => vs.length - (intOf i).toNat)
  case atStart => exact ⟨0, rfl, by omega, by simpa [les] using O3, F3, by omega⟩
  case round =>
    obtain ⟨j, rfl, j1, O4, F4, z4⟩ := hrel
    by_cases hj : j < vs.length
    · rcases HV.out.fr F4 with hz | ⟨b, off, rfl, hb, hcl⟩
      · simp [hz] at hj
      obtain ⟨qc, v0, v1⟩ := hcl j vs[j] (by simp [hj])
      have LT : Hid (les (vs.take (j+1)) = les (vs.take j) ++ le vs[j] 8) := by
        unfold Hid
        rw [List.take_succ_eq_append_getElem hj, les_app]
        simp [les]
      generalize vs[j] = z at *
      clear hcl
      have hlj := les_len (vs.take j)
      have hls : (les (vs.take j)).length ≤ 64 := by simp at hlj; omega
      clear hlj
      go_wp2_with fail
      refine (wputc (w.heap.size + 1) _ ([16] ++ le id 2 ++ le c 1 ++ les (vs.take j)) z 8 8 rfl v0 v1 (by omega) (by simp [L2.out, L1.out]; omega) _ O4 (by omega)).mono ?_
      rintro e w5 h5
      have F5 := h5.frame O4 (w0 := w) (by omega) F4
      have z5 := h5.fr.size
      obtain ⟨⟨v5, rfl, O5⟩, _⟩ := h5
      go_wp2
      go_roundw
      case rel => exact ⟨j + 1, by go_num, by omega, by rw [LT.out, ← List.append_assoc]; exact O5, F5, by omega⟩
      case measure => simp [intOf]; omega
    · have hj' : j = vs.length := by omega
      subst hj'
      rw [List.take_length] at O4
      have hls : (les vs).length = 8 * vs.length := les_len vs
      go_wp2_with fail
      refine (wsealc (w.heap.size + 1) _ ([16] ++ le id 2 ++ le c 1 ++ les vs) (by simp [L2.out, L1.out]; omega) (by simp) _ O4).mono ?_
      rintro e w9 h9
      have F9 := F4.trans h9.fr
      obtain ⟨⟨v9, rfl, O9⟩, _⟩ := h9
      go_wp2
      refine bodyPost_ret (v := .tuple #[v9, .int .i64 0]) (by simp [results, Tryd.results16, go_sem, *]) rfl ⟨Or.inr ⟨v9, _, rfl, rfl, ?_⟩, F9⟩
      exact O9.mono (by omega)

set_option maxRecDepth 100000 in
set_option maxHeartbeats 8000000 in
theorem wputans_no (id c : Int) (A : Option Addr) (vc : Nat) (vl : Nat) (hv : vl ≤ 1000000) (hn : ¬ ansP id c vl) (w : World) :
    Calls Tryd.prog 16 #[anv id c A vl vc] w fun e w' => RowCode none w e w' := by
  have hv' : (vl : Int) ≤ 1000000 := by omega
  have hn' : ¬ (((((0 ≤ id ∧ id ≤ 65535) ∧ 0 ≤ c) ∧ c ≤ 255) ∧ (vl : Int) ≤ 8)) := by unfold ansP at hn; omega
  clear hn
  go_enter Tryd.func16, Tryd.ntmps16
  go_wp2_with fail
  all_goals (try (exfalso; omega))
  all_goals refine bodyPost_ret (v := .tuple #[.slice none 0 0, .int .i64 1]) (by simp [results, Tryd.results16, go_sem, *]) rfl ⟨Or.inl ⟨rfl, rfl⟩, (by repeat' (first | (with_reducible exact Fr.refl _ _) | (with_reducible assumption) | (with_reducible refine Fr.drew ?_) | (with_reducible refine Fr.drewN ?_ _) | (with_reducible refine Fr.alloc ?_ _) | ((with_reducible refine Fr.setNew ?_ _ ?_ _); rotate_left; (focus (first | (with_reducible assumption) | exact Nat.le_of_lt (by with_reducible assumption) | (focus (simp +arith; done)) | exact Nat.le_trans (by with_reducible assumption) (by simp +arith; done) | (simp; done)))) | ((with_reducible refine Fr.setOld ?_ _ ?_ _); rotate_left; (focus (simp; done)))))⟩

set_option maxRecDepth 100000 in
set_option maxHeartbeats 8000000 in
theorem rputans_no (id c : Int) (A : Option Addr) (vc : Nat) (vl : Nat) (hv : vl ≤ 1000000) (hn : ¬ ansP id c vl) (w : World) :
    Calls Tryd.prog 17 #[anv id c A vl vc] w fun e w' => RowCode none w e w' := by
  have hv' : (vl : Int) ≤ 1000000 := by omega
  have hn' : ¬ (((((0 ≤ id ∧ id ≤ 65535) ∧ 0 ≤ c) ∧ c ≤ 255) ∧ (vl : Int) ≤ 8)) := by unfold ansP at hn; omega
  clear hn
  go_enter Tryd.func17, Tryd.ntmps17
  go_wp2_with fail
  all_goals (try (exfalso; omega))
  all_goals refine bodyPost_ret (v := .tuple #[.slice none 0 0, .int .i64 1]) (by simp [results, Tryd.results17, go_sem, *]) rfl ⟨Or.inl ⟨rfl, rfl⟩, (by repeat' (first | (with_reducible exact Fr.refl _ _) | (with_reducible assumption) | (with_reducible refine Fr.drew ?_) | (with_reducible refine Fr.drewN ?_ _) | (with_reducible refine Fr.alloc ?_ _) | ((with_reducible refine Fr.setNew ?_ _ ?_ _); rotate_left; (focus (first | (with_reducible assumption) | exact Nat.le_of_lt (by with_reducible assumption) | (focus (simp +arith; done)) | exact Nat.le_trans (by with_reducible assumption) (by simp +arith; done) | (simp; done)))) | ((with_reducible refine Fr.setOld ?_ _ ?_ _); rotate_left; (focus (simp; done)))))⟩

set_option maxRecDepth 100000 in
set_option maxHeartbeats 8000000 in
theorem rputans_ok (id c : Int) (A : Option Addr) (vc : Nat) (vs : List Int) (hn : ansP id c vs.length) (w : World) (hV : ValsAt w A vs) :
    Calls Tryd.prog 17 #[anv id c A vs.length vc] w fun e w' => RowCode (some (recB (ansTail id c vs))) w e w' := by
  obtain ⟨⟨i0, i1⟩, ⟨c0, c1⟩, v8⟩ := hn
  have fol : Tryd.prog.follows .mixedOrders = true := by kernel_rfl
  have HV := Lib.hid hV
  clear hV
  have l2 := fun n => le_len 2 n
  have L2 := Lib.hid l2
  clear l2
  have HP : Hid (ansTail id c vs = [16] ++ le id 2 ++ [c] ++ les vs) := by unfold Hid ansTail; simp [le]; omega
  go_enter Tryd.func17, Tryd.ntmps17
  go_wp2_with fail
  refine wp_name (fun w3 f3 => ?_)
  apply f3.use (k := w.heap.size); (focus (repeat (first | (with_reducible assumption) | ((with_reducible refine heap_alloc_at ?_ _); first | (with_reducible rfl) | (focus (simp; done))) | (with_reducible apply heap_alloc_old) | ((with_reducible apply heap_set_other); (case hne => (first | (with_reducible assumption) | exact Nat.ne_of_lt (by with_reducible assumption) | exact Nat.ne_of_gt (by with_reducible assumption) | (focus (simp +arith; done)) | (simp; done)))) | (with_reducible apply heap_set_eq) | (with_reducible apply heap_drew_of) | (with_reducible apply heap_drewN_of)))); (focus (first | (simp; done) | (simp; assumption))); intro hg1 hc1 hz1 _ _ _ _ _; (try simp only [List.setIfInBounds_toArray, List.set_cons_zero, List.set_cons_succ] at hg1 hc1)
  have F3 : Fr [] w w3 := Fr.trans (S := []) (by repeat' (first | (with_reducible exact Fr.refl _ _) | (with_reducible assumption) | (with_reducible refine Fr.drew ?_) | (with_reducible refine Fr.drewN ?_ _) | (with_reducible refine Fr.alloc ?_ _) | ((with_reducible refine Fr.setNew ?_ _ ?_ _); rotate_left; (focus (first | (with_reducible assumption) | exact Nat.le_of_lt (by with_reducible assumption) | (focus (simp +arith; done)) | exact Nat.le_trans (by with_reducible assumption) (by simp +arith; done) | (simp; done)))) | ((with_reducible refine Fr.setOld ?_ _ ?_ _); rotate_left; (focus (simp; done))))) f3
  clear f3
  refine wp_region_seqV_lit (CatS w3 w3.heap.size [(0, [16]), (4, le id 2), (9, [c])] 5 10 11 ([16] ++ le id 2) [c]) fol (by kernel_rfl) CatS.start ?_
  apply SeqV.var; (focus (intro Vv bv wv hbv hdv hSv; go_wp2_with fail; exact StepV.mk _ rfl (hSv.sl (k := 0) [16] (by simp) (by repeat' (first | (with_reducible exact Fr.refl _ _) | (with_reducible assumption) | (with_reducible refine Fr.drew ?_) | (with_reducible refine Fr.drewN ?_ _) | (with_reducible refine Fr.alloc ?_ _) | ((with_reducible refine Fr.setNew ?_ _ ?_ _); rotate_left; (focus (first | (with_reducible assumption) | exact Nat.le_of_lt (by with_reducible assumption) | (focus (simp +arith; done)) | exact Nat.le_trans (by with_reducible assumption) (by simp +arith; done) | (simp; done)))) | ((with_reducible refine Fr.setOld ?_ _ ?_ _); rotate_left; (focus (simp; done))))) (((OwnB.lit (base := 0) [16] (by (apply heap_eq_of; (focus (repeat (first | (with_reducible assumption) | ((with_reducible refine heap_alloc_at ?_ _); first | (with_reducible rfl) | (focus (simp; done))) | (with_reducible apply heap_alloc_old) | ((with_reducible apply heap_set_other); (case hne => (first | (with_reducible assumption) | exact Nat.ne_of_lt (by with_reducible assumption) | exact Nat.ne_of_gt (by with_reducible assumption) | (focus (simp +arith; done)) | (simp; done)))) | (with_reducible apply heap_set_eq) | (with_reducible apply heap_drew_of) | (with_reducible apply heap_drewN_of)))); (focus (first | (simp; done) | rfl)))) (by omega) (by simp) 1 rfl).sl (by decide)))))); (try simp only [Act.put, List.setIfInBounds_toArray, List.set_cons_zero, List.set_cons_succ, Nat.reduceAdd, Nat.zero_add])
  apply SeqV.cons; (focus (intro Vv bv wv hbv hdv hSv; skip; go_wp2_with fail; exact StepPost.mk rfl (hSv.plain (by simp) (by repeat' (first | (with_reducible exact Fr.refl _ _) | (with_reducible assumption) | (with_reducible refine Fr.drew ?_) | (with_reducible refine Fr.drewN ?_ _) | (with_reducible refine Fr.alloc ?_ _) | ((with_reducible refine Fr.setNew ?_ _ ?_ _); rotate_left; (focus (first | (with_reducible assumption) | exact Nat.le_of_lt (by with_reducible assumption) | (focus (simp +arith; done)) | exact Nat.le_trans (by with_reducible assumption) (by simp +arith; done) | (simp; done)))) | ((with_reducible refine Fr.setOld ?_ _ ?_ _); rotate_left; (focus (simp; done)))))))); (try simp only [Act.put, List.setIfInBounds_toArray, List.set_cons_zero, List.set_cons_succ, Nat.reduceAdd, Nat.zero_add])
  apply SeqV.cons; (focus (intro Vv bv wv hbv hdv hSv; apply hSv.fr.use (k := w.heap.size); (focus (repeat (first | (with_reducible assumption) | ((with_reducible refine heap_alloc_at ?_ _); first | (with_reducible rfl) | (focus (simp; done))) | (with_reducible apply heap_alloc_old) | ((with_reducible apply heap_set_other); (case hne => (first | (with_reducible assumption) | exact Nat.ne_of_lt (by with_reducible assumption) | exact Nat.ne_of_gt (by with_reducible assumption) | (focus (simp +arith; done)) | (simp; done)))) | (with_reducible apply heap_set_eq) | (with_reducible apply heap_drew_of) | (with_reducible apply heap_drewN_of)))); (focus (first | (simp; done) | (simp; assumption))); intro hg21 hc21 hz21 _ _ _ _ _; (try simp only [List.setIfInBounds_toArray, List.set_cons_zero, List.set_cons_succ] at hg21 hc21); go_wp2_with fail; exact StepPost.mk rfl (hSv.plain (by simp) (by repeat' (first | (with_reducible exact Fr.refl _ _) | (with_reducible assumption) | (with_reducible refine Fr.drew ?_) | (with_reducible refine Fr.drewN ?_ _) | (with_reducible refine Fr.alloc ?_ _) | ((with_reducible refine Fr.setNew ?_ _ ?_ _); rotate_left; (focus (first | (with_reducible assumption) | exact Nat.le_of_lt (by with_reducible assumption) | (focus (simp +arith; done)) | exact Nat.le_trans (by with_reducible assumption) (by simp +arith; done) | (simp; done)))) | ((with_reducible refine Fr.setOld ?_ _ ?_ _); rotate_left; (focus (simp; done)))))))); (try simp only [Act.put, List.setIfInBounds_toArray, List.set_cons_zero, List.set_cons_succ, Nat.reduceAdd, Nat.zero_add])
  apply SeqV.cons; (focus (intro Vv bv wv hbv hdv hSv; skip; go_wp2_with fail; exact StepPost.mk rfl (hSv.plain (by simp) (by repeat' (first | (with_reducible exact Fr.refl _ _) | (with_reducible assumption) | (with_reducible refine Fr.drew ?_) | (with_reducible refine Fr.drewN ?_ _) | (with_reducible refine Fr.alloc ?_ _) | ((with_reducible refine Fr.setNew ?_ _ ?_ _); rotate_left; (focus (first | (with_reducible assumption) | exact Nat.le_of_lt (by with_reducible assumption) | (focus (simp +arith; done)) | exact Nat.le_trans (by with_reducible assumption) (by simp +arith; done) | (simp; done)))) | ((with_reducible refine Fr.setOld ?_ _ ?_ _); rotate_left; (focus (simp; done)))))))); (try simp only [Act.put, List.setIfInBounds_toArray, List.set_cons_zero, List.set_cons_succ, Nat.reduceAdd, Nat.zero_add])
  apply SeqV.var; (focus (intro Vv bv wv hbv hdv hSv; go_wp2_with fail; refine (rbytesc id 2 2 rfl (by omega) (by omega) (by omega) _).mono ?_; rintro e w' ⟨⟨v, rfl, O⟩, f⟩; go_wp2_with fail; exact StepV.mk _ rfl (hSv.sl (k := 4) (le id 2) (by simp) f (O.sl (le_ok 2 id))))); (try simp only [Act.put, List.setIfInBounds_toArray, List.set_cons_zero, List.set_cons_succ, Nat.reduceAdd, Nat.zero_add])
  apply SeqV.var; (focus (intro Vv bv wv hbv hdv hSv; obtain ⟨p1, _⟩ := hSv.pre (hSv.at_ hbv); have p2 := p1 (0, [16]) (by simp) (hdv { on := 0, ground := .data } (by simp) rfl); have p3 := p1 (4, le id 2) (by simp) (hdv { on := 4, ground := .data } (by simp) rfl); go_wp2_with fail; refine (rjoin _ _ [16] (le id 2) (by simp) (by simp [L2.out]) _ p2 p3).mono ?_; rintro e w' ⟨⟨v, rfl, O⟩, f⟩; go_wp2_with fail; exact StepV.mk v rfl (hSv.own (by simp) f (O.mono hSv.fr.size)))); (try simp only [Act.put, List.setIfInBounds_toArray, List.set_cons_zero, List.set_cons_succ, Nat.reduceAdd, Nat.zero_add])
  apply SeqV.cons; (focus (intro Vv bv wv hbv hdv hSv; skip; go_wp2_with fail; exact StepPost.mk rfl (hSv.plain (by simp) (by repeat' (first | (with_reducible exact Fr.refl _ _) | (with_reducible assumption) | (with_reducible refine Fr.drew ?_) | (with_reducible refine Fr.drewN ?_ _) | (with_reducible refine Fr.alloc ?_ _) | ((with_reducible refine Fr.setNew ?_ _ ?_ _); rotate_left; (focus (first | (with_reducible assumption) | exact Nat.le_of_lt (by with_reducible assumption) | (focus (simp +arith; done)) | exact Nat.le_trans (by with_reducible assumption) (by simp +arith; done) | (simp; done)))) | ((with_reducible refine Fr.setOld ?_ _ ?_ _); rotate_left; (focus (simp; done)))))))); (try simp only [Act.put, List.setIfInBounds_toArray, List.set_cons_zero, List.set_cons_succ, Nat.reduceAdd, Nat.zero_add])
  apply SeqV.cons; (focus (intro Vv bv wv hbv hdv hSv; apply hSv.fr.use (k := w.heap.size); (focus (repeat (first | (with_reducible assumption) | ((with_reducible refine heap_alloc_at ?_ _); first | (with_reducible rfl) | (focus (simp; done))) | (with_reducible apply heap_alloc_old) | ((with_reducible apply heap_set_other); (case hne => (first | (with_reducible assumption) | exact Nat.ne_of_lt (by with_reducible assumption) | exact Nat.ne_of_gt (by with_reducible assumption) | (focus (simp +arith; done)) | (simp; done)))) | (with_reducible apply heap_set_eq) | (with_reducible apply heap_drew_of) | (with_reducible apply heap_drewN_of)))); (focus (first | (simp; done) | (simp; assumption))); intro hg21 hc21 hz21 _ _ _ _ _; (try simp only [List.setIfInBounds_toArray, List.set_cons_zero, List.set_cons_succ] at hg21 hc21); go_wp2_with fail; exact StepPost.mk rfl (hSv.plain (by simp) (by repeat' (first | (with_reducible exact Fr.refl _ _) | (with_reducible assumption) | (with_reducible refine Fr.drew ?_) | (with_reducible refine Fr.drewN ?_ _) | (with_reducible refine Fr.alloc ?_ _) | ((with_reducible refine Fr.setNew ?_ _ ?_ _); rotate_left; (focus (first | (with_reducible assumption) | exact Nat.le_of_lt (by with_reducible assumption) | (focus (simp +arith; done)) | exact Nat.le_trans (by with_reducible assumption) (by simp +arith; done) | (simp; done)))) | ((with_reducible refine Fr.setOld ?_ _ ?_ _); rotate_left; (focus (simp; done)))))))); (try simp only [Act.put, List.setIfInBounds_toArray, List.set_cons_zero, List.set_cons_succ, Nat.reduceAdd, Nat.zero_add])
  apply SeqV.cons; (focus (intro Vv bv wv hbv hdv hSv; skip; go_wp2_with fail; exact StepPost.mk rfl (hSv.plain (by simp) (by repeat' (first | (with_reducible exact Fr.refl _ _) | (with_reducible assumption) | (with_reducible refine Fr.drew ?_) | (with_reducible refine Fr.drewN ?_ _) | (with_reducible refine Fr.alloc ?_ _) | ((with_reducible refine Fr.setNew ?_ _ ?_ _); rotate_left; (focus (first | (with_reducible assumption) | exact Nat.le_of_lt (by with_reducible assumption) | (focus (simp +arith; done)) | exact Nat.le_trans (by with_reducible assumption) (by simp +arith; done) | (simp; done)))) | ((with_reducible refine Fr.setOld ?_ _ ?_ _); rotate_left; (focus (simp; done)))))))); (try simp only [Act.put, List.setIfInBounds_toArray, List.set_cons_zero, List.set_cons_succ, Nat.reduceAdd, Nat.zero_add])
  apply SeqV.var; (focus (intro Vv bv wv hbv hdv hSv; go_wp2_with fail; exact StepV.mk _ rfl (hSv.sl (k := 9) [c] (by simp) (by repeat' (first | (with_reducible exact Fr.refl _ _) | (with_reducible assumption) | (with_reducible refine Fr.drew ?_) | (with_reducible refine Fr.drewN ?_ _) | (with_reducible refine Fr.alloc ?_ _) | ((with_reducible refine Fr.setNew ?_ _ ?_ _); rotate_left; (focus (first | (with_reducible assumption) | exact Nat.le_of_lt (by with_reducible assumption) | (focus (simp +arith; done)) | exact Nat.le_trans (by with_reducible assumption) (by simp +arith; done) | (simp; done)))) | ((with_reducible refine Fr.setOld ?_ _ ?_ _); rotate_left; (focus (simp; done))))) (((OwnB.lit (base := 0) [c] (by (apply heap_eq_of; (focus (repeat (first | (with_reducible assumption) | ((with_reducible refine heap_alloc_at ?_ _); first | (with_reducible rfl) | (focus (simp; done))) | (with_reducible apply heap_alloc_old) | ((with_reducible apply heap_set_other); (case hne => (first | (with_reducible assumption) | exact Nat.ne_of_lt (by with_reducible assumption) | exact Nat.ne_of_gt (by with_reducible assumption) | (focus (simp +arith; done)) | (simp; done)))) | (with_reducible apply heap_set_eq) | (with_reducible apply heap_drew_of) | (with_reducible apply heap_drewN_of)))); (focus (first | (simp; done) | rfl)))) (by omega) (by simp) 1 rfl).sl (fun v hv => by simp at hv; omega)))))); (try simp only [Act.put, List.setIfInBounds_toArray, List.set_cons_zero, List.set_cons_succ, Nat.reduceAdd, Nat.zero_add])
  apply SeqV.var; (focus (intro Vv bv wv hbv hdv hSv; obtain ⟨p1, p2⟩ := hSv.pre hbv; have p3 := p1 (9, [c]) (by simp) (hdv { on := 9, ground := .data } (by simp) rfl); have p4 := p2 (hdv { on := 5, ground := .data } (by simp) rfl); go_wp2_with (at_builtin; refine wpList_appS _ rfl (.tmp 35) (.tmp 39) rfl rfl w3.heap.size _ _ rfl p4 _ _ rfl p3 (by simp [L2.out]) hSv.fr.size ?_; intro v1 wq O1 G1 U1); exact StepV.mk v1 rfl (hSv.app (by decide) hbv (hdv { on := 5, ground := .data } (by simp) rfl) (hSv.fr.trans' G1 (fun x hx => Or.inr (own_ge p4 x hx))) O1))); (try simp only [Act.put, List.setIfInBounds_toArray, List.set_cons_zero, List.set_cons_succ, Nat.reduceAdd, Nat.zero_add])
  apply SeqV.var; (focus (intro Vv bv wv hbv hdv hSv; go_wp2_with fail; exact StepV.mk _ rfl (hSv.fin (by simp) (hdv { on := 10, ground := .data } (by simp) rfl) (by repeat' (first | (with_reducible exact Fr.refl _ _) | (with_reducible assumption) | (with_reducible refine Fr.drew ?_) | (with_reducible refine Fr.drewN ?_ _) | (with_reducible refine Fr.alloc ?_ _) | ((with_reducible refine Fr.setNew ?_ _ ?_ _); rotate_left; (focus (first | (with_reducible assumption) | exact Nat.le_of_lt (by with_reducible assumption) | (focus (simp +arith; done)) | exact Nat.le_trans (by with_reducible assumption) (by simp +arith; done) | (simp; done)))) | ((with_reducible refine Fr.setOld ?_ _ ?_ _); rotate_left; (focus (simp; done))))) rfl))); (try simp only [Act.put, List.setIfInBounds_toArray, List.set_cons_zero, List.set_cons_succ, Nat.reduceAdd, Nat.zero_add])
  refine SeqV.nil ?_
  intro Vv bv w5 hb5 hSv
  have Q5 := (hSv.done (hb5 11 (by decide))).sl ((byteOk.app (by decide) (le_ok 2 id)).app (fun v hv => by simp at hv; omega))
  have F5 : Fr [] w w5 := Fr.trans' (S := []) (by repeat' (first | (with_reducible exact Fr.refl _ _) | (with_reducible assumption) | (with_reducible refine Fr.drew ?_) | (with_reducible refine Fr.drewN ?_ _) | (with_reducible refine Fr.alloc ?_ _) | ((with_reducible refine Fr.setNew ?_ _ ?_ _); rotate_left; (focus (first | (with_reducible assumption) | exact Nat.le_of_lt (by with_reducible assumption) | (focus (simp +arith; done)) | exact Nat.le_trans (by with_reducible assumption) (by simp +arith; done) | (simp; done)))) | ((with_reducible refine Fr.setOld ?_ _ ?_ _); rotate_left; (focus (simp; done))))) hSv.fr (by simp)
  apply hSv.fr.use (k := w.heap.size); (focus (repeat (first | (with_reducible assumption) | ((with_reducible refine heap_alloc_at ?_ _); first | (with_reducible rfl) | (focus (simp; done))) | (with_reducible apply heap_alloc_old) | ((with_reducible apply heap_set_other); (case hne => (first | (with_reducible assumption) | exact Nat.ne_of_lt (by with_reducible assumption) | exact Nat.ne_of_gt (by with_reducible assumption) | (focus (simp +arith; done)) | (simp; done)))) | (with_reducible apply heap_set_eq) | (with_reducible apply heap_drew_of) | (with_reducible apply heap_drewN_of)))); (focus (first | (simp; done) | (simp; assumption))); intro hg6 hc6 hz6 _ _ _ _ _; (try simp only [List.setIfInBounds_toArray, List.set_cons_zero, List.set_cons_succ] at hg6 hc6)
  clear hSv hb5
  go_wp2_with fail
  go_loopw [4, 5] (fun u i w' => ∃ j : Nat, i = .int .i64 j ∧ j ≤ vs.length ∧ SlB w' u ([16] ++ le id 2 ++ [c] ++ les (vs.take j)) ∧ Fr [] w w' ∧ w'.heap[w.heap.size]? = some (anc id c A vs.length vc)) (fun _ i _ => vs.length - (intOf i).toNat)
  case atStart => exact ⟨0, rfl, by omega, by simpa [les] using Q5, F5, hg6⟩
  case round =>
    clear Q5
    obtain ⟨j, rfl, j1, Q5, F5, hbx⟩ := hrel
    apply blk_use hbx; intro hg8 hc8 hz8 _ _ _ _ _
    by_cases hj : j < vs.length
    · rcases HV.out.fr F5 with hz | ⟨b, off, rfl, hb, hcl⟩
      · simp [hz] at hj
      obtain ⟨qc, v0, v1⟩ := hcl j vs[j] (by simp [hj])
      have LT : Hid (les (vs.take (j+1)) = les (vs.take j) ++ le vs[j] 8) := by
        unfold Hid
        rw [List.take_succ_eq_append_getElem hj, les_app]
        simp [les]
      generalize vs[j] = z at *
      clear hcl
      have hlj := les_len (vs.take j)
      have hls : (les (vs.take j)).length ≤ 64 := by simp at hlj; omega
      have hok := Lib.hid Q5.ok
      have HQ := Lib.hid Q5
      clear hlj Q5
      go_wp2_with fail
      refine (rbytesc z 8 8 rfl v0 v1 (by omega) _).mono ?_
      rintro e w6 ⟨⟨v6, rfl, O6⟩, f6⟩
      apply f6.use (k := w.heap.size); (focus (repeat (first | (with_reducible assumption) | ((with_reducible refine heap_alloc_at ?_ _); first | (with_reducible rfl) | (focus (simp; done))) | (with_reducible apply heap_alloc_old) | ((with_reducible apply heap_set_other); (case hne => (first | (with_reducible assumption) | exact Nat.ne_of_lt (by with_reducible assumption) | exact Nat.ne_of_gt (by with_reducible assumption) | (focus (simp +arith; done)) | (simp; done)))) | (with_reducible apply heap_set_eq) | (with_reducible apply heap_drew_of) | (with_reducible apply heap_drewN_of)))); (focus (first | (simp; done) | (simp; assumption))); intro hg9 hc9 hz9 _ _ _ _ _; (try simp only [List.setIfInBounds_toArray, List.set_cons_zero, List.set_cons_succ] at hg9 hc9)
      have F6 := F5.trans f6
      have Q6 := Lib.hid (HQ.out.fr f6 (by simp))
      have T6 := Lib.hid (O6.sl (le_ok 8 z))
      clear f6 O6
      go_wp2_with fail
      refine (rjoin _ _ ([16] ++ le id 2 ++ [c] ++ les (vs.take j)) (le z 8) (by simp [L2.out]; omega) (by simp [le_len]) _ Q6.out T6.out).mono ?_
      rintro e w7 ⟨⟨v7, rfl, O7⟩, f7⟩
      apply f7.use (k := w.heap.size); (focus (repeat (first | (with_reducible assumption) | ((with_reducible refine heap_alloc_at ?_ _); first | (with_reducible rfl) | (focus (simp; done))) | (with_reducible apply heap_alloc_old) | ((with_reducible apply heap_set_other); (case hne => (first | (with_reducible assumption) | exact Nat.ne_of_lt (by with_reducible assumption) | exact Nat.ne_of_gt (by with_reducible assumption) | (focus (simp +arith; done)) | (simp; done)))) | (with_reducible apply heap_set_eq) | (with_reducible apply heap_drew_of) | (with_reducible apply heap_drewN_of)))); (focus (first | (simp; done) | (simp; assumption))); intro hg10 hc10 hz10 _ _ _ _ _; (try simp only [List.setIfInBounds_toArray, List.set_cons_zero, List.set_cons_succ] at hg10 hc10)
      go_wp2
      go_roundw
      case rel => exact ⟨j + 1, by go_num, by omega, by rw [LT.out, ← List.append_assoc]; exact O7.sl (hok.out.app (le_ok 8 z)), F6.trans f7, hg10⟩
      case measure => simp [intOf]; omega
    · have hj' : j = vs.length := by omega
      subst hj'
      rw [List.take_length] at Q5
      have hls : (les vs).length = 8 * vs.length := les_len vs
      obtain ⟨w5, rfl⟩ : ∃ x, x = wr := ⟨_, rfl⟩
      (try dsimp only); have HB5 := Lib.hid (SlB.ok Q5); have hl5 : ([16] ++ le id 2 ++ [c] ++ les vs).length ≤ 100 := (by (try simp [L2.out]) <;> omega); generalize [16] ++ le id 2 ++ [c] ++ les vs = xs at *; obtain ⟨A5, c5, hv5, N5, m5⟩ := Q5; have S5 : Hid (SlB w5 (.slice A5 xs.length c5) xs) := ⟨A5, c5, rfl, N5, m5⟩; clear N5 m5; have hl5' : (xs.length : Int) ≤ 100 := (by omega); go_wp2_with fail; refine (rjoin _ _ [(xs.length : Int)] xs (by simp) (by omega) _ ((OwnB.lit (base := 0) [(xs.length : Int)] (by (apply heap_eq_of; (focus (repeat (first | (with_reducible assumption) | ((with_reducible refine heap_alloc_at ?_ _); first | (with_reducible rfl) | (focus (simp; done))) | (with_reducible apply heap_alloc_old) | ((with_reducible apply heap_set_other); (case hne => (first | (with_reducible assumption) | exact Nat.ne_of_lt (by with_reducible assumption) | exact Nat.ne_of_gt (by with_reducible assumption) | (focus (simp +arith; done)) | (simp; done)))) | (with_reducible apply heap_set_eq) | (with_reducible apply heap_drew_of) | (with_reducible apply heap_drewN_of)))); (focus (first | (simp; done) | rfl)))) (by omega) (by simp) 1 rfl).sl (fun v hv => by simp at hv; omega)) (SlB.fr (S := []) S5.out (by repeat' (first | (with_reducible exact Fr.refl _ _) | (with_reducible assumption) | (with_reducible refine Fr.drew ?_) | (with_reducible refine Fr.drewN ?_ _) | (with_reducible refine Fr.alloc ?_ _) | ((with_reducible refine Fr.setNew ?_ _ ?_ _); rotate_left; (focus (first | (with_reducible assumption) | exact Nat.le_of_lt (by with_reducible assumption) | (focus (simp +arith; done)) | exact Nat.le_trans (by with_reducible assumption) (by simp +arith; done) | (simp; done)))) | ((with_reducible refine Fr.setOld ?_ _ ?_ _); rotate_left; (focus (simp; done))))) (by simp))).mono ?_; rintro e w6 ⟨⟨v6, rfl, O6⟩, f6⟩; have z5 := F5.size; have F6 : Fr [] w w6 := Fr.trans' (S := []) (by repeat' (first | (with_reducible exact Fr.refl _ _) | (with_reducible assumption) | (with_reducible refine Fr.drew ?_) | (with_reducible refine Fr.drewN ?_ _) | (with_reducible refine Fr.alloc ?_ _) | ((with_reducible refine Fr.setNew ?_ _ ?_ _); rotate_left; (focus (first | (with_reducible assumption) | exact Nat.le_of_lt (by with_reducible assumption) | (focus (simp +arith; done)) | exact Nat.le_trans (by with_reducible assumption) (by simp +arith; done) | (simp; done)))) | ((with_reducible refine Fr.setOld ?_ _ ?_ _); rotate_left; (focus (simp; done))))) f6 (by simp); go_wp2_with fail; refine bodyPost_ret (v := .tuple #[v6, .int .i64 0]) (by simp [results, Tryd.results15, Tryd.results17, go_sem, *]) rfl ⟨Or.inr ⟨v6, _, rfl, rfl, by rw [HP.out, recB_small (by omega)]; exact O6.mono (by simp; omega)⟩, F6⟩

theorem wputans (id c : Int) (A : Option Addr) (vc : Nat) (vs : List Int) (hv : vs.length ≤ 1000000) (w : World) (hV : ValsAt w A vs) :
    Calls Tryd.prog 16 #[anv id c A vs.length vc] w fun e w' => RowCode (ansS id c vs) w e w' := by
  unfold ansS
  split
  · exact wputans_ok id c A vc vs ‹_› w hV
  · exact wputans_no id c A vc vs.length hv ‹_› w
theorem rputans (id c : Int) (A : Option Addr) (vc : Nat) (vs : List Int) (hv : vs.length ≤ 1000000) (w : World) (hV : ValsAt w A vs) :
    Calls Tryd.prog 17 #[anv id c A vs.length vc] w fun e w' => RowCode (ansS id c vs) w e w' := by
  unfold ansS
  split
  · exact rputans_ok id c A vc vs ‹_› w hV
  · exact rputans_no id c A vc vs.length hv ‹_› w

end Go.Proofs.YtoebfpimojkamaaDoor
