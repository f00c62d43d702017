/- WireShort answers true at every operation, cut and byte, and changes nothing that was there. -/
import Derived.Test.YtoebfpimojkamaaDoorWireReadsWalk
import Derived.Test.YtoebfpimojkamaaDoorReg6
namespace Go.Proofs.YtoebfpimojkamaaDoor
open Go.RowKit

/-- A row of the call's own that is at a place till another one is done. -/
def Till (base j p : Nat) (lp : List Int) (b : Nat → Bool) (V : Nat → Value) (w : World) : Prop := b j = false → b p = true → OwnB w base (V p) lp
theorem Till.keep {base j p k : Nat} {lp : List Int} {b : Nat → Bool} {V V' : Nat → Value} {w w' : World} (h : Till base j p lp b V w) (hk : k ≠ j ∧ k ≠ p) (hV : V' p = V p) (f : Fr [] w w') : Till base j p lp (updD b k) V' w' := by
  intro h1 h2
  rw [dD_ne hk.1.symm] at h1
  rw [dD_ne hk.2.symm] at h2
  rw [hV]
  exact (h h1 h2).fr f (by simp)
theorem Till.lay {base j p : Nat} {lp : List Int} {b : Nat → Bool} {V : Nat → Value} {w' : World} {v : Value} (h : OwnB w' base v lp) : Till base j p lp (updD b p) (updV V p v) w' := fun _ _ => by rw [dV_eq]; exact h
theorem Till.over {base j p k : Nat} {lp : List Int} {b : Nat → Bool} {V : Nat → Value} {w' : World} (h : updD b k j = true) : Till base j p lp (updD b k) V w' := fun h1 _ => by rw [h] at h1; cases h1

theorem OwnB.keepD {S : List Nat} {w w' : World} {base : Nat} {v : Value} {xs : List Int} (h : OwnB w base v xs) (f : Fr S w w') (hS : ∀ x ∈ v.ownBlock.toList, x ∉ S) : OwnB w' base v xs := by
  refine ⟨h.1, ?_⟩
  rcases h.2 with q | ⟨g, cap, cur, q1, q2, q3, q4⟩
  · exact Or.inl q
  · exact Or.inr ⟨g, cap, cur, q1, q2, f.heap q3 (hS g (by rw [q1]; simp [Value.ownBlock])), q4⟩
theorem OwnB.ltB {w : World} {base : Nat} {v : Value} {xs : List Int} (h : OwnB w base v xs) : ∀ x ∈ v.ownBlock.toList, x < w.heap.size := by
  rcases h.2 with ⟨rfl, _⟩ | ⟨g, cap, cur, rfl, q2, q3, q4⟩
  · simp [Value.ownBlock]
  · intro x hx
    simp [Value.ownBlock] at hx
    subst hx
    exact lt_of_heap q3
/-- Two rows of the call's own, at two places, lie apart. -/
def ApartV (i j : Nat) (b : Nat → Bool) (V : Nat → Value) (w : World) : Prop := (b i = true → ∀ x ∈ (V i).ownBlock.toList, x < w.heap.size) ∧ (b j = true → ∀ x ∈ (V j).ownBlock.toList, x < w.heap.size) ∧ (b i = true → b j = true → ∀ x ∈ (V i).ownBlock.toList, x ∉ (V j).ownBlock.toList)
theorem ApartV.keep {i j k : Nat} {b : Nat → Bool} {V V' : Nat → Value} {w w' : World} (h : ApartV i j b V w) (hk : k ≠ i ∧ k ≠ j) (hi : V' i = V i) (hj : V' j = V j) (hz : w.heap.size ≤ w'.heap.size) : ApartV i j (updD b k) V' w' := by
  obtain ⟨h1, h2, h3⟩ := h
  unfold ApartV
  rw [dD_ne hk.1.symm, dD_ne hk.2.symm, hi, hj]
  exact ⟨fun hb x hx => Nat.lt_of_lt_of_le (h1 hb x hx) hz, fun hb x hx => Nat.lt_of_lt_of_le (h2 hb x hx) hz, h3⟩
theorem ApartV.left {i j : Nat} {b : Nat → Bool} {V : Nat → Value} {w w' : World} {v : Value} (h : ApartV i j b V w) (hij : i ≠ j) (hv : ∀ x ∈ v.ownBlock.toList, w.heap.size ≤ x ∧ x < w'.heap.size) (hz : w.heap.size ≤ w'.heap.size) : ApartV i j (updD b i) (updV V i v) w' := by
  obtain ⟨h1, h2, h3⟩ := h
  unfold ApartV
  rw [dD_ne hij.symm, dV_eq, dV_ne hij.symm]
  exact ⟨fun _ x hx => (hv x hx).2, fun hb x hx => Nat.lt_of_lt_of_le (h2 hb x hx) hz, fun _ hb x hx hy => by have := h2 hb x hy; have := (hv x hx).1; omega⟩
theorem ApartV.right {i j : Nat} {b : Nat → Bool} {V : Nat → Value} {w w' : World} {v : Value} (h : ApartV i j b V w) (hij : i ≠ j) (hv : ∀ x ∈ v.ownBlock.toList, w.heap.size ≤ x ∧ x < w'.heap.size) (hz : w.heap.size ≤ w'.heap.size) : ApartV i j (updD b j) (updV V j v) w' := by
  obtain ⟨h1, h2, h3⟩ := h
  unfold ApartV
  rw [dD_ne hij, dV_eq, dV_ne hij]
  exact ⟨fun hb x hx => Nat.lt_of_lt_of_le (h1 hb x hx) hz, fun _ x hx => (hv x hx).2, fun hb _ x hx hy => by have := h1 hb x hx; have := (hv x hy).1; omega⟩
theorem CatS.own' {w0 w' : World} {base j ap q : Nat} {lj lm : List Int} {b : Nat → Bool} {V : Nat → Value} {v : Value} {w : World} (h : CatS w0 base [] j ap q lj lm b V w) (hk : j ≠ ap ∧ j ≠ q) (hb : b j = false) (f : Fr [] w0 w') (hs : OwnB w' base v lj) : CatS w0 base [] j ap q lj lm (updD b j) (updV V j v) w' := by
  have hap := h.at_ hb
  refine ⟨f, fun _ => ⟨by simp, fun _ => by rw [dV_eq]; exact hs⟩, fun ha => ?_, fun _ => dD_eq _ _, fun hq => ?_⟩
  · rw [dD_ne hk.1.symm, hap] at ha; cases ha
  · rw [dD_ne hk.2.symm] at hq
    rw [(h.asg hq).2] at hap; cases hap
/-- What is known in WireShort's region. -/
structure ShS (w0 : World) (base : Nat) (l4 lj lm : List Int) (b : Nat → Bool) (V : Nat → Value) (w : World) : Prop where
  cat : CatS w0 base [] 7 10 11 lj lm b V w
  t4 : Till base 7 4 l4 b V w
  t9 : Till base 10 9 lm b V w
  ap : ApartV 4 9 b V w
theorem ShS.plain {w0 w w' : World} {base k : Nat} {l4 lj lm : List Int} {b : Nat → Bool} {V : Nat → Value} (h : ShS w0 base l4 lj lm b V w) (hk : k ≠ 7 ∧ k ≠ 10 ∧ k ≠ 11 ∧ k ≠ 4 ∧ k ≠ 9) (f : Fr [] w w') : ShS w0 base l4 lj lm (updD b k) V w' := by
  obtain ⟨h1, h2, h3, h4, h5⟩ := hk
  exact ⟨h.cat.plain ⟨⟨h1, h2, h3⟩, by simp⟩ f, h.t4.keep ⟨h1, h4⟩ rfl f, h.t9.keep ⟨h2, h5⟩ rfl f, h.ap.keep ⟨h4, h5⟩ rfl rfl f.size⟩

set_option maxRecDepth 100000 in
set_option maxHeartbeats 16000000 in
theorem wireShort_walk (g : Addr) (x : OpD) (A : Option Addr) (ca : Nat) (at_ more : Int) (a0 : 0 ≤ at_) (a1 : at_ ≤ 255) (m0 : 0 ≤ more) (m1 : more ≤ 255) (hvm : x.vs.length ≤ maxLen) (w : World) (hv : ValsAt w A x.vs) (hG : Gl w g) :
    Calls Tryd.prog 4 #[opv x.k x.id x.f x.c A x.vs.length ca x.wl, .int .u8 at_, .int .u8 more] w fun e w' => e = .returned (.bool true) ∧ Fr [] w w' := by
  have hvm' : (x.vs.length : Int) ≤ 9223372036854775807 := by simp [maxLen] at hvm; omega
  have fol : Tryd.prog.follows .mixedOrders = true := by kernel_rfl
  have HG := Lib.hid hG
  have HV := Lib.hid hv
  clear hvm hG hv
  go_enter Tryd.func4, Tryd.ntmps4
  go_wp2_with fail
  refine (wawake g _ (Gl.fr (S := []) HG.out (by repeat' (first | (with_reducible exact Fr.refl _ _) | (with_reducible assumption) | (with_reducible refine Fr.drew ?_) | (with_reducible refine Fr.drewN ?_ _) | (with_reducible refine Fr.alloc ?_ _) | ((with_reducible refine Fr.setNew ?_ _ ?_ _); rotate_left; (focus (first | (with_reducible assumption) | exact Nat.le_of_lt (by with_reducible assumption) | (focus (simp +arith; done)) | exact Nat.le_trans (by with_reducible assumption) (by simp +arith; done) | (simp; done)))) | ((with_reducible refine Fr.setOld ?_ _ ?_ _); rotate_left; (focus (simp; done))))) (by simp))).mono ?_
  rintro e w1 ⟨rfl, f1⟩
  apply f1.use (k := w.heap.size); (focus (repeat (first | (with_reducible assumption) | ((with_reducible refine heap_alloc_at ?_ _); first | (with_reducible rfl) | (focus (simp; done))) | (with_reducible apply heap_alloc_old) | ((with_reducible apply heap_set_other); (case hne => (first | (with_reducible assumption) | exact Nat.ne_of_lt (by with_reducible assumption) | exact Nat.ne_of_gt (by with_reducible assumption) | (focus (simp +arith; done)) | (simp; done)))) | (with_reducible apply heap_set_eq) | (with_reducible apply heap_drew_of) | (with_reducible apply heap_drewN_of)))); (focus (first | (simp; done) | (simp; assumption))); intro hg1 hc1 hz1 _ _ _ _ _; (try simp only [List.setIfInBounds_toArray, List.set_cons_zero, List.set_cons_succ] at hg1 hc1)
  have F1 : Fr [] w w1 := Fr.trans (S := []) (by repeat' (first | (with_reducible exact Fr.refl _ _) | (with_reducible assumption) | (with_reducible refine Fr.drew ?_) | (with_reducible refine Fr.drewN ?_ _) | (with_reducible refine Fr.alloc ?_ _) | ((with_reducible refine Fr.setNew ?_ _ ?_ _); rotate_left; (focus (first | (with_reducible assumption) | exact Nat.le_of_lt (by with_reducible assumption) | (focus (simp +arith; done)) | exact Nat.le_trans (by with_reducible assumption) (by simp +arith; done) | (simp; done)))) | ((with_reducible refine Fr.setOld ?_ _ ?_ _); rotate_left; (focus (simp; done))))) f1
  clear f1
  by_cases h1 : x.vs.length ≤ 100
  · have h1' : ¬ 100 < (x.vs.length : Int) := by omega
    go_wp2_with fail
    refine (wputop x.k x.id x.f x.c A ca x.vs x.wl (by omega) _ (HV.out.fr F1)).mono ?_
    rintro e w2 h2
    obtain ⟨v2, rfl, S2⟩ := h2.sl (fun ys h => (putS_bytes h).1)
    have F2 := F1.trans h2.fr
    clear h2
    cases hX : putS x.k x.id x.f x.c x.vs x.wl with
    | none =>
      simp only [codeOf]
      clear hX S2
      go_wp2_with fail
      go_ret
      exact ⟨rfl, F2⟩
    | some ys =>
      rw [hX] at S2
      have HX : Hid (putO x = some ys) := hX
      obtain ⟨hc, he, hl⟩ := tail_len HX.out
      rw [recB_small (by omega)] at he
      have hpos : 0 < (putTail x.k x.id x.f x.c x.vs x.wl).length := by
        unfold putTail
        split
        · simp
        · split
          · simp
          · split
            · simp
            · split <;> simp
      generalize putTail x.k x.id x.f x.c x.vs x.wl = r at *
      subst he
      have HR := Lib.hid HX.out
      have hm := readS_more HR.out more
      have HM := Lib.hid hm
      have hcut := readS_cut HR.out
      have HC := Lib.hid hcut
      have hrok : byteOk r := fun v hv => (putO_bytes HR.out).1 v (by simp [hv])
      have HRO := Lib.hid hrok
      have hl' : (r.length : Int) ≤ 69 := by omega
      have hp' : 0 < (r.length : Int) := by omega
      simp only [codeOf]
      simp only [Option.getD_some] at S2
      clear hX HX hc hm hcut hrok
      have HS2 := Lib.hid S2
      obtain ⟨A2, c2, rfl, N2, m2⟩ := S2
      have HN2 := Lib.hid N2
      rcases N2 with hz | ⟨b, off, rfl, hb, hcl⟩
      · cases hz
      obtain ⟨q0, _, _⟩ := hcl 0 _ rfl
      simp only [Nat.add_zero] at q0
      simp only [List.length_cons] at m2 ⊢
      clear hcl
      obtain ⟨k, hk, hkl⟩ : ∃ k : Nat, at_ % ((r.length : Int) + 1) = k ∧ k < r.length + 1 := by
        have h0 := Int.emod_nonneg at_ (b := (r.length : Int) + 1) (by omega)
        have h1 := Int.emod_lt_of_pos at_ (b := (r.length : Int) + 1) (by omega)
        exact ⟨(at_ % ((r.length : Int) + 1)).toNat, by omega, by omega⟩
      have hne : ((r.length : Int) + 1 - 1) = r.length := by omega
      go_wp2_with fail
      have HK : Hid (k = (((r.length : Int) :: r).take k).length) := by unfold Hid; simp; omega
      have T2 : Hid (SlB w2 (.slice (some ⟨b, off, none⟩) k c2) (((r.length : Int) :: r).take k)) := ⟨_, c2, by rw [← HK.out], HN2.out.take k, by rw [← HK.out]; omega⟩
      have T3 : Hid (SlB w2 (.slice (some ⟨b, off + 1, none⟩) r.length (c2 - 1)) r) := ⟨_, c2 - 1, rfl, by have := HN2.out.drop 1; simpa [Addr.add] using this, by omega⟩
      have q0' := Lib.hid q0
      refine (wreadv _ _ g (by rw [← HK.out]; omega) _ T2.out (Gl.fr HG.out F2 (by simp))).mono ?_
      rintro e w3 ⟨⟨hr, rfl⟩ | ⟨o3, rest3, A3, c3, R3, hr, rfl, V3, O3, _⟩, f3⟩
      rotate_left
      · rw [HC.out k (by simp; omega)] at hr; cases hr
      clear hr
      have F3 := F2.trans f3
      have q3 := (f3.cell hb).trans q0
      have hb3 : b < w3.heap.size := Nat.lt_of_lt_of_le hb f3.size
      have T3 := Lib.hid (T3.out.fr f3 (by simp))
      clear q0 T2 f3
      go_wp2_with fail
      refine wp_name (fun w4 f4 => ?_)
      have f4' : Fr [] w3 w4 := Fr.trans (S := []) (by repeat' (first | (with_reducible exact Fr.refl _ _) | (with_reducible assumption) | (with_reducible refine Fr.drew ?_) | (with_reducible refine Fr.drewN ?_ _) | (with_reducible refine Fr.alloc ?_ _) | ((with_reducible refine Fr.setNew ?_ _ ?_ _); rotate_left; (focus (first | (with_reducible assumption) | exact Nat.le_of_lt (by with_reducible assumption) | (focus (simp +arith; done)) | exact Nat.le_trans (by with_reducible assumption) (by simp +arith; done) | (simp; done)))) | ((with_reducible refine Fr.setOld ?_ _ ?_ _); rotate_left; (focus (simp; done))))) f4
      have F4 := F3.trans f4'
      have q4 := (f4'.cell hb3).trans q3
      have hb4 : b < w4.heap.size := Nat.lt_of_lt_of_le hb3 f4'.size
      have T3 := Lib.hid (T3.out.fr f4' (by simp))
      clear f4 f4' q3 hk
      refine wp_region_seqV_lit (ShS w4 w4.heap.size [(r.length : Int) + 1] (((r.length : Int) + 1) :: r) [more]) fol (by kernel_rfl) ⟨CatS.start, (fun _ h => by cases h), (fun _ h => by cases h), ⟨(fun h => by cases h), (fun h => by cases h), (fun h => by cases h)⟩⟩ ?_
      apply SeqV.cons; (focus (intro Vv bv wv hbv hdv hSv; go_wp2_with fail; exact StepPost.mk rfl (hSv.plain (by simp) (by repeat' (first | (with_reducible exact Fr.refl _ _) | (with_reducible assumption) | (with_reducible refine Fr.drew ?_) | (with_reducible refine Fr.drewN ?_ _) | (with_reducible refine Fr.alloc ?_ _) | ((with_reducible refine Fr.setNew ?_ _ ?_ _); rotate_left; (focus (first | (with_reducible assumption) | exact Nat.le_of_lt (by with_reducible assumption) | (focus (simp +arith; done)) | exact Nat.le_trans (by with_reducible assumption) (by simp +arith; done) | (simp; done)))) | ((with_reducible refine Fr.setOld ?_ _ ?_ _); rotate_left; (focus (simp; done)))))))); (try simp only [Act.put, List.setIfInBounds_toArray, List.set_cons_zero, List.set_cons_succ, Nat.reduceAdd, Nat.zero_add])
      apply SeqV.cons; (focus (intro Vv bv wv hbv hdv hSv; go_wp2_with fail; exact StepPost.mk rfl (hSv.plain (by simp) (by repeat' (first | (with_reducible exact Fr.refl _ _) | (with_reducible assumption) | (with_reducible refine Fr.drew ?_) | (with_reducible refine Fr.drewN ?_ _) | (with_reducible refine Fr.alloc ?_ _) | ((with_reducible refine Fr.setNew ?_ _ ?_ _); rotate_left; (focus (first | (with_reducible assumption) | exact Nat.le_of_lt (by with_reducible assumption) | (focus (simp +arith; done)) | exact Nat.le_trans (by with_reducible assumption) (by simp +arith; done) | (simp; done)))) | ((with_reducible refine Fr.setOld ?_ _ ?_ _); rotate_left; (focus (simp; done)))))))); (try simp only [Act.put, List.setIfInBounds_toArray, List.set_cons_zero, List.set_cons_succ, Nat.reduceAdd, Nat.zero_add])
      apply SeqV.cons; (focus (intro Vv bv wv hbv hdv hSv; have q5 := (hSv.cat.fr.cell hb4).trans q4; go_wp2_with fail; exact StepPost.mk rfl (hSv.plain (by simp) (by repeat' (first | (with_reducible exact Fr.refl _ _) | (with_reducible assumption) | (with_reducible refine Fr.drew ?_) | (with_reducible refine Fr.drewN ?_ _) | (with_reducible refine Fr.alloc ?_ _) | ((with_reducible refine Fr.setNew ?_ _ ?_ _); rotate_left; (focus (first | (with_reducible assumption) | exact Nat.le_of_lt (by with_reducible assumption) | (focus (simp +arith; done)) | exact Nat.le_trans (by with_reducible assumption) (by simp +arith; done) | (simp; done)))) | ((with_reducible refine Fr.setOld ?_ _ ?_ _); rotate_left; (focus (simp; done)))))))); (try simp only [Act.put, List.setIfInBounds_toArray, List.set_cons_zero, List.set_cons_succ, Nat.reduceAdd, Nat.zero_add])
      apply SeqV.cons; (focus (intro Vv bv wv hbv hdv hSv; go_wp2_with fail; exact StepPost.mk rfl (hSv.plain (by simp) (by repeat' (first | (with_reducible exact Fr.refl _ _) | (with_reducible assumption) | (with_reducible refine Fr.drew ?_) | (with_reducible refine Fr.drewN ?_ _) | (with_reducible refine Fr.alloc ?_ _) | ((with_reducible refine Fr.setNew ?_ _ ?_ _); rotate_left; (focus (first | (with_reducible assumption) | exact Nat.le_of_lt (by with_reducible assumption) | (focus (simp +arith; done)) | exact Nat.le_trans (by with_reducible assumption) (by simp +arith; done) | (simp; done)))) | ((with_reducible refine Fr.setOld ?_ _ ?_ _); rotate_left; (focus (simp; done)))))))); (try simp only [Act.put, List.setIfInBounds_toArray, List.set_cons_zero, List.set_cons_succ, Nat.reduceAdd, Nat.zero_add])
      apply SeqV.var
      focus
        intro Vv bv wv hbv hdv hSv
        have z := hSv.cat.fr.size
        go_wp2_with fail
        have O : OwnB (wv.alloc (.cells #[.int .u8 ((r.length : Int) + 1)] 5)) w4.heap.size (.slice (some ⟨wv.heap.size, 0, none⟩) 1 1) [(r.length : Int) + 1] := OwnB.lit [(r.length : Int) + 1] (by (apply heap_eq_of; (focus (repeat (first | (with_reducible assumption) | ((with_reducible refine heap_alloc_at ?_ _); first | (with_reducible rfl) | (focus (simp; done))) | (with_reducible apply heap_alloc_old) | ((with_reducible apply heap_set_other); (case hne => (first | (with_reducible assumption) | exact Nat.ne_of_lt (by with_reducible assumption) | exact Nat.ne_of_gt (by with_reducible assumption) | (focus (simp +arith; done)) | (simp; done)))) | (with_reducible apply heap_set_eq) | (with_reducible apply heap_drew_of) | (with_reducible apply heap_drewN_of)))); (focus (first | (simp; done) | rfl)))) z (by simp) 1 rfl
        exact StepV.mk _ rfl ⟨hSv.cat.sl (k := 4) [(r.length : Int) + 1] (by simp) (by repeat' (first | (with_reducible exact Fr.refl _ _) | (with_reducible assumption) | (with_reducible refine Fr.drew ?_) | (with_reducible refine Fr.drewN ?_ _) | (with_reducible refine Fr.alloc ?_ _) | ((with_reducible refine Fr.setNew ?_ _ ?_ _); rotate_left; (focus (first | (with_reducible assumption) | exact Nat.le_of_lt (by with_reducible assumption) | (focus (simp +arith; done)) | exact Nat.le_trans (by with_reducible assumption) (by simp +arith; done) | (simp; done)))) | ((with_reducible refine Fr.setOld ?_ _ ?_ _); rotate_left; (focus (simp; done))))) (O.sl (fun v hv => by simp at hv; omega)), Till.lay O, hSv.t9.keep (by simp) (dV_ne (by simp)) (by repeat' (first | (with_reducible exact Fr.refl _ _) | (with_reducible assumption) | (with_reducible refine Fr.drew ?_) | (with_reducible refine Fr.drewN ?_ _) | (with_reducible refine Fr.alloc ?_ _) | ((with_reducible refine Fr.setNew ?_ _ ?_ _); rotate_left; (focus (first | (with_reducible assumption) | exact Nat.le_of_lt (by with_reducible assumption) | (focus (simp +arith; done)) | exact Nat.le_trans (by with_reducible assumption) (by simp +arith; done) | (simp; done)))) | ((with_reducible refine Fr.setOld ?_ _ ?_ _); rotate_left; (focus (simp; done))))), hSv.ap.left (by decide) (fun x hx => by simp [Value.ownBlock] at hx; subst hx; simp) (by simp)⟩
      (try simp only [Act.put, List.setIfInBounds_toArray, List.set_cons_zero, List.set_cons_succ, Nat.reduceAdd, Nat.zero_add])
      apply SeqV.cons; (focus (intro Vv bv wv hbv hdv hSv; go_wp2_with fail; exact StepPost.mk rfl (hSv.plain (by simp) (by repeat' (first | (with_reducible exact Fr.refl _ _) | (with_reducible assumption) | (with_reducible refine Fr.drew ?_) | (with_reducible refine Fr.drewN ?_ _) | (with_reducible refine Fr.alloc ?_ _) | ((with_reducible refine Fr.setNew ?_ _ ?_ _); rotate_left; (focus (first | (with_reducible assumption) | exact Nat.le_of_lt (by with_reducible assumption) | (focus (simp +arith; done)) | exact Nat.le_trans (by with_reducible assumption) (by simp +arith; done) | (simp; done)))) | ((with_reducible refine Fr.setOld ?_ _ ?_ _); rotate_left; (focus (simp; done)))))))); (try simp only [Act.put, List.setIfInBounds_toArray, List.set_cons_zero, List.set_cons_succ, Nat.reduceAdd, Nat.zero_add])
      apply SeqV.cons; (focus (intro Vv bv wv hbv hdv hSv; go_wp2_with fail; exact StepPost.mk rfl (hSv.plain (by simp) (by repeat' (first | (with_reducible exact Fr.refl _ _) | (with_reducible assumption) | (with_reducible refine Fr.drew ?_) | (with_reducible refine Fr.drewN ?_ _) | (with_reducible refine Fr.alloc ?_ _) | ((with_reducible refine Fr.setNew ?_ _ ?_ _); rotate_left; (focus (first | (with_reducible assumption) | exact Nat.le_of_lt (by with_reducible assumption) | (focus (simp +arith; done)) | exact Nat.le_trans (by with_reducible assumption) (by simp +arith; done) | (simp; done)))) | ((with_reducible refine Fr.setOld ?_ _ ?_ _); rotate_left; (focus (simp; done)))))))); (try simp only [Act.put, List.setIfInBounds_toArray, List.set_cons_zero, List.set_cons_succ, Nat.reduceAdd, Nat.zero_add])
      apply SeqV.var
      focus
        intro Vv bv wv hbv hdv hSv
        have z := hSv.cat.fr.size
        have h4 := hdv { on := 4, ground := .data } (by simp) rfl
        have O := hSv.t4 hbv h4
        go_wp2_with (at_builtin; refine wpList_appS _ rfl (.tmp 60) (.tmp 62) rfl rfl w4.heap.size _ _ rfl O _ r rfl (T3.out.fr hSv.cat.fr (by simp)) (by simp; omega) z ?_; intro v1 wq O1 G1 U1)
        refine StepV.mk _ rfl ⟨hSv.cat.own' (by decide) hbv (hSv.cat.fr.trans' G1 (fun x hx => Or.inr (own_ge O x hx))) O1, Till.over (dD_eq _ _), ?_, hSv.ap.keep (by decide) (dV_ne (by decide)) (dV_ne (by decide)) G1.size⟩
        intro h10 h9
        rw [dD_ne (by decide)] at h10 h9
        rw [dV_ne (by decide)]
        exact (hSv.t9 h10 h9).keepD G1 (fun x hx hm => hSv.ap.2.2 h4 h9 x hm hx)
      (try simp only [Act.put, List.setIfInBounds_toArray, List.set_cons_zero, List.set_cons_succ, Nat.reduceAdd, Nat.zero_add])
      apply SeqV.cons; (focus (intro Vv bv wv hbv hdv hSv; go_wp2_with fail; exact StepPost.mk rfl (hSv.plain (by simp) (by repeat' (first | (with_reducible exact Fr.refl _ _) | (with_reducible assumption) | (with_reducible refine Fr.drew ?_) | (with_reducible refine Fr.drewN ?_ _) | (with_reducible refine Fr.alloc ?_ _) | ((with_reducible refine Fr.setNew ?_ _ ?_ _); rotate_left; (focus (first | (with_reducible assumption) | exact Nat.le_of_lt (by with_reducible assumption) | (focus (simp +arith; done)) | exact Nat.le_trans (by with_reducible assumption) (by simp +arith; done) | (simp; done)))) | ((with_reducible refine Fr.setOld ?_ _ ?_ _); rotate_left; (focus (simp; done)))))))); (try simp only [Act.put, List.setIfInBounds_toArray, List.set_cons_zero, List.set_cons_succ, Nat.reduceAdd, Nat.zero_add])
      apply SeqV.var
      focus
        intro Vv bv wv hbv hdv hSv
        have z := hSv.cat.fr.size
        go_wp2_with fail
        have O : OwnB (wv.alloc (.cells #[.int .u8 (more)] 5)) w4.heap.size (.slice (some ⟨wv.heap.size, 0, none⟩) 1 1) [more] := OwnB.lit [more] (by (apply heap_eq_of; (focus (repeat (first | (with_reducible assumption) | ((with_reducible refine heap_alloc_at ?_ _); first | (with_reducible rfl) | (focus (simp; done))) | (with_reducible apply heap_alloc_old) | ((with_reducible apply heap_set_other); (case hne => (first | (with_reducible assumption) | exact Nat.ne_of_lt (by with_reducible assumption) | exact Nat.ne_of_gt (by with_reducible assumption) | (focus (simp +arith; done)) | (simp; done)))) | (with_reducible apply heap_set_eq) | (with_reducible apply heap_drew_of) | (with_reducible apply heap_drewN_of)))); (focus (first | (simp; done) | rfl)))) z (by simp) 1 rfl
        exact StepV.mk _ rfl ⟨hSv.cat.sl (k := 9) [more] (by simp) (by repeat' (first | (with_reducible exact Fr.refl _ _) | (with_reducible assumption) | (with_reducible refine Fr.drew ?_) | (with_reducible refine Fr.drewN ?_ _) | (with_reducible refine Fr.alloc ?_ _) | ((with_reducible refine Fr.setNew ?_ _ ?_ _); rotate_left; (focus (first | (with_reducible assumption) | exact Nat.le_of_lt (by with_reducible assumption) | (focus (simp +arith; done)) | exact Nat.le_trans (by with_reducible assumption) (by simp +arith; done) | (simp; done)))) | ((with_reducible refine Fr.setOld ?_ _ ?_ _); rotate_left; (focus (simp; done))))) (O.sl (fun v hv => by simp at hv; omega)), hSv.t4.keep (by simp) (dV_ne (by simp)) (by repeat' (first | (with_reducible exact Fr.refl _ _) | (with_reducible assumption) | (with_reducible refine Fr.drew ?_) | (with_reducible refine Fr.drewN ?_ _) | (with_reducible refine Fr.alloc ?_ _) | ((with_reducible refine Fr.setNew ?_ _ ?_ _); rotate_left; (focus (first | (with_reducible assumption) | exact Nat.le_of_lt (by with_reducible assumption) | (focus (simp +arith; done)) | exact Nat.le_trans (by with_reducible assumption) (by simp +arith; done) | (simp; done)))) | ((with_reducible refine Fr.setOld ?_ _ ?_ _); rotate_left; (focus (simp; done))))), Till.lay O, hSv.ap.right (by decide) (fun x hx => by simp [Value.ownBlock] at hx; subst hx; simp) (by simp)⟩
      (try simp only [Act.put, List.setIfInBounds_toArray, List.set_cons_zero, List.set_cons_succ, Nat.reduceAdd, Nat.zero_add])
      apply SeqV.var
      focus
        intro Vv bv wv hbv hdv hSv
        have z := hSv.cat.fr.size
        have h7 := hdv { on := 7, ground := .data } (by simp) rfl
        have O := (hSv.cat.pre hbv).2 h7
        have O9 := (hSv.t9 hbv (hdv { on := 9, ground := .data } (by simp) rfl)).sl (fun v hv => by simp at hv; omega)
        go_wp2_with (at_builtin; refine wpList_appS _ rfl (.tmp 63) (.tmp 65) rfl rfl w4.heap.size _ _ rfl O _ [more] rfl O9 (by simp; omega) z ?_; intro v1 wq O1 G1 U1)
        refine StepV.mk _ rfl ⟨hSv.cat.app (by decide) hbv h7 (hSv.cat.fr.trans' G1 (fun x hx => Or.inr (own_ge O x hx))) O1, Till.over (by rw [dD_ne (by decide)]; exact h7), Till.over (dD_eq _ _), hSv.ap.keep (by decide) (dV_ne (by decide)) (dV_ne (by decide)) G1.size⟩
      (try simp only [Act.put, List.setIfInBounds_toArray, List.set_cons_zero, List.set_cons_succ, Nat.reduceAdd, Nat.zero_add])
      apply SeqV.var
      focus
        intro Vv bv wv hbv hdv hSv
        have h10 := hdv { on := 10, ground := .data } (by simp) rfl
        go_wp2_with fail
        exact StepV.mk _ rfl ⟨hSv.cat.fin (by simp) h10 (by repeat' (first | (with_reducible exact Fr.refl _ _) | (with_reducible assumption) | (with_reducible refine Fr.drew ?_) | (with_reducible refine Fr.drewN ?_ _) | (with_reducible refine Fr.alloc ?_ _) | ((with_reducible refine Fr.setNew ?_ _ ?_ _); rotate_left; (focus (first | (with_reducible assumption) | exact Nat.le_of_lt (by with_reducible assumption) | (focus (simp +arith; done)) | exact Nat.le_trans (by with_reducible assumption) (by simp +arith; done) | (simp; done)))) | ((with_reducible refine Fr.setOld ?_ _ ?_ _); rotate_left; (focus (simp; done))))) rfl, hSv.t4.keep (by simp) (dV_ne (by simp)) (by repeat' (first | (with_reducible exact Fr.refl _ _) | (with_reducible assumption) | (with_reducible refine Fr.drew ?_) | (with_reducible refine Fr.drewN ?_ _) | (with_reducible refine Fr.alloc ?_ _) | ((with_reducible refine Fr.setNew ?_ _ ?_ _); rotate_left; (focus (first | (with_reducible assumption) | exact Nat.le_of_lt (by with_reducible assumption) | (focus (simp +arith; done)) | exact Nat.le_trans (by with_reducible assumption) (by simp +arith; done) | (simp; done)))) | ((with_reducible refine Fr.setOld ?_ _ ?_ _); rotate_left; (focus (simp; done))))), hSv.t9.keep (by simp) (dV_ne (by simp)) (by repeat' (first | (with_reducible exact Fr.refl _ _) | (with_reducible assumption) | (with_reducible refine Fr.drew ?_) | (with_reducible refine Fr.drewN ?_ _) | (with_reducible refine Fr.alloc ?_ _) | ((with_reducible refine Fr.setNew ?_ _ ?_ _); rotate_left; (focus (first | (with_reducible assumption) | exact Nat.le_of_lt (by with_reducible assumption) | (focus (simp +arith; done)) | exact Nat.le_trans (by with_reducible assumption) (by simp +arith; done) | (simp; done)))) | ((with_reducible refine Fr.setOld ?_ _ ?_ _); rotate_left; (focus (simp; done))))), hSv.ap.keep (by simp) (dV_ne (by simp)) (dV_ne (by simp)) (Nat.le_refl _)⟩
      (try simp only [Act.put, List.setIfInBounds_toArray, List.set_cons_zero, List.set_cons_succ, Nat.reduceAdd, Nat.zero_add])
      refine SeqV.nil ?_
      intro Vv bv w5 hb5 hSv
      have O5 := hSv.cat.done (hb5 11 (by decide))
      have F5 : Fr [] w w5 := F4.trans hSv.cat.fr
      have S5 := Lib.hid (O5.sl ((byteOk.cons (by omega) (by omega) HRO.out).app (fun v hv => by simp at hv; omega)))
      clear hSv hb5 O5
      (try dsimp only)
      go_wp2_with fail
      refine (wreadv _ _ g (by simp; omega) _ S5.out (Gl.fr HG.out F5 (by simp))).mono ?_
      rintro e w6 ⟨⟨hr, rfl⟩ | ⟨o3, rest3, A3, c3, R3, hr, rfl, V3, O3, _⟩, f6⟩
      rotate_left
      · rw [List.cons_append, HM.out] at hr; cases hr
      clear hr
      have F6 := F5.trans f6
      go_wp2_with fail
      go_ret
      exact ⟨rfl, (by repeat' (first | (with_reducible exact Fr.refl _ _) | (with_reducible assumption) | (with_reducible refine Fr.drew ?_) | (with_reducible refine Fr.drewN ?_ _) | (with_reducible refine Fr.alloc ?_ _) | ((with_reducible refine Fr.setNew ?_ _ ?_ _); rotate_left; (focus (first | (with_reducible assumption) | exact Nat.le_of_lt (by with_reducible assumption) | (focus (simp +arith; done)) | exact Nat.le_trans (by with_reducible assumption) (by simp +arith; done) | (simp; done)))) | ((with_reducible refine Fr.setOld ?_ _ ?_ _); rotate_left; (focus (simp; done)))))⟩
  · have h1' : 100 < (x.vs.length : Int) := by omega
    clear h1
    go_wp2_with fail
    go_ret
    exact ⟨rfl, F1⟩

theorem wireShort_row (g : Addr) (k id f c : Int) (A : Option Addr) (vs : List Int) (ca : Nat) (wl : Bool) (at_ more : Int)
    (_ : (Lit.int .i64 k).wf = true) (_ : (Lit.int .i64 id).wf = true) (_ : (Lit.int .i64 f).wf = true) (_ : (Lit.int .i64 c).wf = true) (hvm : vs.length ≤ maxLen) (_ : vs.length ≤ ca)
    (ha : (Lit.int .u8 at_).wf = true) (hm : (Lit.int .u8 more).wf = true) (w : World) (hv : ValsAt w A vs) (hG : Gl w g) :
    Calls Tryd.prog 4 #[opv k id f c A vs.length ca wl, .int .u8 at_, .int .u8 more] w fun e w' => e = .returned (.bool true) ∧ Fr [] w w' :=
  wireShort_walk g ⟨k, id, f, c, vs, wl⟩ A ca at_ more (u8_bounds ha).1 (u8_bounds ha).2 (u8_bounds hm).1 (u8_bounds hm).2 hvm w hv hG

end Go.Proofs.YtoebfpimojkamaaDoor
