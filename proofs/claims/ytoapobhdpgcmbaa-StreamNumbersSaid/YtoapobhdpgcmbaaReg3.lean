/- A region whose order is open, whose operations change the world one by one: what holds of the world is told by which of them are done. -/
import Derived.Test.YtoapobhdpgcmbaaReg
namespace Go.Proofs.Ytoapobhdpgcmbaa
open Go.RowKit

/-- The operations one behind the other, from the k-th on; each at every world that meets S of those that are done. -/
def SeqB (P : Program) (ops : Array Oper) (S : (Nat → Bool) → World → Prop) : Nat → List Oper → Act → (Act → Prop) → Prop
  | _, [], a, K => K a
  | k, o :: r, a, K => ∃ v, (∀ b w, b k = false → (∀ e ∈ o.after, bindsAny e = true → b e.on = true) → S b w → wpList P ops (fun e a' w' => e = .normal ∧ a' = a.put o.dst v ∧ S (fun j => if j = k then true else b j) w') [o] a w) ∧ SeqB P ops S (k + 1) r (a.put o.dst v) K

section
variable {P : Program} {ops : Array Oper} {S : (Nat → Bool) → World → Prop}

theorem seqB_vals : ∀ (l : List Oper) (k : Nat) (a : Act) (K : Act → Prop), SeqB P ops S k l a K → ∃ vs : List Value, vs.length = l.length ∧ K (fillL a (l.zip vs)) ∧
    ∀ i o v, l[i]? = some o → vs[i]? = some v → ∀ b w, b (k + i) = false → (∀ e ∈ o.after, bindsAny e = true → b e.on = true) → S b w → wpList P ops (fun e a' w' => e = .normal ∧ a' = (fillL a ((l.zip vs).take i)).put o.dst v ∧ S (fun j => if j = k + i then true else b j) w') [o] (fillL a ((l.zip vs).take i)) w := by
  intro l
  induction l with
  | nil => intro k a K h; exact ⟨[], rfl, h, fun i o v hi => by simp at hi⟩
  | cons o r ih =>
    intro k a K h
    obtain ⟨v, h1, h2⟩ := h
    obtain ⟨vs, hl, hk, hs⟩ := ih _ _ _ h2
    refine ⟨v :: vs, by simp [hl], hk, ?_⟩
    intro i o' v' hi hv
    cases i with
    | zero => simp at hi hv; subst hi hv; exact h1
    | succ i =>
      simp at hi hv
      have := hs i o' v' hi hv
      rw [show k + 1 + i = k + (i + 1) by omega] at this
      exact this

theorem wpOpB_of {Q : Exit → Act → World → Prop} {K : Act → World → Prop} {a a' : Act} {i : Nat} {o : Oper} {v : Value} {w : World} {T : World → Prop} (ho : ops[i]? = some o) (hsz : a.tmps.size = a'.tmps.size)
    (he : execOp a.eval o = execOp a'.eval o ∧ Region.wanted o (yielded ops a.tmps) = Region.wanted o (yielded ops a'.tmps))
    (h : wpList P ops (fun e a'' w' => e = .normal ∧ a'' = a.put o.dst v ∧ T w') [o] a w) (hK : ∀ w', T w' → K (a'.put o.dst v) w') : wpOp P ops Q i K a' w := by
  by_cases hw : Region.wanted o (yielded ops a.tmps) = true
  · by_cases hT : T w
    · exact wpOp_of (S := T) ho hsz he h hT hK
    · unfold wpOp
      rw [ho]
      simp only
      rw [← he.2, if_pos hw]
      unfold wpList at h
      rw [if_pos hw] at h
      have hno : ¬ LetsOut (fun (e : Exit) (a'' : Act) (w' : World) => e = .normal ∧ a'' = a.put o.dst v ∧ T w') := by
        rintro ⟨_, _, h1, _⟩; cases h1
      rcases h with h | ⟨_, h⟩
      case inr => exact (hno h).elim
      refine .inl ?_
      unfold Oper.wp at *
      rw [← he.1]
      generalize (execOp a.eval o).run P w = r at *
      cases r with
      | ok n w' =>
        cases n <;> simp only [Oper.upon, wpList] at h ⊢
        case value u => rw [put_eq_of hsz h.2.1]; exact hK _ h.2.2
        case skip => rw [put_eq_of hsz h.2.1]; exact hK _ h.2.2
        case defer d =>
          have := congrArg (fun (x : Act) => x.defers.length) h.2.1
          simp [put_defers'] at this
        case enter f args =>
          refine Calls.mono h fun e w'' hh => ?_
          cases e with
          | returned u => simp only at hh; show K (a'.put o.dst u) w''; rw [put_eq_of hsz hh.2.1]; exact hK _ hh.2.2
          | panicked c => simp only at hh; cases hh.1
          | outgrown => exact (hno hh).elim
        case row row args => exact Rows.mono h fun u w'' hh => by rw [put_eq_of hsz hh.2.1]; exact hK _ hh.2.2
      | halt x w' =>
        cases x <;> simp only [Oper.upon] at h ⊢
        case panic u => cases h.1
  · have hw' : Region.wanted o (yielded ops a.tmps) = false := by simpa using hw
    have hT : T w := by
      unfold wpList at h
      rw [hw'] at h
      simp only [Bool.false_eq_true, if_false, wpList] at h
      exact h.2.2
    exact wpOp_of (S := T) ho hsz he h hT hK

theorem wp_region_seqB {id : Nat} {Q : Exit → Act → World → Prop} {a0 : Act} {w0 : World} (hm : P.follows .mixedOrders = true) (hok : regOk ops = true) (hS : S (fun _ => false) w0.drew)
    (h : SeqB P ops S 0 ops.toList a0 (fun a => ∀ b w, (∀ j, j < ops.size → b j = true) → S b w → Q .normal a w)) : (Code.region id ops true).wp P Q a0 w0 := by
  obtain ⟨vs, hl, hk, hs⟩ := seqB_vals _ _ _ _ h
  have hl' : vs.length = ops.size := by simpa using hl
  have hn : (dstsOf ops).Nodup := by
    have := hok; simp only [regOk, Bool.and_eq_true] at this; exact of_decide_eq_true this.2
  refine wp_region_any hm ?_
  have key : ∀ fuel (listed : Array Bool) a w, listed.size = ops.size → listed.toList.count false ≤ fuel → SlotsAt ops vs a0 (fun j => listed.getD j false) a → S (fun j => listed.getD j false) w → wpAny P .any ops Q fuel listed a w := by
    intro fuel
    have fin : ∀ (listed : Array Bool) a w, listed.size = ops.size → (∀ j, j < ops.size → listed.getD j false = true) → SlotsAt ops vs a0 (fun j => listed.getD j false) a → S (fun j => listed.getD j false) w → Q .normal a w := by
      intro listed a w hsz hall hsl hSw
      have h2 := slots_fill hn hl' (a0 := a0) ops.size (Nat.le_refl _)
      have ht : (ops.toList.zip vs).take ops.size = ops.toList.zip vs := List.take_of_length_le (by simp [hl'])
      rw [ht] at h2
      have ea : a = fillL a0 (ops.toList.zip vs) := by
        have e1 : a.defers = (fillL a0 (ops.toList.zip vs)).defers := by rw [hsl.1, h2.1]
        have e2 : a.tmps = (fillL a0 (ops.toList.zip vs)).tmps := by
          apply Array.ext_getElem?
          intro t
          by_cases hd : t ∈ dstsOf ops
          · obtain ⟨o, hmem, hdst⟩ := List.mem_filterMap.1 hd
            obtain ⟨j, hj⟩ := List.mem_iff_getElem?.1 hmem
            have hj' : ops[j]? = some o := by simpa using hj
            have hjl : j < ops.size := by
              rcases Nat.lt_or_ge j ops.size with h | h
              · exact h
              · simp [Array.getElem?_eq_none h] at hj'
            have hv : vs[j]? = some (vs[j]'(by omega)) := List.getElem?_eq_getElem (by omega)
            by_cases hts : t < a0.tmps.size
            · rw [hsl.2.2.1 j o t _ hj' hdst hv (hall j hjl) hts, h2.2.2.1 j o t _ hj' hdst hv (by simpa using hjl) hts]
            · rw [Array.getElem?_eq_none (by have := hsl.2.1; omega), Array.getElem?_eq_none (by have := h2.2.1; omega)]
          · have none : ∀ (c : Nat → Bool) j o', ops[j]? = some o' → o'.dst = some t → c j = false := fun c j o' hj hdst => absurd (mem_dsts hj hdst) hd
            rw [hsl.2.2.2 t (none _), h2.2.2.2 t (none _)]
        cases a; cases hf : fillL a0 (ops.toList.zip vs); rw [hf] at e1 e2; simp only at e1 e2; rw [e1, e2]
      rw [ea]; exact hk _ w (fun j hj => hall j hj) hSw
    have allOf : ∀ (listed : Array Bool), listed.size = ops.size → Region.ready .any ops listed = [] → ∀ j, j < ops.size → listed.getD j false = true := by
      intro listed hsz hr j
      induction j using Nat.strongRecOn with
      | _ j ih =>
        intro hj
        cases hb : listed.getD j false with
        | true => rfl
        | false =>
          exfalso
          have ho : ops[j]? = some ops[j] := Array.getElem?_eq_getElem hj
          have : j ∈ Region.ready .any ops listed := by
            unfold Region.ready
            rw [List.mem_filter]
            refine ⟨by simpa using hj, ?_⟩
            have hb2 : listed.getD j true = false := by
              have hj2 : j < listed.size := by omega
              simp [Array.getD, hj2] at hb ⊢; exact hb
            rw [ho, hb2]
            simp only [Option.map_some, Option.getD_some, Bool.not_false, Bool.true_and, Array.all_eq_true']
            intro e he
            cases hbe : Region.binds .any e with
            | false => rfl
            | true =>
              have := (regOk_at hok ho).2.1 e he hbe
              simp [ih e.on this (by omega)]
          rw [hr] at this
          cases this
    induction fuel with
    | zero =>
      intro listed a w hsz hc hsl hSw
      have hnf : false ∉ listed.toList := by
        rw [← List.count_eq_zero]; omega
      have hall : ∀ j, j < ops.size → listed.getD j false = true := by
        intro j hj
        have hj2 : j < listed.size := by omega
        cases hb : listed.getD j false with
        | true => rfl
        | false =>
          exfalso; apply hnf
          simp [Array.getD, hj2] at hb
          rw [← hb]; simp
      refine ⟨?_, fin listed a w hsz hall hsl hSw⟩
      rw [List.eq_nil_iff_forall_not_mem]
      intro i hi
      obtain ⟨h1, h2, _⟩ := ready_mem hi
      have h3 := hall i h1
      have hj2 : i < listed.size := by omega
      simp [Array.getD, hj2] at h2 h3
      rw [h2] at h3; cases h3
    | succ fuel ih =>
      intro listed a w hsz hc hsl hSw
      refine ⟨fun hr => fin listed a w hsz (allOf listed hsz hr) hsl hSw, fun i hi => ?_⟩
      obtain ⟨h1, h2, h3⟩ := ready_mem hi
      have ho : ops[i]? = some ops[i] := Array.getElem?_eq_getElem h1
      have hv : vs[i]? = some (vs[i]'(by omega)) := List.getElem?_eq_getElem (by omega)
      have hpre := slots_fill hn hl' (a0 := a0) i (by omega)
      have hsee := exec_same (regOk_at hok ho).1 (sees hok ho hl' hpre hsl (fun e he hb => by simpa using (regOk_at hok ho).2.1 e he hb) (fun e he hb => h3 _ ho e he hb))
      have hil : i < listed.size := by omega
      have hset : (fun j => (listed.setIfInBounds i true).getD j false) = fun j => if j = i then true else listed.getD j false := by
        funext j
        by_cases hji : j = i
        · subst hji; simp [Array.getD_eq_getD_getElem?, hil]
        · simp [hji, Array.getD_eq_getD_getElem?, Array.getElem?_setIfInBounds_ne (Ne.symm hji)]
      refine wpOpB_of ho (by rw [hpre.2.1, hsl.2.1]) hsee (hs i _ _ (by simp) hv _ w (by simp [Array.getD, hil] at h2 ⊢; exact h2) (fun e he hb => h3 _ ho e he hb) hSw) fun w' hS' => ?_
      rw [Nat.zero_add] at hS'
      refine ih _ _ _ (by simp [hsz]) ?_ ?_ (by rw [hset]; exact hS')
      · have hli : listed.toList[i]'(by simpa using hil) = false := by
          simp [Array.getD, hil] at h2; simpa using h2
        have : 0 < listed.toList.count false := List.count_pos_iff.2 (by rw [← hli]; exact List.getElem_mem _)
        rw [Array.toList_setIfInBounds, List.count_set (by simpa using hil), hli]
        show List.count false listed.toList - 1 + 0 ≤ fuel
        omega
      · have := slots_put hn hsl ho hv
        refine ⟨this.1, this.2.1, fun j o t v hj ht hv2 hb hlt => this.2.2.1 j o t v hj ht hv2 ?_ hlt, fun t ht => this.2.2.2 t fun j o hj hd => ?_⟩
        · by_cases hji : j = i
          · simp [hji]
          · simp only [hji, if_false]
            simpa [Array.getD_eq_getD_getElem?, Array.getElem?_setIfInBounds_ne (Ne.symm hji)] using hb
        · have := ht j o hj hd
          by_cases hji : j = i
          · subst hji; simp [Array.getD_eq_getD_getElem?, hil] at this
          · simp only [hji, if_false]
            simpa [Array.getD_eq_getD_getElem?, Array.getElem?_setIfInBounds_ne (Ne.symm hji)] using this
  refine key ops.size _ a0 _ (by simp) (by simp) ⟨rfl, rfl, fun j o t v _ _ _ hb => ?_, fun _ _ => rfl⟩ (by rw [show (fun j => (Array.replicate ops.size false).getD j false) = fun _ => false from funext fun j => by rw [Array.getD_eq_getD_getElem?, Array.getElem?_replicate]; split <;> rfl]; exact hS)
  simp only at hb
  rw [Array.getD_eq_getD_getElem?, Array.getElem?_replicate] at hb
  split at hb <;> simp at hb


theorem SeqB.cons {l : Array Oper} {k : Nat} {o : Oper} {r : List Oper} {a : Act} {K : Act → Prop} {v : Value} (h1 : ∀ b w, b k = false → (∀ e ∈ o.after, bindsAny e = true → b e.on = true) → S b w → wpList P l (StepPost (a.put o.dst v) (S fun j => if j = k then true else b j)) [o] a w) (h2 : SeqB P l S (k + 1) r (a.put o.dst v) K) : SeqB P l S k (o :: r) a K := ⟨v, h1, h2⟩
theorem SeqB.nil {l : Array Oper} {k : Nat} {a : Act} {K : Act → Prop} (h : K a) : SeqB P l S k [] a K := h
theorem wp_region_seqB_lit {id : Nat} {l : List Oper} {Q : Exit → Act → World → Prop} {a0 : Act} {w0 : World} (S : (Nat → Bool) → World → Prop) (hm : P.follows .mixedOrders = true) (hok : regOk l.toArray = true) (hS : S (fun _ => false) w0.drew)
    (h : SeqB P l.toArray S 0 l a0 (fun a => ∀ b w, (∀ j, j < l.length → b j = true) → S b w → Q .normal a w)) : (Code.region id l.toArray true).wp P Q a0 w0 := wp_region_seqB hm hok hS (by simpa using h)

end
end Go.Proofs.Ytoapobhdpgcmbaa
