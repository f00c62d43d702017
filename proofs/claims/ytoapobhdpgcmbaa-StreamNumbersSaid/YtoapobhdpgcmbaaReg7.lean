/- A region whose order is open: each operation is walked once, at every world and at every values of those that are done; what waits is done only behind what it waits for. -/
import Derived.Test.YtoapobhdpgcmbaaReg4
namespace Go.Proofs.Ytoapobhdpgcmbaa
open Go.RowKit

/-- A place's value laid anew. -/
def updV (V : Nat → Value) (k : Nat) (v : Value) : Nat → Value := fun j => if j = k then v else V j
theorem dD_ne {b : Nat → Bool} {k j : Nat} (h : j ≠ k) : updD b k j = b j := by simp [updD, h]
theorem dD_eq (b : Nat → Bool) (k : Nat) : updD b k k = true := by simp [updD]
theorem dV_ne {V : Nat → Value} {v : Value} {k j : Nat} (h : j ≠ k) : updV V k v j = V j := by simp [updV, h]
theorem dV_eq {V : Nat → Value} {v : Value} {k : Nat} : updV V k v k = v := by simp [updV]
/-- What one operation leaves. -/
def StepV (a : Act) (d : Option Tmp) (T : Value → World → Prop) : Exit → Act → World → Prop := fun e a' w' => e = .normal ∧ ∃ v, a' = a.put d v ∧ T v w'
theorem StepV.mk {a a' : Act} {d : Option Tmp} {T : Value → World → Prop} {w : World} (v : Value) (h : a' = a.put d v) (hT : T v w) : StepV a d T .normal a' w := ⟨rfl, v, h, hT⟩

/-- What waits is listed only behind what it waits for. -/
def shutB (ops : Array Oper) (b : Nat → Bool) : Prop := ∀ j o, ops[j]? = some o → b j = true → ∀ e ∈ o.after, bindsAny e = true → b e.on = true
/-- The operations one behind the other, from the k-th on; each at every world, and all values of those that are done, that meet S. What an operation computes is either the same value always, or a place's value. -/
def SeqV (P : Program) (ops : Array Oper) (S : (Nat → Bool) → (Nat → Value) → World → Prop) : Nat → List Oper → ((Nat → Value) → Act) → (((Nat → Value) → Act) → Prop) → Prop
  | _, [], a, K => K a
  | k, o :: r, a, K =>
    (∃ v, (∀ V b w, b k = false → (∀ e ∈ o.after, bindsAny e = true → b e.on = true) → shutB ops b → S b V w → wpList P ops (StepPost ((a V).put o.dst v) (S (updD b k) V)) [o] (a V) w) ∧ SeqV P ops S (k + 1) r (fun V => (a V).put o.dst v) K) ∨
    ((∀ V b w, b k = false → (∀ e ∈ o.after, bindsAny e = true → b e.on = true) → shutB ops b → S b V w → wpList P ops (StepV (a V) o.dst fun v w' => S (updD b k) (updV V k v) w') [o] (a V) w) ∧ SeqV P ops S (k + 1) r (fun V => (a V).put o.dst (V k)) K)

def vsV (F : Nat → Option Value) (V : Nat → Value) : Nat → List Oper → List Value
  | _, [] => []
  | k, _ :: r => (match F k with | some v => v | none => V k) :: vsV F V (k + 1) r
theorem vsV_len (F : Nat → Option Value) (V : Nat → Value) : ∀ (l : List Oper) (k : Nat), (vsV F V k l).length = l.length
  | [], _ => rfl
  | o :: r, k => by simp [vsV, vsV_len F V r (k + 1)]
theorem vsV_get (F : Nat → Option Value) (V : Nat → Value) : ∀ (l : List Oper) (k i : Nat) (o : Oper), l[i]? = some o → (vsV F V k l)[i]? = some (match F (k + i) with | some v => v | none => V (k + i))
  | [], _, _, _, h => by simp at h
  | x :: r, k, 0, o, h => by simp [vsV]
  | x :: r, k, i + 1, o, h => by
    have := vsV_get F V r (k + 1) i o (by simpa using h)
    rw [show k + (i + 1) = k + 1 + i by omega]
    simpa [vsV] using this
theorem vsV_congr {F F' : Nat → Option Value} (V : Nat → Value) : ∀ (l : List Oper) (k : Nat), (∀ j, k ≤ j → F j = F' j) → vsV F V k l = vsV F' V k l
  | [], _, _ => rfl
  | o :: r, k, h => by
    simp only [vsV]
    rw [h k (Nat.le_refl _), vsV_congr V r (k + 1) (fun j hj => h j (by omega))]

section
variable {P : Program} {ops : Array Oper} {S : (Nat → Bool) → (Nat → Value) → World → Prop}

theorem seqV_vals : ∀ (l : List Oper) (k : Nat) (a : (Nat → Value) → Act) (K : ((Nat → Value) → Act) → Prop), SeqV P ops S k l a K → ∃ F : Nat → Option Value, K (fun V => fillL (a V) (l.zip (vsV F V k l))) ∧
    (∀ i o v, l[i]? = some o → F (k + i) = some v → ∀ V b w, b (k + i) = false → (∀ e ∈ o.after, bindsAny e = true → b e.on = true) → shutB ops b → S b V w →
      wpList P ops (StepPost ((fillL (a V) ((l.zip (vsV F V k l)).take i)).put o.dst v) (S (updD b (k + i)) V)) [o] (fillL (a V) ((l.zip (vsV F V k l)).take i)) w) ∧
    ∀ i o, l[i]? = some o → F (k + i) = none → ∀ V b w, b (k + i) = false → (∀ e ∈ o.after, bindsAny e = true → b e.on = true) → shutB ops b → S b V w →
      wpList P ops (StepV (fillL (a V) ((l.zip (vsV F V k l)).take i)) o.dst fun v w' => S (updD b (k + i)) (updV V (k + i) v) w') [o] (fillL (a V) ((l.zip (vsV F V k l)).take i)) w := by
  intro l
  induction l with
  | nil => intro k a K h; exact ⟨fun _ => none, h, fun i o v hi => by simp at hi, fun i o hi => by simp at hi⟩
  | cons o r ih =>
    intro k a K h
    rcases h with ⟨v, h1, h2⟩ | ⟨h1, h2⟩
    · obtain ⟨F, hk, hs1, hs2⟩ := ih _ _ _ h2
      have hc : ∀ V, vsV (fun j => if j = k then some v else F j) V (k + 1) r = vsV F V (k + 1) r := fun V => vsV_congr V r (k + 1) (fun j hj => by simp [show j ≠ k by omega])
      refine ⟨fun j => if j = k then some v else F j, by simpa [vsV, fillL, hc] using hk, fun i o' v' hi hF => ?_, fun i o' hi hF => ?_⟩
      · cases i with
        | zero =>
          simp at hi hF; subst hi; subst hF; simpa [fillL] using h1
        | succ i =>
          have := hs1 i o' v' (by simpa using hi) (by simpa [show k + (i + 1) ≠ k by omega, show k + 1 + i = k + (i + 1) by omega] using hF)
          rw [show k + 1 + i = k + (i + 1) by omega] at this
          simpa [vsV, fillL, hc] using this
      · cases i with
        | zero => simp at hF
        | succ i =>
          have := hs2 i o' (by simpa using hi) (by simpa [show k + (i + 1) ≠ k by omega, show k + 1 + i = k + (i + 1) by omega] using hF)
          rw [show k + 1 + i = k + (i + 1) by omega] at this
          simpa [vsV, fillL, hc] using this
    · obtain ⟨F, hk, hs1, hs2⟩ := ih _ _ _ h2
      have hc : ∀ V, vsV (fun j => if j = k then none else F j) V (k + 1) r = vsV F V (k + 1) r := fun V => vsV_congr V r (k + 1) (fun j hj => by simp [show j ≠ k by omega])
      refine ⟨fun j => if j = k then none else F j, by simpa [vsV, fillL, hc] using hk, fun i o' v' hi hF => ?_, fun i o' hi hF => ?_⟩
      · cases i with
        | zero => simp at hF
        | succ i =>
          have := hs1 i o' v' (by simpa using hi) (by simpa [show k + (i + 1) ≠ k by omega, show k + 1 + i = k + (i + 1) by omega] using hF)
          rw [show k + 1 + i = k + (i + 1) by omega] at this
          simpa [vsV, fillL, hc] using this
      · cases i with
        | zero => simp at hi; subst hi; simpa [fillL] using h1
        | succ i =>
          have := hs2 i o' (by simpa using hi) (by simpa [show k + (i + 1) ≠ k by omega, show k + 1 + i = k + (i + 1) by omega] using hF)
          rw [show k + 1 + i = k + (i + 1) by omega] at this
          simpa [vsV, fillL, hc] using this

/-- As 'regOk'; but an operation may look at a slot that one that waits for it fills. -/
def regOkS (ops : Array Oper) : Bool :=
  (ops.toList.zipIdx.all fun (o, i) =>
    (match o.op with | .select .. => false | _ => true) &&
    o.after.all (fun e => !bindsAny e || decide (e.on < i)) &&
    (o.looksAt ops).all fun t => (!(dstsOf ops).contains t || o.after.any fun e => bindsAny e && decide (e.on < i) && decide ((ops[e.on]?).bind (·.dst) = some t)) ||
      ops.any fun (o' : Oper) => decide (o'.dst = some t) && o'.after.any fun e => bindsAny e && decide (e.on = i)) &&
  decide (dstsOf ops).Nodup
theorem regOkS_at {ops : Array Oper} (h : regOkS ops = true) {i : Nat} {o : Oper} (ho : ops[i]? = some o) : (∀ cs b, o.op ≠ .select cs b) ∧ (∀ e ∈ o.after, bindsAny e = true → e.on < i) ∧
    ∀ t ∈ o.looksAt ops, t ∈ dstsOf ops → (∃ e ∈ o.after, bindsAny e = true ∧ e.on < i ∧ (ops[e.on]?).bind (·.dst) = some t) ∨ ∃ (j : Nat) (o' : Oper), ops[j]? = some o' ∧ o'.dst = some t ∧ ∃ e ∈ o'.after, bindsAny e = true ∧ e.on = i := by
  simp only [regOkS, Bool.and_eq_true] at h
  have h1 := List.all_eq_true.1 h.1 (o, i) (by
    rw [List.mem_iff_getElem?]; exact ⟨i, by simp [List.getElem?_zipIdx, ho]⟩)
  dsimp only at h1
  rw [Bool.and_eq_true, Bool.and_eq_true] at h1
  obtain ⟨⟨h2, h3⟩, h4⟩ := h1
  refine ⟨fun cs b hc => (by rw [hc] at h2; cases h2), fun e he hb => ?_, fun t ht hd => ?_⟩
  · have := (Array.all_eq_true'.1 h3) e he
    rw [hb] at this
    simpa using this
  · have h5 := List.all_eq_true.1 h4 t ht
    rw [Bool.or_eq_true] at h5
    rcases h5 with h5 | h5
    · left
      simp only [Bool.or_eq_true, Bool.not_eq_true'] at h5
      rcases h5 with h5 | h5
      · have : (dstsOf ops).contains t = true := by simpa using hd
        rw [this] at h5; cases h5
      · obtain ⟨e, he, h6⟩ := Array.any_eq_true'.1 h5
        simp only [Bool.and_eq_true, decide_eq_true_eq] at h6
        exact ⟨e, he, h6.1.1, h6.1.2, h6.2⟩
    · right
      obtain ⟨o', hm, h6⟩ := Array.any_eq_true'.1 h5
      simp only [Bool.and_eq_true, decide_eq_true_eq] at h6
      obtain ⟨e, he, h7⟩ := Array.any_eq_true'.1 h6.2
      simp only [Bool.and_eq_true, decide_eq_true_eq] at h7
      obtain ⟨j, hj⟩ := Array.mem_iff_getElem?.1 hm
      exact ⟨j, o', hj, h6.1, e, he, h7.1, h7.2⟩
theorem seesS {ops : Array Oper} (hn : (dstsOf ops).Nodup) (hok : regOkS ops = true) {vs : List Value} {a0 a a' : Act} {b b' : Nat → Bool} {i : Nat} {o : Oper} (ho : ops[i]? = some o) (hl : vs.length = ops.size) (h : SlotsAt ops vs a0 b a) (h' : SlotsAt ops vs a0 b' a')
    (hb : ∀ e ∈ o.after, bindsAny e = true → b e.on = true) (hb' : ∀ e ∈ o.after, bindsAny e = true → b' e.on = true) (hs : shutB ops b) (hs' : shutB ops b') (hi : b i = false) (hi' : b' i = false) : ∀ t ∈ o.looksAt ops, a.tmps[t]? = a'.tmps[t]? := by
  intro t ht
  by_cases hd : t ∈ dstsOf ops
  · have hi : i < ops.size := by
      rcases Nat.lt_or_ge i ops.size with h | h
      · exact h
      · simp [Array.getElem?_eq_none h] at ho
    rcases (regOkS_at hok ho).2.2 t ht hd with ⟨e, he, hbe, hlt, hdst⟩ | ⟨j, o', hj, hdj, e, he, hbe, hei⟩
    · have hj : ops[e.on]? = some ops[e.on] := Array.getElem?_eq_getElem (by omega)
      rw [hj] at hdst
      have hv : vs[e.on]? = some (vs[e.on]'(by omega)) := List.getElem?_eq_getElem (by omega)
      by_cases hsz : t < a0.tmps.size
      · rw [h.2.2.1 _ _ t _ hj (by simpa using hdst) hv (hb e he hbe) hsz, h'.2.2.1 _ _ t _ hj (by simpa using hdst) hv (hb' e he hbe) hsz]
      · have hsz' : a0.tmps.size ≤ t := Nat.not_lt.1 hsz
        rw [Array.getElem?_eq_none (Nat.le_trans (Nat.le_of_eq h.2.1) hsz'), Array.getElem?_eq_none (Nat.le_trans (Nat.le_of_eq h'.2.1) hsz')]
    · have none : ∀ (c : Nat → Bool), shutB ops c → c i = false → ∀ j2 o2, ops[j2]? = some o2 → o2.dst = some t → c j2 = false := by
        intro c hc hci j2 o2 hj2 hd2
        have := dst_inj hn hj2 hj hd2 hdj
        subst this
        cases hq : c j2 with
        | false => rfl
        | true =>
          have := hc j2 _ hj hq e he hbe
          rw [hei, hci] at this; cases this
      rw [h.2.2.2 t (none b hs ‹_›), h'.2.2.2 t (none b' hs' hi')]
  · have none : ∀ (c : Nat → Bool) j o', ops[j]? = some o' → o'.dst = some t → c j = false := fun c j o' hj hdst => absurd (mem_dsts hj hdst) hd
    rw [h.2.2.2 t (none b), h'.2.2.2 t (none b')]

theorem wpOpV_of {Q : Exit → Act → World → Prop} {K : Act → World → Prop} {a a' : Act} {i : Nat} {o : Oper} {w : World} {T : Value → World → Prop} (ho : ops[i]? = some o) (hsz : a.tmps.size = a'.tmps.size)
    (he : execOp a.eval o = execOp a'.eval o ∧ Region.wanted o (yielded ops a.tmps) = Region.wanted o (yielded ops a'.tmps))
    (h : wpList P ops (StepV a o.dst T) [o] a w) (hK : ∀ v w', T v w' → K (a'.put o.dst v) w') : wpOp P ops Q i K a' w := by
  have key : ∀ u w', (∃ v, a.put o.dst u = a.put o.dst v ∧ T v w') → K (a'.put o.dst u) w' := fun u w' ⟨v, e, hT⟩ => by rw [put_eq_of hsz e]; exact hK _ _ hT
  unfold wpOp
  rw [ho]
  simp only
  unfold wpList at h
  rw [← he.2]
  split
  · rename_i hw
    rw [if_pos hw] at h
    have hno : ¬ LetsOut (StepV a o.dst T) := by
      rintro ⟨_, _, h1, _⟩; cases h1
    rcases h with h | ⟨_, h⟩
    case inr => exact (hno h).elim
    refine .inl ?_
    unfold Oper.wp at *
    rw [← he.1]
    generalize (execOp a.eval o).run P w = r at *
    cases r with
    | ok n w' =>
      cases n <;> simp only [Oper.upon, wpList] at h ⊢
      case value u => exact key _ _ h.2
      case skip => exact key _ _ h.2
      case defer d =>
        obtain ⟨v, e, _⟩ := h.2
        have := congrArg (fun (x : Act) => x.defers.length) e
        simp [put_defers'] at this
      case enter f args =>
        refine Calls.mono h fun e w'' hh => ?_
        cases e with
        | returned u => simp only at hh; exact key _ _ hh.2
        | panicked c => simp only at hh; cases hh.1
        | outgrown => exact (hno hh).elim
      case row row args => exact Rows.mono h fun u w'' hh => key _ _ hh.2
    | halt x w' =>
      cases x <;> simp only [Oper.upon] at h ⊢
      case panic u => cases h.1
  · rename_i hw
    rw [if_neg hw] at h
    simp only [wpList] at h
    exact key _ _ h.2

theorem wp_region_seqV {id : Nat} {Q : Exit → Act → World → Prop} {a0 : Act} {w0 : World} (hm : P.follows .mixedOrders = true) (hok : regOkS ops = true) (hS : S (fun _ => false) (fun _ => undef) w0.drew)
    (h : SeqV P ops S 0 ops.toList (fun _ => a0) (fun a => ∀ V b w, (∀ j, j < ops.size → b j = true) → S b V w → Q .normal (a V) w)) : (Code.region id ops true).wp P Q a0 w0 := by
  obtain ⟨F, hk, hs1, hs2⟩ := seqV_vals _ _ _ _ h
  have hlen : ∀ β, (vsV F β 0 ops.toList).length = ops.size := fun β => by rw [vsV_len]; simp
  have hn : (dstsOf ops).Nodup := by
    have := hok; simp only [regOkS, Bool.and_eq_true] at this; exact of_decide_eq_true this.2
  refine wp_region_any hm ?_
  have key : ∀ fuel (listed : Array Bool) a w β, listed.size = ops.size → listed.toList.count false ≤ fuel → SlotsAt ops (vsV F β 0 ops.toList) a0 (fun j => listed.getD j false) a → shutB ops (fun j => listed.getD j false) → S (fun j => listed.getD j false) β w → wpAny P .any ops Q fuel listed a w := by
    intro fuel
    have fin : ∀ (listed : Array Bool) a w β, listed.size = ops.size → (∀ j, j < ops.size → listed.getD j false = true) → SlotsAt ops (vsV F β 0 ops.toList) a0 (fun j => listed.getD j false) a → S (fun j => listed.getD j false) β w → Q .normal a w := by
      intro listed a w β hsz hall hsl hSw
      have hl' := hlen β
      generalize hvs : vsV F β 0 ops.toList = vs at *
      have h2 := slots_fill hn hl' (a0 := a0) ops.size (Nat.le_refl _)
      have ht : (ops.toList.zip vs).take ops.size = ops.toList.zip vs := List.take_of_length_le (by simp [hl'])
      rw [ht] at h2
      have ea : a = fillL a0 (ops.toList.zip vs) := by
        have e1 : a.defers = (fillL a0 (ops.toList.zip vs)).defers := by rw [hsl.1, h2.1]
        have e2 : a.tmps = (fillL a0 (ops.toList.zip vs)).tmps := by
          apply Array.ext_getElem?
          intro t
          by_cases hd : t ∈ dstsOf ops
          · obtain ⟨o, hmem, hdst⟩ := List.mem_filterMap.1 hd
            obtain ⟨j, hj⟩ := List.mem_iff_getElem?.1 hmem
            have hj' : ops[j]? = some o := by simpa using hj
            have hjl : j < ops.size := by
              rcases Nat.lt_or_ge j ops.size with h | h
              · exact h
              · simp [Array.getElem?_eq_none h] at hj'
            have hv : vs[j]? = some (vs[j]'(by omega)) := List.getElem?_eq_getElem (by omega)
            by_cases hts : t < a0.tmps.size
            · rw [hsl.2.2.1 j o t _ hj' hdst hv (hall j hjl) hts, h2.2.2.1 j o t _ hj' hdst hv (by simpa using hjl) hts]
            · rw [Array.getElem?_eq_none (by have := hsl.2.1; omega), Array.getElem?_eq_none (by have := h2.2.1; omega)]
          · have none : ∀ (c : Nat → Bool) j o', ops[j]? = some o' → o'.dst = some t → c j = false := fun c j o' hj hdst => absurd (mem_dsts hj hdst) hd
            rw [hsl.2.2.2 t (none _), h2.2.2.2 t (none _)]
        cases a; cases hf : fillL a0 (ops.toList.zip vs); rw [hf] at e1 e2; simp only at e1 e2; rw [e1, e2]
      rw [ea, ← hvs]; exact hk β _ w (fun j hj => hall j hj) hSw
    have allOf : ∀ (listed : Array Bool), listed.size = ops.size → Region.ready .any ops listed = [] → ∀ j, j < ops.size → listed.getD j false = true := by
      intro listed hsz hr j
      induction j using Nat.strongRecOn with
      | _ j ih =>
        intro hj
        cases hb : listed.getD j false with
        | true => rfl
        | false =>
          exfalso
          have ho : ops[j]? = some ops[j] := Array.getElem?_eq_getElem hj
          have : j ∈ Region.ready .any ops listed := by
            unfold Region.ready
            rw [List.mem_filter]
            refine ⟨by simpa using hj, ?_⟩
            have hb2 : listed.getD j true = false := by
              have hj2 : j < listed.size := by omega
              simp [Array.getD, hj2] at hb ⊢; exact hb
            rw [ho, hb2]
            simp only [Option.map_some, Option.getD_some, Bool.not_false, Bool.true_and, Array.all_eq_true']
            intro e he
            cases hbe : Region.binds .any e with
            | false => rfl
            | true =>
              have := (regOkS_at hok ho).2.1 e he hbe
              simp [ih e.on this (by omega)]
          rw [hr] at this
          cases this
    induction fuel with
    | zero =>
      intro listed a w β hsz hc hsl hcl hSw
      have hnf : false ∉ listed.toList := by
        rw [← List.count_eq_zero]; omega
      have hall : ∀ j, j < ops.size → listed.getD j false = true := by
        intro j hj
        have hj2 : j < listed.size := by omega
        cases hb : listed.getD j false with
        | true => rfl
        | false =>
          exfalso; apply hnf
          simp [Array.getD, hj2] at hb
          rw [← hb]; simp
      refine ⟨?_, fin listed a w β hsz hall hsl hSw⟩
      rw [List.eq_nil_iff_forall_not_mem]
      intro i hi
      obtain ⟨h1, h2, _⟩ := ready_mem hi
      have h3 := hall i h1
      have hj2 : i < listed.size := by omega
      simp [Array.getD, hj2] at h2 h3
      rw [h2] at h3; cases h3
    | succ fuel ih =>
      intro listed a w β hsz hc hsl hcl hSw
      have hl' := hlen β
      refine ⟨fun hr => fin listed a w β hsz (allOf listed hsz hr) hsl hSw, fun i hi => ?_⟩
      obtain ⟨h1, h2, h3⟩ := ready_mem hi
      have ho : ops[i]? = some ops[i] := Array.getElem?_eq_getElem h1
      have hil : i < listed.size := by omega
      have hif : listed.getD i false = false := by simp [Array.getD, hil] at h2 ⊢; exact h2
      have hset : (fun j => (listed.setIfInBounds i true).getD j false) = updD (fun j => listed.getD j false) i := by
        funext j
        unfold updD
        by_cases hji : j = i
        · subst hji; simp [Array.getD_eq_getD_getElem?, hil]
        · simp [hji, Array.getD_eq_getD_getElem?, Array.getElem?_setIfInBounds_ne (Ne.symm hji)]
      have hcnt : (listed.setIfInBounds i true).toList.count false ≤ fuel := by
        have hli : listed.toList[i]'(by simpa using hil) = false := by
          simp [Array.getD, hil] at h2; simpa using h2
        have : 0 < listed.toList.count false := List.count_pos_iff.2 (by rw [← hli]; exact List.getElem_mem _)
        rw [Array.toList_setIfInBounds, List.count_set (by simpa using hil), hli]
        show List.count false listed.toList - 1 + 0 ≤ fuel
        omega
      have hoL : ops.toList[i]? = some ops[i] := by simp
      have hshut : shutB ops (updD (fun j => listed.getD j false) i) := by
        intro j o hj hb e he hbe
        unfold updD at hb ⊢
        by_cases hji : j = i
        · subst hji
          have := h3 _ hj e he hbe
          simp only
          split
          · rfl
          · exact this
        · simp only [hji, if_false] at hb
          have := hcl j o hj hb e he hbe
          simp only
          split
          · rfl
          · exact this
      have hv0 := vsV_get F β ops.toList 0 i _ hoL
      have hpre := slots_fill hn hl' (a0 := a0) i (by omega)
      have hsee := exec_same (regOkS_at hok ho).1 (seesS hn hok ho hl' hpre hsl (fun e he hb => by simpa using (regOkS_at hok ho).2.1 e he hb) (fun e he hb => h3 _ ho e he hb) (fun j o hj hb e he hbe => by have := (regOkS_at hok hj).2.1 e he hbe; simp at hb ⊢; omega) hcl (by simp) hif)
      cases hF : F (0 + i) with
      | some v =>
        rw [hF] at hv0
        have h4 := hs1 i _ v hoL hF β _ w (by rw [Nat.zero_add]; exact hif) (fun e he hb => h3 _ ho e he hb) hcl hSw
        rw [Nat.zero_add] at h4
        refine wpOpB_of ho (by rw [hpre.2.1, hsl.2.1]) hsee h4 fun w' hS' => ?_
        refine ih _ _ _ β (by simp [hsz]) hcnt ?_ (by rw [hset]; exact hshut) (by rw [hset]; exact hS')
        have := slots_put hn hsl ho hv0
        rw [hset]; exact this
      | none =>
        have h4 := hs2 i _ hoL hF β _ w (by rw [Nat.zero_add]; exact hif) (fun e he hb => h3 _ ho e he hb) hcl hSw
        rw [Nat.zero_add] at h4
        refine wpOpV_of ho (by rw [hpre.2.1, hsl.2.1]) hsee h4 fun v w' hS' => ?_
        have hβ : ∀ j, (fun j => listed.getD j false) j = true → j ≠ i := fun j hj hji => by
          subst hji; simp only at hj; rw [hif] at hj; cases hj
        have hsl' : SlotsAt ops (vsV F (updV β i v) 0 ops.toList) a0 (fun j => listed.getD j false) a := by
          refine slotsAt_congr hsl fun j hj => ?_
          have hne := hβ j hj
          by_cases hjl : j < ops.size
          · have hjo : ops.toList[j]? = some ops[j] := by simp
            rw [vsV_get F β ops.toList 0 j _ hjo, vsV_get F (updV β i v) ops.toList 0 j _ hjo]
            simp [updV, hne]
          · rw [List.getElem?_eq_none (by rw [hlen]; omega), List.getElem?_eq_none (by rw [hlen]; omega)]
        have hv : (vsV F (updV β i v) 0 ops.toList)[i]? = some v := by
          rw [vsV_get F _ ops.toList 0 i _ hoL, hF]; simp [updV]
        refine ih _ _ _ (updV β i v) (by simp [hsz]) hcnt ?_ (by rw [hset]; exact hshut) (by rw [hset]; exact hS')
        have := slots_put hn hsl' ho hv
        rw [hset]; exact this
  refine key ops.size _ a0 _ (fun _ => undef) (by simp) (by simp) ⟨rfl, rfl, fun j o t v _ _ _ hb => ?_, fun _ _ => rfl⟩ (fun j o hj hb => by simp only at hb; rw [Array.getD_eq_getD_getElem?, Array.getElem?_replicate] at hb; split at hb <;> simp at hb) (by rw [show (fun j => (Array.replicate ops.size false).getD j false) = fun _ => false from funext fun j => by rw [Array.getD_eq_getD_getElem?, Array.getElem?_replicate]; split <;> rfl]; exact hS)
  simp only at hb
  rw [Array.getD_eq_getD_getElem?, Array.getElem?_replicate] at hb
  split at hb <;> simp at hb

theorem SeqV.cons {l : Array Oper} {k : Nat} {o : Oper} {r : List Oper} {a : (Nat → Value) → Act} {K : ((Nat → Value) → Act) → Prop} {v : Value}
    (h1 : ∀ V b w, b k = false → (∀ e ∈ o.after, bindsAny e = true → b e.on = true) → shutB l b → S b V w → wpList P l (StepPost ((a V).put o.dst v) (S (updD b k) V)) [o] (a V) w) (h2 : SeqV P l S (k + 1) r (fun V => (a V).put o.dst v) K) : SeqV P l S k (o :: r) a K := Or.inl ⟨v, h1, h2⟩
theorem SeqV.var {l : Array Oper} {k : Nat} {o : Oper} {r : List Oper} {a : (Nat → Value) → Act} {K : ((Nat → Value) → Act) → Prop}
    (h1 : ∀ V b w, b k = false → (∀ e ∈ o.after, bindsAny e = true → b e.on = true) → shutB l b → S b V w → wpList P l (StepV (a V) o.dst fun v w' => S (updD b k) (updV V k v) w') [o] (a V) w) (h2 : SeqV P l S (k + 1) r (fun V => (a V).put o.dst (V k)) K) : SeqV P l S k (o :: r) a K := Or.inr ⟨h1, h2⟩
theorem SeqV.nil {l : Array Oper} {k : Nat} {a : (Nat → Value) → Act} {K : ((Nat → Value) → Act) → Prop} (h : K a) : SeqV P l S k [] a K := h
theorem wp_region_seqV_lit {id : Nat} {l : List Oper} {Q : Exit → Act → World → Prop} {a0 : Act} {w0 : World} (S : (Nat → Bool) → (Nat → Value) → World → Prop) (hm : P.follows .mixedOrders = true) (hok : regOkS l.toArray = true)
    (hS : S (fun _ => false) (fun _ => undef) w0.drew)
    (h : SeqV P l.toArray S 0 l (fun _ => a0) (fun a => ∀ V b w, (∀ j, j < l.length → b j = true) → S b V w → Q .normal (a V) w)) : (Code.region id l.toArray true).wp P Q a0 w0 := wp_region_seqV hm hok hS (by simpa using h)

end
end Go.Proofs.Ytoapobhdpgcmbaa
