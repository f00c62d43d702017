/- A region whose order is open, walked once in the order of its text: each operation is shown in every world that meets S, and so whatever came up ahead of it. -/
import Derived.Test.YtoapobhdpgcmbaaBase
import Derived.OrdersHeld
namespace Go.Proofs.Ytoapobhdpgcmbaa
open Go.RowKit

/-- What a step comes to: the next state, in a world that meets S. -/
def StepPost (b : Act) (S : World → Prop) : Exit → Act → World → Prop := fun e a w => e = .normal ∧ a = b ∧ S w
theorem StepPost.mk {b a : Act} {S : World → Prop} {w : World} (h : a = b) (hS : S w) : StepPost b S .normal a w := ⟨rfl, h, hS⟩
/-- The operations one behind the other; each at every world that meets S. -/
def SeqS (P : Program) (ops : Array Oper) (S : World → Prop) : List Oper → Act → (Act → Prop) → Prop
  | [], a, K => K a
  | o :: r, a, K => ∃ v, (∀ w, S w → wpList P ops (fun e a' w' => e = .normal ∧ a' = a.put o.dst v ∧ S w') [o] a w) ∧ SeqS P ops S r (a.put o.dst v) K

/-- Does the edge bind in every order? -/
def bindsAny (e : Edge) : Bool := Region.binds .any e
/-- The slots that the operations fill. -/
def dstsOf (ops : Array Oper) : List Nat := ops.toList.filterMap (·.dst)
/-- What an operation looks at is no region's slot, or one that an operation fills which it directly waits for; edges lead back; slots are filled once. -/
def regOk (ops : Array Oper) : Bool :=
  (ops.toList.zipIdx.all fun (o, i) =>
    (match o.op with | .select .. => false | _ => true) &&
    o.after.all (fun e => !bindsAny e || decide (e.on < i)) &&
    (o.looksAt ops).all fun t => !(dstsOf ops).contains t || o.after.any fun e => bindsAny e && decide (e.on < i) && decide ((ops[e.on]?).bind (·.dst) = some t)) &&
  decide (dstsOf ops).Nodup

section
variable {P : Program} {ops : Array Oper} {S : World → Prop}

/-- Values laid into their slots. -/
def fillL (a : Act) : List (Oper × Value) → Act
  | [] => a
  | (o, v) :: r => fillL (a.put o.dst v) r

theorem seqS_vals : ∀ (l : List Oper) (a : Act) (K : Act → Prop), SeqS P ops S l a K → ∃ vs : List Value, vs.length = l.length ∧ K (fillL a (l.zip vs)) ∧
    ∀ i o v, l[i]? = some o → vs[i]? = some v → ∀ w, S w → wpList P ops (fun e a' w' => e = .normal ∧ a' = (fillL a ((l.zip vs).take i)).put o.dst v ∧ S w') [o] (fillL a ((l.zip vs).take i)) w := by
  intro l
  induction l with
  | nil => intro a K h; exact ⟨[], rfl, h, fun i o v hi => by simp at hi⟩
  | cons o r ih =>
    intro a K h
    obtain ⟨v, h1, h2⟩ := h
    obtain ⟨vs, hl, hk, hs⟩ := ih _ _ h2
    refine ⟨v :: vs, by simp [hl], hk, ?_⟩
    intro i o' v' hi hv
    cases i with
    | zero => simp at hi hv; subst hi hv; exact h1
    | succ i => simp at hi hv; exact hs i o' v' hi hv

theorem put_size (a : Act) (d : Option Tmp) (v : Value) : (a.put d v).tmps.size = a.tmps.size := by cases d <;> simp [Act.put]
theorem put_defers' (a : Act) (d : Option Tmp) (v : Value) : (a.put d v).defers = a.defers := by cases d <;> rfl
theorem put_get (a : Act) (d t : Nat) (v : Value) : (a.put (some d) v).tmps[t]? = if d = t ∧ t < a.tmps.size then some v else a.tmps[t]? := by
  by_cases h : d = t
  · subst h
    by_cases h2 : d < a.tmps.size
    · simp [Act.put, h2]
    · simp [Act.put, h2, Nat.not_lt.1 h2]
  · simp [Act.put, h, Array.getElem?_setIfInBounds_ne h]

/-- What the slots hold when those of 'b' are filled. -/
def SlotsAt (ops : Array Oper) (vs : List Value) (a0 : Act) (b : Nat → Bool) (a : Act) : Prop :=
  a.defers = a0.defers ∧ a.tmps.size = a0.tmps.size ∧
  (∀ j o t v, ops[j]? = some o → o.dst = some t → vs[j]? = some v → b j = true → t < a0.tmps.size → a.tmps[t]? = some v) ∧
  (∀ t : Nat, (∀ j o, ops[j]? = some o → o.dst = some t → b j = false) → a.tmps[t]? = a0.tmps[t]?)

theorem dst_inj (h : (dstsOf ops).Nodup) {i j : Nat} {o o' : Oper} {t : Nat} (hi : ops[i]? = some o) (hj : ops[j]? = some o') (h1 : o.dst = some t) (h2 : o'.dst = some t) : i = j := by
  have hi' : ops.toList[i]? = some o := by simpa using hi
  have hj' : ops.toList[j]? = some o' := by simpa using hj
  unfold dstsOf at h
  revert h hi' hj'
  generalize ops.toList = l
  clear hi hj
  induction l generalizing i j with
  | nil => intro _ h; simp at h
  | cons x r ih =>
    intro h hi hj
    have hr : (r.filterMap (·.dst)).Nodup := by
      rw [List.filterMap_cons] at h; split at h
      · exact h
      · exact (List.nodup_cons.1 h).2
    have key : ∀ (k : Nat) (y : Oper), r[k]? = some y → y.dst = some t → x.dst = some t → False := by
      intro k y hk hy hx
      rw [List.filterMap_cons, hx] at h
      exact (List.nodup_cons.1 h).1 (List.mem_filterMap.2 ⟨y, List.mem_of_getElem? hk, hy⟩)
    cases i with
    | zero =>
      cases j with
      | zero => rfl
      | succ j => simp at hi hj; subst hi; exact (key j _ hj h2 h1).elim
    | succ i =>
      cases j with
      | zero => simp at hi hj; subst hj; exact (key i _ hi h1 h2).elim
      | succ j => simp at hi hj; rw [ih hr hi hj]

theorem slots_put (hn : (dstsOf ops).Nodup) {vs : List Value} {a0 a : Act} {b : Nat → Bool} {i : Nat} {o : Oper} {v : Value} (h : SlotsAt ops vs a0 b a) (ho : ops[i]? = some o) (hv : vs[i]? = some v) :
    SlotsAt ops vs a0 (fun j => if j = i then true else b j) (a.put o.dst v) := by
  obtain ⟨h1, h2, h3, h4⟩ := h
  refine ⟨by rw [put_defers', h1], by rw [put_size, h2], ?_, ?_⟩
  · intro j o' t v' hj ht hv' hb hlt
    by_cases hji : j = i
    · subst hji
      have e1 : o' = o := Option.some.inj (hj.symm.trans ho)
      have e2 : v' = v := Option.some.inj (hv'.symm.trans hv)
      subst e1 e2
      rw [ht, put_get, if_pos ⟨rfl, by omega⟩]
    · have hb' : b j = true := by simpa [hji] using hb
      have := h3 j o' t v' hj ht hv' hb' hlt
      cases hd : o.dst with
      | none => exact this
      | some d =>
        rw [put_get, if_neg]
        · exact this
        · rintro ⟨rfl, _⟩
          exact hji (dst_inj hn hj ho ht hd)
  · intro t ht
    have h5 := h4 t (fun j o' hj hd => by
      have := ht j o' hj hd
      by_cases hji : j = i
      · simp [hji] at this
      · simpa [hji] using this)
    cases hd : o.dst with
    | none => exact h5
    | some d =>
      rw [put_get, if_neg]
      · exact h5
      · rintro ⟨rfl, _⟩
        have := ht i o ho hd
        simp at this

theorem slots_fill (hn : (dstsOf ops).Nodup) {vs : List Value} {a0 : Act} (hl : vs.length = ops.size) : ∀ n, n ≤ ops.size → SlotsAt ops vs a0 (fun j => decide (j < n)) (fillL a0 ((ops.toList.zip vs).take n)) := by
  have snoc : ∀ (l : List (Oper × Value)) (a : Act) (x : Oper × Value), fillL a (l ++ [x]) = (fillL a l).put x.1.dst x.2 := by
    intro l
    induction l with
    | nil => intro a x; rfl
    | cons y r ih => intro a x; exact ih _ x
  intro n
  induction n with
  | zero => intro _; exact ⟨rfl, rfl, fun j o t v _ _ _ hb => by simp at hb, fun _ _ => rfl⟩
  | succ n ih =>
    intro hn2
    have h := ih (by omega)
    have hz : (ops.toList.zip vs)[n]? = some (ops[n], vs[n]'(by omega)) := by
      simp [List.getElem?_zip_eq_some, hl]
    rw [List.take_add_one, hz]
    simp only [Option.toList_some]
    rw [snoc]
    have := slots_put hn (i := n) (o := ops[n]) (v := vs[n]'(by omega)) h (by simp) (by simp)
    refine ⟨this.1, this.2.1, fun j o t v hj ht hv hb => this.2.2.1 j o t v hj ht hv (by simp at hb ⊢; omega), fun t ht => this.2.2.2 t (fun j o hj hd => by have := ht j o hj hd; simp at this ⊢; omega)⟩

theorem put_eq_of {a a' : Act} {d : Option Tmp} {u v : Value} (hs : a.tmps.size = a'.tmps.size) (h : a.put d u = a.put d v) : a'.put d u = a'.put d v := by
  cases d with
  | none => rfl
  | some t =>
    by_cases ht : t < a.tmps.size
    · have h1 : (a.put (some t) u).tmps[t]? = (a.put (some t) v).tmps[t]? := by rw [h]
      rw [put_get, put_get, if_pos ⟨rfl, ht⟩, if_pos ⟨rfl, ht⟩] at h1
      rw [Option.some.inj h1]
    · simp only [Act.put, Array.setIfInBounds]
      rw [dif_neg (by rw [← hs]; exact ht), dif_neg (by rw [← hs]; exact ht)]

theorem ready_mem {listed : Array Bool} {i : Nat} (h : i ∈ Region.ready .any ops listed) : i < ops.size ∧ listed.getD i true = false ∧ ∀ o, ops[i]? = some o → ∀ e ∈ o.after, bindsAny e = true → listed.getD e.on false = true := by
  unfold Region.ready at h
  rw [List.mem_filter] at h
  obtain ⟨h1, h2⟩ := h
  simp only [Bool.and_eq_true, Bool.not_eq_true'] at h2
  refine ⟨by simpa using h1, h2.1, fun o ho e he hb => ?_⟩
  have h3 := h2.2
  rw [ho] at h3
  simp only [Option.map_some, Option.getD_some, Array.all_eq_true'] at h3
  have h4 := h3 e he
  simp only [Bool.or_eq_true, Bool.not_eq_true'] at h4
  rcases h4 with h4 | h4
  · unfold bindsAny at hb; rw [h4] at hb; cases hb
  · exact h4

theorem regOk_at (h : regOk ops = true) {i : Nat} {o : Oper} (ho : ops[i]? = some o) : (∀ cs b, o.op ≠ .select cs b) ∧ (∀ e ∈ o.after, bindsAny e = true → e.on < i) ∧
    ∀ t ∈ o.looksAt ops, t ∈ dstsOf ops → ∃ e ∈ o.after, bindsAny e = true ∧ e.on < i ∧ (ops[e.on]?).bind (·.dst) = some t := by
  simp only [regOk, Bool.and_eq_true] at h
  have h1 := List.all_eq_true.1 h.1 (o, i) (by
    rw [List.mem_iff_getElem?]; exact ⟨i, by simp [List.getElem?_zipIdx, ho]⟩)
  dsimp only at h1
  rw [Bool.and_eq_true, Bool.and_eq_true] at h1
  obtain ⟨⟨h2, h3⟩, h4⟩ := h1
  refine ⟨fun cs b hc => (by rw [hc] at h2; cases h2), fun e he hb => ?_, fun t ht hd => ?_⟩
  · have := (Array.all_eq_true'.1 h3) e he
    rw [hb] at this
    simpa using this
  · have h5 := List.all_eq_true.1 h4 t ht
    simp only [Bool.or_eq_true, Bool.not_eq_true'] at h5
    rcases h5 with h5 | h5
    · have : (dstsOf ops).contains t = true := by simpa using hd
      rw [this] at h5; cases h5
    · obtain ⟨e, he, h6⟩ := Array.any_eq_true'.1 h5
      simp only [Bool.and_eq_true, decide_eq_true_eq] at h6
      exact ⟨e, he, h6.1.1, h6.1.2, h6.2⟩

theorem mem_dsts {i : Nat} {o : Oper} {t : Nat} (ho : ops[i]? = some o) (hd : o.dst = some t) : t ∈ dstsOf ops :=
  List.mem_filterMap.2 ⟨o, by simpa using Array.mem_of_getElem? ho, hd⟩

/-- An operation sees the same in two states in which all that it waits for is filled. -/
theorem sees (hok : regOk ops = true) {vs : List Value} {a0 a a' : Act} {b b' : Nat → Bool} {i : Nat} {o : Oper} (ho : ops[i]? = some o) (hl : vs.length = ops.size) (h : SlotsAt ops vs a0 b a) (h' : SlotsAt ops vs a0 b' a')
    (hb : ∀ e ∈ o.after, bindsAny e = true → b e.on = true) (hb' : ∀ e ∈ o.after, bindsAny e = true → b' e.on = true) : ∀ t ∈ o.looksAt ops, a.tmps[t]? = a'.tmps[t]? := by
  intro t ht
  by_cases hd : t ∈ dstsOf ops
  · obtain ⟨e, he, hbe, hlt, hdst⟩ := (regOk_at hok ho).2.2 t ht hd
    have hi : i < ops.size := by
      rcases Nat.lt_or_ge i ops.size with h | h
      · exact h
      · simp [Array.getElem?_eq_none h] at ho
    have hj : ops[e.on]? = some ops[e.on] := Array.getElem?_eq_getElem (by omega)
    rw [hj] at hdst
    have hv : vs[e.on]? = some (vs[e.on]'(by omega)) := List.getElem?_eq_getElem (by omega)
    by_cases hsz : t < a0.tmps.size
    · rw [h.2.2.1 _ _ t _ hj (by simpa using hdst) hv (hb e he hbe) hsz, h'.2.2.1 _ _ t _ hj (by simpa using hdst) hv (hb' e he hbe) hsz]
    · have hsz' : a0.tmps.size ≤ t := Nat.not_lt.1 hsz
      rw [Array.getElem?_eq_none (Nat.le_trans (Nat.le_of_eq h.2.1) hsz'), Array.getElem?_eq_none (Nat.le_trans (Nat.le_of_eq h'.2.1) hsz')]
  · have none : ∀ (c : Nat → Bool) j o', ops[j]? = some o' → o'.dst = some t → c j = false := fun c j o' hj hdst => absurd (mem_dsts hj hdst) hd
    rw [h.2.2.2 t (none b), h'.2.2.2 t (none b')]

theorem exec_same {a a' : Act} {o : Oper} (hs : ∀ cs b, o.op ≠ .select cs b) (h : ∀ t ∈ o.looksAt ops, a.tmps[t]? = a'.tmps[t]?) : execOp a.eval o = execOp a'.eval o ∧ Region.wanted o (yielded ops a.tmps) = Region.wanted o (yielded ops a'.tmps) := by
  constructor
  · refine execOp_congr o hs fun x hx => ?_
    cases x with
    | tmp t =>
      have := h t (List.mem_append_left _ (List.mem_filterMap.2 ⟨.tmp t, by simpa using hx, rfl⟩))
      simp only [Act.eval, Array.getD_eq_getD_getElem?, this]
    | _ => rfl
  · unfold Region.wanted
    cases hg : o.guard with
    | none => rfl
    | some gw =>
      obtain ⟨g, want⟩ := gw
      have hy : yielded ops a.tmps g = yielded ops a'.tmps g := by
        unfold yielded
        cases ht : (ops[g]?).bind (·.dst) with
        | none => rfl
        | some t =>
          have := h t (by simp [Oper.looksAt, hg, ht])
          simp [this]
      simp only [hy]

/-- One operation, at another state that it sees the same. -/
theorem wpOp_of {Q : Exit → Act → World → Prop} {K : Act → World → Prop} {a a' : Act} {i : Nat} {o : Oper} {v : Value} {w : World} (ho : ops[i]? = some o) (hsz : a.tmps.size = a'.tmps.size)
    (he : execOp a.eval o = execOp a'.eval o ∧ Region.wanted o (yielded ops a.tmps) = Region.wanted o (yielded ops a'.tmps))
    (h : wpList P ops (fun e a'' w' => e = .normal ∧ a'' = a.put o.dst v ∧ S w') [o] a w) (hSw : S w) (hK : ∀ w', S w' → K (a'.put o.dst v) w') : wpOp P ops Q i K a' w := by
  unfold wpOp
  rw [ho]
  simp only
  unfold wpList at h
  rw [← he.2]
  split
  · rename_i hw
    rw [if_pos hw] at h
    have hno : ¬ LetsOut (fun (e : Exit) (a'' : Act) (w' : World) => e = .normal ∧ a'' = a.put o.dst v ∧ S w') := by
      rintro ⟨_, _, h1, _⟩; cases h1
    rcases h with h | ⟨_, h⟩
    case inr => exact (hno h).elim
    refine .inl ?_
    unfold Oper.wp at *
    rw [← he.1]
    generalize (execOp a.eval o).run P w = r at *
    cases r with
    | ok n w' =>
      cases n <;> simp only [Oper.upon, wpList] at h ⊢
      case value u => rw [put_eq_of hsz h.2.1]; exact hK _ h.2.2
      case skip => rw [put_eq_of hsz h.2.1]; exact hK _ h.2.2
      case defer d =>
        have := congrArg (fun (x : Act) => x.defers.length) h.2.1
        simp [put_defers'] at this
      case enter f args =>
        refine Calls.mono h fun e w'' hh => ?_
        cases e with
        | returned u => simp only at hh; show K (a'.put o.dst u) w''; rw [put_eq_of hsz hh.2.1]; exact hK _ hh.2.2
        | panicked c => simp only at hh; cases hh.1
        | outgrown => exact (hno hh).elim
      case row row args => exact Rows.mono h fun u w'' hh => by rw [put_eq_of hsz hh.2.1]; exact hK _ hh.2.2
    | halt x w' =>
      cases x <;> simp only [Oper.upon] at h ⊢
      case panic u => cases h.1
  · rename_i hw
    rw [if_neg hw] at h
    simp only [wpList] at h
    rw [put_eq_of hsz h.2.1]
    exact hK _ hSw

theorem wp_region_seq {id : Nat} {Q : Exit → Act → World → Prop} {a0 : Act} {w0 : World} (hm : P.follows .mixedOrders = true) (hok : regOk ops = true) (hS : S w0.drew)
    (h : SeqS P ops S ops.toList a0 (fun a => ∀ w, S w → Q .normal a w)) : (Code.region id ops true).wp P Q a0 w0 := by
  obtain ⟨vs, hl, hk, hs⟩ := seqS_vals _ _ _ h
  have hl' : vs.length = ops.size := by simpa using hl
  have hn : (dstsOf ops).Nodup := by
    have := hok; simp only [regOk, Bool.and_eq_true] at this; exact of_decide_eq_true this.2
  refine wp_region_any hm ?_
  have key : ∀ fuel (listed : Array Bool) a w, listed.size = ops.size → listed.toList.count false ≤ fuel → SlotsAt ops vs a0 (fun j => listed.getD j false) a → S w → wpAny P .any ops Q fuel listed a w := by
    intro fuel
    have fin : ∀ (listed : Array Bool) a w, listed.size = ops.size → (∀ j, j < ops.size → listed.getD j false = true) → SlotsAt ops vs a0 (fun j => listed.getD j false) a → S w → Q .normal a w := by
      intro listed a w hsz hall hsl hSw
      have h2 := slots_fill hn hl' (a0 := a0) ops.size (Nat.le_refl _)
      have ht : (ops.toList.zip vs).take ops.size = ops.toList.zip vs := List.take_of_length_le (by simp [hl'])
      rw [ht] at h2
      have ea : a = fillL a0 (ops.toList.zip vs) := by
        have e1 : a.defers = (fillL a0 (ops.toList.zip vs)).defers := by rw [hsl.1, h2.1]
        have e2 : a.tmps = (fillL a0 (ops.toList.zip vs)).tmps := by
          apply Array.ext_getElem?
          intro t
          by_cases hd : t ∈ dstsOf ops
          · obtain ⟨o, hmem, hdst⟩ := List.mem_filterMap.1 hd
            obtain ⟨j, hj⟩ := List.mem_iff_getElem?.1 hmem
            have hj' : ops[j]? = some o := by simpa using hj
            have hjl : j < ops.size := by
              rcases Nat.lt_or_ge j ops.size with h | h
              · exact h
              · simp [Array.getElem?_eq_none h] at hj'
            have hv : vs[j]? = some (vs[j]'(by omega)) := List.getElem?_eq_getElem (by omega)
            by_cases hts : t < a0.tmps.size
            · rw [hsl.2.2.1 j o t _ hj' hdst hv (hall j hjl) hts, h2.2.2.1 j o t _ hj' hdst hv (by simpa using hjl) hts]
            · rw [Array.getElem?_eq_none (by have := hsl.2.1; omega), Array.getElem?_eq_none (by have := h2.2.1; omega)]
          · have none : ∀ (c : Nat → Bool) j o', ops[j]? = some o' → o'.dst = some t → c j = false := fun c j o' hj hdst => absurd (mem_dsts hj hdst) hd
            rw [hsl.2.2.2 t (none _), h2.2.2.2 t (none _)]
        cases a; cases hf : fillL a0 (ops.toList.zip vs); rw [hf] at e1 e2; simp only at e1 e2; rw [e1, e2]
      rw [ea]; exact hk w hSw
    have allOf : ∀ (listed : Array Bool), listed.size = ops.size → Region.ready .any ops listed = [] → ∀ j, j < ops.size → listed.getD j false = true := by
      intro listed hsz hr j
      induction j using Nat.strongRecOn with
      | _ j ih =>
        intro hj
        cases hb : listed.getD j false with
        | true => rfl
        | false =>
          exfalso
          have ho : ops[j]? = some ops[j] := Array.getElem?_eq_getElem hj
          have : j ∈ Region.ready .any ops listed := by
            unfold Region.ready
            rw [List.mem_filter]
            refine ⟨by simpa using hj, ?_⟩
            have hb2 : listed.getD j true = false := by
              have hj2 : j < listed.size := by omega
              simp [Array.getD, hj2] at hb ⊢; exact hb
            rw [ho, hb2]
            simp only [Option.map_some, Option.getD_some, Bool.not_false, Bool.true_and, Array.all_eq_true']
            intro e he
            cases hbe : Region.binds .any e with
            | false => rfl
            | true =>
              have := (regOk_at hok ho).2.1 e he hbe
              simp [ih e.on this (by omega)]
          rw [hr] at this
          cases this
    induction fuel with
    | zero =>
      intro listed a w hsz hc hsl hSw
      have hnf : false ∉ listed.toList := by
        rw [← List.count_eq_zero]; omega
      have hall : ∀ j, j < ops.size → listed.getD j false = true := by
        intro j hj
        have hj2 : j < listed.size := by omega
        cases hb : listed.getD j false with
        | true => rfl
        | false =>
          exfalso; apply hnf
          simp [Array.getD, hj2] at hb
          rw [← hb]; simp
      refine ⟨?_, fin listed a w hsz hall hsl hSw⟩
      rw [List.eq_nil_iff_forall_not_mem]
      intro i hi
      obtain ⟨h1, h2, _⟩ := ready_mem hi
      have h3 := hall i h1
      have hj2 : i < listed.size := by omega
      simp [Array.getD, hj2] at h2 h3
      rw [h2] at h3; cases h3
    | succ fuel ih =>
      intro listed a w hsz hc hsl hSw
      refine ⟨fun hr => fin listed a w hsz (allOf listed hsz hr) hsl hSw, fun i hi => ?_⟩
      obtain ⟨h1, h2, h3⟩ := ready_mem hi
      have ho : ops[i]? = some ops[i] := Array.getElem?_eq_getElem h1
      have hv : vs[i]? = some (vs[i]'(by omega)) := List.getElem?_eq_getElem (by omega)
      have hpre := slots_fill hn hl' (a0 := a0) i (by omega)
      have hsee := exec_same (regOk_at hok ho).1 (sees hok ho hl' hpre hsl (fun e he hb => by simpa using (regOk_at hok ho).2.1 e he hb) (fun e he hb => h3 _ ho e he hb))
      refine wpOp_of ho (by rw [hpre.2.1, hsl.2.1]) hsee (hs i _ _ (by simp) hv w hSw) hSw fun w' hS' => ?_
      have hil : i < listed.size := by omega
      refine ih _ _ _ (by simp [hsz]) ?_ ?_ hS'
      · have hli : listed.toList[i]'(by simpa using hil) = false := by
          simp [Array.getD, hil] at h2; simpa using h2
        have : 0 < listed.toList.count false := List.count_pos_iff.2 (by rw [← hli]; exact List.getElem_mem _)
        rw [Array.toList_setIfInBounds, List.count_set (by simpa using hil), hli]
        show List.count false listed.toList - 1 + 0 ≤ fuel
        omega
      · have := slots_put hn hsl ho hv
        refine ⟨this.1, this.2.1, fun j o t v hj ht hv2 hb hlt => this.2.2.1 j o t v hj ht hv2 ?_ hlt, fun t ht => this.2.2.2 t fun j o hj hd => ?_⟩
        · by_cases hji : j = i
          · simp [hji]
          · simp only [hji, if_false]
            simpa [Array.getD_eq_getD_getElem?, Array.getElem?_setIfInBounds_ne (Ne.symm hji)] using hb
        · have := ht j o hj hd
          by_cases hji : j = i
          · subst hji; simp [Array.getD_eq_getD_getElem?, hil] at this
          · simp only [hji, if_false]
            simpa [Array.getD_eq_getD_getElem?, Array.getElem?_setIfInBounds_ne (Ne.symm hji)] using this
  refine key ops.size _ a0 _ (by simp) (by simp) ⟨rfl, rfl, fun j o t v _ _ _ hb => ?_, fun _ _ => rfl⟩ hS
  simp only at hb
  rw [Array.getD_eq_getD_getElem?, Array.getElem?_replicate] at hb
  split at hb <;> simp at hb

theorem SeqS.cons {l : Array Oper} {o : Oper} {r : List Oper} {a : Act} {K : Act → Prop} {v : Value} (h1 : ∀ w, S w → wpList P l (StepPost (a.put o.dst v) S) [o] a w) (h2 : SeqS P l S r (a.put o.dst v) K) : SeqS P l S (o :: r) a K := ⟨v, h1, h2⟩
theorem SeqS.nil {l : Array Oper} {a : Act} {K : Act → Prop} (h : K a) : SeqS P l S [] a K := h
theorem wp_region_seq_lit {id : Nat} {l : List Oper} {Q : Exit → Act → World → Prop} {a0 : Act} {w0 : World} (S : World → Prop) (hm : P.follows .mixedOrders = true) (hok : regOk l.toArray = true) (hS : S w0.drew)
    (h : SeqS P l.toArray S l a0 (fun a => ∀ w, S w → Q .normal a w)) : (Code.region id l.toArray true).wp P Q a0 w0 := wp_region_seq hm hok hS (by simpa using h)

end
end Go.Proofs.Ytoapobhdpgcmbaa
