/- A region whose order is open, in which memory is made: its head is walked once, each operation at every later world; what it allots comes in some order; its tail is forced. -/
import Derived.Test.YtoapobhdpgcmbaaReg
import Derived.StillTail
namespace Go.Proofs.Ytoapobhdpgcmbaa
open Go.RowKit

def isAllocB (o : Oper) : Bool := match o.op, o.guard, o.dst with | .alloc _, none, some _ => true | _, _, _ => false

/-- The head's operations but those that allot, one behind the other; each at every later world. -/
def SeqP (P : Program) (ops : Array Oper) (w0 : World) : List Oper → Act → (Act → Prop) → Prop
  | [], a, K => K a
  | o :: r, a, K => if isAllocB o = true then SeqP P ops w0 r a K else ∃ v, (∀ w, Fr [] w0 w → wpList P ops (StepPost (a.put o.dst v) (Fr [] w)) [o] a w) ∧ SeqP P ops w0 r (a.put o.dst v) K

/-- What an allotting operation lays. -/
def AllocIs (P : Program) (ops : Array Oper) (o : Oper) (c : Obj) : Prop :=
  ∀ a w, wpList P ops (fun e a' w' => e = .normal ∧ a' = a.put o.dst (.pointer (some ⟨w.heap.size, 0, none⟩)) ∧ w' = w.alloc c) [o] a w

/-- The pointers laid into their slots. -/
def putPtrs (a : Act) : List (Oper × Nat) → Act
  | [] => a
  | (o, b) :: r => putPtrs (a.put o.dst (.pointer (some ⟨b, 0, none⟩))) r

def headOk (ops : Array Oper) (n : Nat) : Bool :=
  decide (n < ops.size) && Region.sinkB .any ops n && Region.chainB .any ops n &&
  ((ops.toList.take n).zipIdx.all fun (o, i) =>
    (match o.op with | .select .. => false | _ => true) &&
    o.after.all (fun e => !bindsAny e || decide (e.on < i)) &&
    (isAllocB o || (o.looksAt ops).all fun t => !((ops.toList.take n).filterMap (·.dst)).contains t || o.after.any fun e => bindsAny e && decide (e.on < i) && decide ((ops[e.on]?).bind (·.dst) = some t) && !((ops[e.on]?).map isAllocB).getD true)) &&
  decide ((ops.toList.take n).filterMap (·.dst)).Nodup

section
variable {P : Program} {ops : Array Oper}

/-- What the slots hold when those of 'b' are filled. -/
def SlotsV (ops : Array Oper) (n : Nat) (vs : Nat → Value) (a0 : Act) (b : Nat → Bool) (a : Act) : Prop :=
  a.defers = a0.defers ∧ a.tmps.size = a0.tmps.size ∧
  (∀ j o (t : Nat), j < n → ops[j]? = some o → o.dst = some t → b j = true → t < a0.tmps.size → a.tmps[t]? = some (vs j)) ∧
  (∀ t : Nat, (∀ j o, j < n → ops[j]? = some o → o.dst = some t → b j = false) → a.tmps[t]? = a0.tmps[t]?)

theorem head_inj {n : Nat} (h : ((ops.toList.take n).filterMap (·.dst)).Nodup) {i j : Nat} {o o' : Oper} {t : Nat} (hin : i < n) (hjn : j < n) (hi : ops[i]? = some o) (hj : ops[j]? = some o') (h1 : o.dst = some t) (h2 : o'.dst = some t) : i = j := by
  have := dst_inj (ops := (ops.toList.take n).toArray) (i := i) (j := j) (o := o) (o' := o') (t := t) (by unfold dstsOf; simpa using h)
    (by simp [List.getElem?_take, hin]; simpa using hi) (by simp [List.getElem?_take, hjn]; simpa using hj) h1 h2
  exact this

theorem slotsV_put {n : Nat} (hn : ((ops.toList.take n).filterMap (·.dst)).Nodup) {vs : Nat → Value} {a0 a : Act} {b : Nat → Bool} {i : Nat} {o : Oper} {v : Value} (h : SlotsV ops n vs a0 b a) (hin : i < n) (ho : ops[i]? = some o) (hb : b i = false) :
    SlotsV ops n (fun j => if j = i then v else vs j) a0 (fun j => if j = i then true else b j) (a.put o.dst v) := by
  obtain ⟨h1, h2, h3, h4⟩ := h
  refine ⟨by rw [put_defers', h1], by rw [put_size, h2], ?_, ?_⟩
  · intro j o' t hjn hj ht hbj hlt
    by_cases hji : j = i
    · subst hji
      have e1 : o' = o := Option.some.inj (hj.symm.trans ho)
      subst e1
      simp only [if_true]
      rw [ht, put_get, if_pos ⟨rfl, by omega⟩]
    · simp only [hji, if_false] at hbj ⊢
      have := h3 j o' t hjn hj ht hbj hlt
      cases hd : o.dst with
      | none => exact this
      | some d =>
        rw [put_get, if_neg]
        · exact this
        · rintro ⟨rfl, _⟩
          exact hji (head_inj hn hjn hin hj ho ht hd)
  · intro t ht
    have h5 := h4 t (fun j o' hjn hj hd => by
      have := ht j o' hjn hj hd
      by_cases hji : j = i
      · simp [hji] at this
      · simpa [hji] using this)
    cases hd : o.dst with
    | none => exact h5
    | some d =>
      rw [put_get, if_neg]
      · exact h5
      · rintro ⟨rfl, _⟩
        have := ht i o hin ho hd
        simp at this

theorem slotsV_ext {n : Nat} {vs vs' : Nat → Value} {a0 a a' : Act} {b b' : Nat → Bool} (hsz : n ≤ ops.size) (h : SlotsV ops n vs a0 b a) (h' : SlotsV ops n vs' a0 b' a') (hb : ∀ j, j < n → b j = true) (hb' : ∀ j, j < n → b' j = true) (hv : ∀ j, j < n → vs j = vs' j) : a = a' := by
  have e1 : a.defers = a'.defers := by rw [h.1, h'.1]
  have e2 : a.tmps = a'.tmps := by
    apply Array.ext_getElem?
    intro t
    by_cases hd : ∃ j o, j < n ∧ ops[j]? = some o ∧ o.dst = some t
    · obtain ⟨j, o, hj, ho, hdst⟩ := hd
      by_cases hts : t < a0.tmps.size
      · rw [h.2.2.1 j o t hj ho hdst (hb j hj) hts, h'.2.2.1 j o t hj ho hdst (hb' j hj) hts, hv j hj]
      · rw [Array.getElem?_eq_none (by have := h.2.1; omega), Array.getElem?_eq_none (by have := h'.2.1; omega)]
    · rw [h.2.2.2 t (fun j o hj ho hdst => absurd ⟨j, o, hj, ho, hdst⟩ hd), h'.2.2.2 t (fun j o hj ho hdst => absurd ⟨j, o, hj, ho, hdst⟩ hd)]
  cases a; cases a'; simp only at e1 e2; rw [e1, e2]

def fillP (a : Act) : List Oper → (Nat → Value) → Nat → Act
  | [], _, _ => a
  | o :: r, V, k => fillP (if isAllocB o = true then a else a.put o.dst (V k)) r V (k + 1)
def putA (a : Act) : List Oper → (Nat → Nat) → Nat → Act
  | [], _, _ => a
  | o :: r, β, k => putA (if isAllocB o = true then a.put o.dst (.pointer (some ⟨β k, 0, none⟩)) else a) r β (k + 1)

theorem putA_none : ∀ (l : List Oper) (a : Act) (β : Nat → Nat) (k : Nat), (l.all fun o => !isAllocB o) = true → putA a l β k = a
  | [], _, _, _, _ => rfl
  | o :: r, a, β, k, h => by
    simp only [List.all_cons, Bool.and_eq_true, Bool.not_eq_true'] at h
    simp only [putA, h.1, Bool.false_eq_true, if_false]
    exact putA_none r a β (k + 1) h.2

theorem seqP_vals {w0 : World} : ∀ (l : List Oper) (a : Act) (K : Act → Prop) (k : Nat), SeqP P ops w0 l a K → ∃ V : Nat → Value, K (fillP a l V k) ∧
    ∀ i o, l[i]? = some o → isAllocB o = false → ∀ w, Fr [] w0 w → wpList P ops (StepPost ((fillP a (l.take i) V k).put o.dst (V (k + i))) (Fr [] w)) [o] (fillP a (l.take i) V k) w := by
  intro l
  induction l with
  | nil => intro a K k h; exact ⟨fun _ => undef, h, fun i o hi => by simp at hi⟩
  | cons o r ih =>
    intro a K k h
    by_cases hal : isAllocB o = true
    · have h' : SeqP P ops w0 r a K := by simpa [SeqP, hal] using h
      obtain ⟨V, hk, hs⟩ := ih a K (k + 1) h'
      refine ⟨V, by simpa [fillP, hal] using hk, fun i o' hi hn w hw => ?_⟩
      cases i with
      | zero => simp at hi; subst hi; rw [hal] at hn; cases hn
      | succ i =>
        simp at hi
        have := hs i o' hi hn w hw
        simpa [fillP, hal, Nat.add_assoc, Nat.add_comm 1 i] using this
    · have hal' : isAllocB o = false := by simpa using hal
      simp only [SeqP, hal', Bool.false_eq_true, if_false] at h
      obtain ⟨v, h1, h2⟩ := h
      obtain ⟨V, hk, hs⟩ := ih _ K (k + 1) h2
      have same : ∀ (l : List Oper) (a : Act) (m : Nat), k < m → fillP a l (fun j => if j = k then v else V j) m = fillP a l V m := by
        intro l
        induction l with
        | nil => intro a m _; rfl
        | cons x l ihl =>
          intro a m hm
          simp only [fillP]
          rw [ihl _ (m + 1) (by omega), if_neg (show ¬ m = k by omega)]
      refine ⟨fun j => if j = k then v else V j, ?_, fun i o' hi hn w hw => ?_⟩
      · simp only [fillP, hal', Bool.false_eq_true, if_false, if_true]
        rw [same r _ (k + 1) (by omega)]; exact hk
      · cases i with
        | zero => simp at hi; subst hi; simpa [fillP] using h1 w hw
        | succ i =>
          simp at hi
          have := hs i o' hi hn w hw
          simp only [List.take_succ_cons, fillP, hal', Bool.false_eq_true, if_false, if_true]
          rw [same _ _ (k + 1) (by omega), if_neg (by omega), show k + (i + 1) = k + 1 + i by omega]
          exact this

theorem fillP_snoc (V : Nat → Value) : ∀ (l : List Oper) (a : Act) (o : Oper) (k : Nat), fillP a (l ++ [o]) V k = if isAllocB o = true then fillP a l V k else (fillP a l V k).put o.dst (V (k + l.length)) := by
  intro l
  induction l with
  | nil => intro a o k; by_cases h : isAllocB o = true <;> simp [fillP, h]
  | cons x l ih => intro a o k; simp only [List.cons_append, fillP]; rw [ih, List.length_cons, show k + 1 + l.length = k + (l.length + 1) by omega]
theorem putA_snoc (β : Nat → Nat) : ∀ (l : List Oper) (a : Act) (o : Oper) (k : Nat), putA a (l ++ [o]) β k = if isAllocB o = true then (putA a l β k).put o.dst (.pointer (some ⟨β (k + l.length), 0, none⟩)) else putA a l β k := by
  intro l
  induction l with
  | nil => intro a o k; by_cases h : isAllocB o = true <;> simp [putA, h]
  | cons x l ih => intro a o k; simp only [List.cons_append, putA]; rw [ih, List.length_cons, show k + 1 + l.length = k + (l.length + 1) by omega]

def allocAt (ops : Array Oper) (j : Nat) : Bool := ((ops[j]?).map isAllocB).getD false

theorem slotsV_congr {n : Nat} {vs vs' : Nat → Value} {a0 a : Act} {b b' : Nat → Bool} (h : SlotsV ops n vs a0 b a) (hb : ∀ j, j < n → b j = b' j) (hv : ∀ j, j < n → b j = true → vs j = vs' j) : SlotsV ops n vs' a0 b' a :=
  ⟨h.1, h.2.1, fun j o t hj ho hd hbj hlt => by rw [← hv j hj (by rw [hb j hj]; exact hbj)]; exact h.2.2.1 j o t hj ho hd (by rw [hb j hj]; exact hbj) hlt,
   fun t ht => h.2.2.2 t fun j o hj ho hd => by rw [hb j hj]; exact ht j o hj ho hd⟩

theorem slotsV_fillP {n : Nat} (hn : ((ops.toList.take n).filterMap (·.dst)).Nodup) (hsz : n ≤ ops.size) {V : Nat → Value} {a0 : Act} : ∀ i, i ≤ n → SlotsV ops n V a0 (fun j => decide (j < i) && !allocAt ops j) (fillP a0 (ops.toList.take i) V 0) := by
  intro i
  induction i with
  | zero => intro _; exact ⟨rfl, rfl, fun j o t _ _ _ hb => by simp at hb, fun _ _ => rfl⟩
  | succ i ih =>
    intro hi
    have h := ih (by omega)
    have ho : ops[i]? = some ops[i] := Array.getElem?_eq_getElem (by omega)
    have hlen : (ops.toList.take i).length = i := by simp; omega
    rw [List.take_add_one, show ops.toList[i]? = some ops[i] by simp, Option.toList_some, fillP_snoc, hlen, Nat.zero_add]
    by_cases hal : isAllocB ops[i] = true
    · rw [if_pos hal]
      refine slotsV_congr h (fun j hj => ?_) (fun _ _ _ => rfl)
      by_cases hji : j = i
      · subst hji; simp [allocAt, ho, hal]
      · by_cases hlt : j < i
        · simp [hlt, show j < i + 1 by omega]
        · simp [hlt, show ¬ j < i + 1 by omega]
    · rw [if_neg hal]
      have hal' : isAllocB ops[i] = false := by simpa using hal
      have := slotsV_put hn (v := V i) h (by omega) ho (by simp)
      refine slotsV_congr this (fun j hj => ?_) (fun j hj hb => ?_)
      · by_cases hji : j = i
        · subst hji; simp [allocAt, ho, hal']
        · by_cases hlt : j < i
          · simp [hji, hlt, show j < i + 1 by omega]
          · simp [hji, hlt, show ¬ j < i + 1 by omega]
      · by_cases hji : j = i
        · simp [hji]
        · simp [hji]

theorem slotsV_putA {n : Nat} (hn : ((ops.toList.take n).filterMap (·.dst)).Nodup) (hsz : n ≤ ops.size) {V : Nat → Value} {β : Nat → Nat} {a0 aP : Act} (h0 : SlotsV ops n V a0 (fun j => decide (j < n) && !allocAt ops j) aP) :
    ∀ i, i ≤ n → SlotsV ops n (fun j => if allocAt ops j = true then .pointer (some ⟨β j, 0, none⟩) else V j) a0 (fun j => decide (j < i) || !allocAt ops j) (putA aP (ops.toList.take i) β 0) := by
  intro i
  induction i with
  | zero =>
    intro _
    refine slotsV_congr h0 (fun j hj => by simp [hj]) (fun j hj hb => ?_)
    simp at hb; simp [hb]
  | succ i ih =>
    intro hi
    have h := ih (by omega)
    have ho : ops[i]? = some ops[i] := Array.getElem?_eq_getElem (by omega)
    have hlen : (ops.toList.take i).length = i := by simp; omega
    rw [List.take_add_one, show ops.toList[i]? = some ops[i] by simp, Option.toList_some, putA_snoc, hlen, Nat.zero_add]
    by_cases hal : isAllocB ops[i] = true
    · rw [if_pos hal]
      have hat : allocAt ops i = true := by simp [allocAt, ho, hal]
      have := slotsV_put hn (v := .pointer (some ⟨β i, 0, none⟩)) h (by omega) ho (by simp [hat])
      refine slotsV_congr this (fun j hj => ?_) (fun j hj hb => ?_)
      · by_cases hji : j = i
        · subst hji; simp
        · by_cases hlt : j < i
          · simp [hji, hlt, show j < i + 1 by omega]
          · simp [hji, hlt, show ¬ j < i + 1 by omega]
      · by_cases hji : j = i
        · subst hji; simp [hat]
        · simp [hji]
    · rw [if_neg hal]
      have hat : allocAt ops i = false := by simp [allocAt, ho]; simpa using hal
      refine slotsV_congr h (fun j hj => ?_) (fun _ _ _ => rfl)
      by_cases hji : j = i
      · subst hji; simp [hat]
      · by_cases hlt : j < i
        · simp [hlt, show j < i + 1 by omega]
        · simp [hlt, show ¬ j < i + 1 by omega]

theorem headOk_at {n : Nat} (h : headOk ops n = true) {i : Nat} {o : Oper} (hin : i < n) (ho : ops[i]? = some o) : (∀ cs b, o.op ≠ .select cs b) ∧ (∀ e ∈ o.after, bindsAny e = true → e.on < i) ∧
    (isAllocB o = false → ∀ t ∈ o.looksAt ops, t ∈ ((ops.toList.take n).filterMap (·.dst)) → ∃ e ∈ o.after, bindsAny e = true ∧ e.on < i ∧ (ops[e.on]?).bind (·.dst) = some t ∧ allocAt ops e.on = false) := by
  simp only [headOk, Bool.and_eq_true] at h
  have h1 := List.all_eq_true.1 h.1.2 (o, i) (by
    rw [List.mem_iff_getElem?]; refine ⟨i, ?_⟩
    simp [List.getElem?_zipIdx, List.getElem?_take, hin, ho])
  dsimp only at h1
  rw [Bool.and_eq_true, Bool.and_eq_true] at h1
  obtain ⟨⟨h2, h3⟩, h4⟩ := h1
  refine ⟨fun cs b hc => (by rw [hc] at h2; cases h2), fun e he hb => ?_, fun hal t ht hd => ?_⟩
  · have := (Array.all_eq_true'.1 h3) e he
    rw [hb] at this
    simpa using this
  · rw [hal, Bool.false_or] at h4
    have h5 := List.all_eq_true.1 h4 t ht
    simp only [Bool.or_eq_true, Bool.not_eq_true'] at h5
    rcases h5 with h5 | h5
    · have : ((ops.toList.take n).filterMap (·.dst)).contains t = true := by simpa using hd
      rw [this] at h5; cases h5
    · obtain ⟨e, he, h6⟩ := Array.any_eq_true'.1 h5
      simp only [Bool.and_eq_true, decide_eq_true_eq, Bool.not_eq_true'] at h6
      refine ⟨e, he, h6.1.1.1, h6.1.1.2, h6.1.2, ?_⟩
      have h7 := h6.2
      unfold allocAt
      cases hx : ops[e.on]? with
      | none => rfl
      | some y => rw [hx] at h7; simpa using h7

theorem seesV {n : Nat} (hok : headOk ops n = true) (hsz : n ≤ ops.size) {vs vs' : Nat → Value} {a0 a a' : Act} {b b' : Nat → Bool} {i : Nat} {o : Oper} (hin : i < n) (ho : ops[i]? = some o) (hal : isAllocB o = false)
    (h : SlotsV ops n vs a0 b a) (h' : SlotsV ops n vs' a0 b' a')
    (hb : ∀ e ∈ o.after, bindsAny e = true → allocAt ops e.on = false → e.on < i → b e.on = true ∧ b' e.on = true ∧ vs e.on = vs' e.on) : ∀ t ∈ o.looksAt ops, a.tmps[t]? = a'.tmps[t]? := by
  intro t ht
  by_cases hd : t ∈ ((ops.toList.take n).filterMap (·.dst))
  · obtain ⟨e, he, hbe, hlt, hdst, hea⟩ := (headOk_at hok hin ho).2.2 hal t ht hd
    obtain ⟨b1, b2, b3⟩ := hb e he hbe hea hlt
    have hj : ops[e.on]? = some ops[e.on] := Array.getElem?_eq_getElem (by omega)
    rw [hj] at hdst
    by_cases hs : t < a0.tmps.size
    · rw [h.2.2.1 _ _ t (by omega) hj (by simpa using hdst) b1 hs, h'.2.2.1 _ _ t (by omega) hj (by simpa using hdst) b2 hs, b3]
    · have hs' : a0.tmps.size ≤ t := Nat.not_lt.1 hs
      rw [Array.getElem?_eq_none (Nat.le_trans (Nat.le_of_eq h.2.1) hs'), Array.getElem?_eq_none (Nat.le_trans (Nat.le_of_eq h'.2.1) hs')]
  · have none : ∀ (c : Nat → Bool) j o', j < n → ops[j]? = some o' → o'.dst = some t → c j = false := fun c j o' hjn hj hdst => absurd (List.mem_filterMap.2 ⟨o', by
      rw [List.mem_iff_getElem?]; exact ⟨j, by simp [List.getElem?_take, hjn, hj]⟩, hdst⟩) hd
    rw [h.2.2.2 t (none b), h'.2.2.2 t (none b')]

/-- One plain operation, at another state that it sees the same; the world may have grown. -/
theorem wpOpF_of {Q : Exit → Act → World → Prop} {K : Act → World → Prop} {a a' : Act} {i : Nat} {o : Oper} {v : Value} {w : World} (ho : ops[i]? = some o) (hsz : a.tmps.size = a'.tmps.size)
    (he : execOp a.eval o = execOp a'.eval o ∧ Region.wanted o (yielded ops a.tmps) = Region.wanted o (yielded ops a'.tmps))
    (h : wpList P ops (StepPost (a.put o.dst v) (Fr [] w)) [o] a w) (hK : ∀ w', Fr [] w w' → K (a'.put o.dst v) w') : wpOp P ops Q i K a' w :=
  wpOp_of (S := Fr [] w) ho hsz he h (Fr.refl _ _) hK

/-- An allotting operation. -/
theorem wpOp_alloc {Q : Exit → Act → World → Prop} {K : Act → World → Prop} {a : Act} {i : Nat} {o : Oper} {w : World} {c : Obj} (ho : ops[i]? = some o) (hg : o.guard = none) (hc : AllocIs P ops o c)
    (hK : K (a.put o.dst (.pointer (some ⟨w.heap.size, 0, none⟩))) (w.alloc c)) : wpOp P ops Q i K a w := by
  have h := hc a w
  unfold wpOp
  rw [ho]
  simp only
  unfold wpList at h
  have hw : Region.wanted o (yielded ops a.tmps) = true := by simp [Region.wanted, hg]
  rw [if_pos hw] at h ⊢
  have hno : ¬ LetsOut (fun (e : Exit) (a'' : Act) (w' : World) => e = .normal ∧ a'' = a.put o.dst (.pointer (some ⟨w.heap.size, 0, none⟩)) ∧ w' = w.alloc c) := by
    rintro ⟨_, _, h1, _⟩; cases h1
  rcases h with h | ⟨_, h⟩
  case inr => exact (hno h).elim
  refine .inl ?_
  unfold Oper.wp at *
  generalize (execOp a.eval o).run P w = r at *
  cases r with
  | ok x w' =>
    cases x <;> simp only [Oper.upon, wpList] at h ⊢
    case value u => rw [h.2.1, h.2.2]; exact hK
    case skip => rw [h.2.1, h.2.2]; exact hK
    case defer d =>
      have := congrArg (fun (x : Act) => x.defers.length) h.2.1
      simp [put_defers'] at this
    case enter f args =>
      refine Calls.mono h fun e w'' hh => ?_
      cases e with
      | returned u => simp only at hh; show K (a.put o.dst u) w''; rw [hh.2.1, hh.2.2]; exact hK
      | panicked c => simp only at hh; cases hh.1
      | outgrown => exact (hno hh).elim
    case row row args => exact Rows.mono h fun u w'' hh => by rw [hh.2.1, hh.2.2]; exact hK
  | halt x w' =>
    cases x <;> simp only [Oper.upon] at h ⊢
    case panic u => cases h.1

/-- The flags behind the head: all of it listed, nothing of the tail. -/
def headDone (ops : Array Oper) (n : Nat) : Array Bool := Array.replicate n true ++ Array.replicate (ops.size - n) false

theorem wp_region_mix {id n : Nat} {Q : Exit → Act → World → Prop} {a0 : Act} {w0 : World} (C : Nat → Obj) (hm : P.follows .mixedOrders = true) (hok : headOk ops n = true)
    (htail : Region.seqB .any ops (ops.size - n) n (headDone ops n) = true)
    (hC : ∀ j o, j < n → ops[j]? = some o → isAllocB o = true → AllocIs P ops o (C j))
    (h : SeqP P ops w0.drew (ops.toList.take n) a0 (fun a => ∀ (β : Nat → Nat) w, Fr [] w0.drew w → (∀ j, j < n → allocAt ops j = true → w0.heap.size ≤ β j ∧ w.heap[β j]? = some (C j)) →
      (∀ j k, j < n → k < n → allocAt ops j = true → allocAt ops k = true → j ≠ k → β j ≠ β k) → wpList P ops Q (ops.toList.drop n) (putA a (ops.toList.take n) β 0) w)) :
    (Code.region id ops true).wp P Q a0 w0 := by
  obtain ⟨V, hk, hs⟩ := seqP_vals _ _ _ _ h
  have hok' := hok
  simp only [headOk, Bool.and_eq_true, decide_eq_true_eq] at hok'
  obtain ⟨⟨⟨⟨hlt, hsink⟩, hchain⟩, _⟩, hn⟩ := hok'
  have hsz : n ≤ ops.size := by omega
  refine wp_region_any hm ?_
  have key : ∀ f (listed : Array Bool) a w (vs : Nat → Value) (β : Nat → Nat), HeadInv .any ops n listed → listed.toList.count false = f + (ops.size - n) →
      (∀ j, j < n → allocAt ops j = false → vs j = V j) → (∀ j, j < n → allocAt ops j = true → listed.getD j false = true → vs j = .pointer (some ⟨β j, 0, none⟩) ∧ w0.heap.size ≤ β j ∧ w.heap[β j]? = some (C j)) →
      (∀ j k, j < n → k < n → allocAt ops j = true → allocAt ops k = true → listed.getD j false = true → listed.getD k false = true → j ≠ k → β j ≠ β k) →
      SlotsV ops n vs a0 (fun j => listed.getD j false) a → Fr [] w0.drew w → wpAny P .any ops Q (f + (ops.size - n)) listed a w := by
    intro f
    have cnt : ∀ (listed : Array Bool), HeadInv .any ops n listed → listed.toList.count false = (listed.toList.take n).count false + (ops.size - n) := by
      intro listed inv
      have e : listed.toList.drop n = List.replicate (ops.size - n) false := by
        apply List.ext_getElem?
        intro j
        rw [List.getElem?_drop, List.getElem?_replicate]
        by_cases hj : j < ops.size - n
        · rw [if_pos hj]
          have := inv.tail (n + j) (by omega) (by omega)
          have hl : n + j < listed.size := by rw [inv.size]; omega
          simp [Array.getD, hl] at this
          simp [hl, this]
        · rw [if_neg hj, List.getElem?_eq_none (by simp [inv.size]; omega)]
      have : listed.toList.count false = (listed.toList.take n).count false + (listed.toList.drop n).count false := by rw [← List.count_append, List.take_append_drop]
      rw [this, e]; simp [List.count_replicate]
    induction f with
    | zero =>
      intro listed a w vs β inv hc hvs hal hdis hsl hfr
      have hc0 : (listed.toList.take n).count false = 0 := by have := cnt listed inv; omega
      have hall : ∀ j, j < n → listed.getD j false = true := by
        intro j hj
        have hl : j < listed.size := by rw [inv.size]; omega
        cases hb : listed.getD j false with
        | true => rfl
        | false =>
          exfalso
          rw [List.count_eq_zero] at hc0
          apply hc0
          rw [List.mem_iff_getElem?]
          refine ⟨j, ?_⟩
          simp [Array.getD, hl] at hb
          simp [List.getElem?_take, hj, hl, hb]
      have hlist : listed = headDone ops n := by
        apply Array.ext_getElem?
        intro j
        unfold headDone
        rw [Array.getElem?_append]
        by_cases hj : j < n
        · have hl : j < listed.size := by rw [inv.size]; omega
          have := hall j hj
          simp [Array.getD, hl] at this
          simp [hj, hl, this]
        · by_cases hj2 : j < ops.size
          · have hl : j < listed.size := by rw [inv.size]; omega
            have := inv.tail j (by omega) hj2
            simp [Array.getD, hl] at this
            rw [if_neg (by simpa using hj), Array.size_replicate, Array.getElem?_replicate, if_pos (by omega), Array.getElem?_eq_getElem hl, this]
          · rw [if_neg (by simpa using hj), Array.size_replicate, Array.getElem?_replicate, if_neg (by omega), Array.getElem?_eq_none (show listed.size ≤ j by rw [inv.size]; omega)]
      have ea : a = putA (fillP a0 (ops.toList.take n) V 0) (ops.toList.take n) β 0 := by
        refine slotsV_ext hsz hsl (slotsV_putA hn hsz (slotsV_fillP hn hsz n (Nat.le_refl _)) n (Nat.le_refl _) (β := β)) hall (fun j hj => by simp [hj]) (fun j hj => ?_)
        by_cases ha : allocAt ops j = true
        · simp only [ha, if_true]; exact (hal j hj ha (hall j hj)).1
        · simp only [ha, if_false, Bool.false_eq_true]; exact hvs j hj (by simpa using ha)
      have hw := hk β w hfr (fun j hj ha => (hal j hj ha (hall j hj)).2) (fun j k hj hk' ha hb hne => hdis j k hj hk' ha hb (hall j hj) (hall k hk') hne)
      rw [← ea] at hw
      have := wpAny_of_seq (md := .any) (ops.toList.drop n) n listed a w (fun j => by simp) (by rw [hlist]; simpa using htail) hw
      simpa using this
    | succ f ih =>
      intro listed a w vs β inv hc hvs hal hdis hsl hfr
      have hpos : 0 < (listed.toList.take n).count false := by have := cnt listed inv; omega
      obtain ⟨j0, hj0n, hj0⟩ : ∃ j, j < n ∧ listed.getD j true = false := by
        have := List.count_pos_iff.1 hpos
        obtain ⟨j, hj⟩ := List.mem_iff_getElem?.1 this
        rw [List.getElem?_take] at hj
        split at hj
        · rename_i hlt'
          refine ⟨j, hlt', ?_⟩
          have hl : j < listed.size := by rw [inv.size]; omega
          simp [hl] at hj
          simp [Array.getD, hl, hj]
        · cases hj
      rw [show f + 1 + (ops.size - n) = (f + (ops.size - n)) + 1 by omega]
      refine ⟨fun hr => ?_, fun i hi => ?_⟩
      · exfalso
        have : ∀ j, j < n → listed.getD j true = true := by
          intro j
          induction j using Nat.strongRecOn with
          | _ j ihj =>
            intro hj
            cases hb : listed.getD j true with
            | true => rfl
            | false =>
              exfalso
              have ho : ops[j]? = some ops[j] := Array.getElem?_eq_getElem (by omega)
              have : j ∈ Region.ready .any ops listed := mem_ready.2 ⟨hb, _, ho, fun e he hbe => by
                have hlt' := (headOk_at hok hj ho).2.1 e he hbe
                have h1 := ihj e.on hlt' (by omega)
                have hl : e.on < listed.size := by rw [inv.size]; omega
                simp [Array.getD, hl] at h1 ⊢; exact h1⟩
              rw [hr] at this; cases this
        rw [this j0 hj0n] at hj0; cases hj0
      · have hin : i < n := by
          rcases Nat.lt_or_ge i n with h | h
          · exact h
          · exact absurd hi (tail_waits hsink hchain hlt inv _ j0 rfl hj0n hj0 i h)
        obtain ⟨hun, o, ho, hall⟩ := mem_ready.1 hi
        have hil : i < listed.size := by rw [inv.size]; omega
        have hif : listed.getD i false = false := getD_both hun
        have inv' := inv.set hi hin
        have hcnt : (listed.setIfInBounds i true).toList.count false = f + (ops.size - n) := by
          have hli : listed.toList[i]'(by simpa using hil) = false := by
            simp [Array.getD, hil] at hun; simpa using hun
          have hp : 0 < listed.toList.count false := List.count_pos_iff.2 (by rw [← hli]; exact List.getElem_mem _)
          rw [Array.toList_setIfInBounds, List.count_set (by simpa using hil), hli]
          show List.count false listed.toList - 1 + 0 = _
          omega
        have hget : ∀ j, (listed.setIfInBounds i true).getD j false = if j = i then true else listed.getD j false := by
          intro j
          by_cases hji : j = i
          · subst hji; simp [Array.getD_eq_getD_getElem?, hil]
          · simp [Array.getD_eq_getD_getElem?, Array.getElem?_setIfInBounds_ne (Ne.symm hji), hji]
        by_cases ha : isAllocB o = true
        · have hat : allocAt ops i = true := by simp [allocAt, ho, ha]
          have hg : o.guard = none := by
            unfold isAllocB at ha
            split at ha
            · assumption
            · cases ha
          refine wpOp_alloc ho hg (hC i o hin ho ha) ?_
          have hsz0 : w0.heap.size ≤ w.heap.size := hfr.size
          refine ih _ _ _ (fun j => if j = i then .pointer (some ⟨w.heap.size, 0, none⟩) else vs j) (fun j => if j = i then w.heap.size else β j) inv' hcnt (fun j hj hna => ?_) (fun j hj hja hjl => ?_) (fun j k hj hk' hja hka hjl hkl hne => ?_) ?_ (hfr.trans ((Fr.refl _ _).alloc _))
          · by_cases hji : j = i
            · subst hji; rw [hat] at hna; cases hna
            · simp only [hji, if_false]; exact hvs j hj hna
          · by_cases hji : j = i
            · subst hji; simp only [if_true]; exact ⟨trivial, hsz0, heap_alloc_new _ _⟩
            · simp only [hji, if_false]
              rw [hget, if_neg hji] at hjl
              obtain ⟨h1, h2, h3⟩ := hal j hj hja hjl
              exact ⟨h1, h2, heap_alloc_old h3 _⟩
          · rw [hget] at hjl hkl
            by_cases hji : j = i
            · by_cases hki : k = i
              · exact absurd (hji.trans hki.symm) hne
              · simp only [hji, hki, if_true, if_false] at hkl ⊢
                have := lt_of_heap (hal k hk' hka hkl).2.2
                omega
            · by_cases hki : k = i
              · simp only [hji, hki, if_true, if_false] at hjl ⊢
                have := lt_of_heap (hal j hj hja hjl).2.2
                omega
              · simp only [hji, hki, if_false] at hjl hkl ⊢
                exact hdis j k hj hk' hja hka hjl hkl hne
          · refine slotsV_congr (slotsV_put hn (v := .pointer (some ⟨w.heap.size, 0, none⟩)) hsl hin ho hif) (fun j hj => (hget j).symm) (fun _ _ _ => rfl)
        · have ha' : isAllocB o = false := by simpa using ha
          have hat : allocAt ops i = false := by simp [allocAt, ho, ha']
          have hpre := slotsV_fillP hn hsz (V := V) (a0 := a0) i (by omega)
          have hsee := exec_same (headOk_at hok hin ho).1 (seesV hok hsz hin ho ha' hpre hsl (fun e he hbe hea helt => ⟨by simp [helt, hea], hall e he hbe, (hvs e.on (by omega) hea).symm⟩))
          refine wpOpF_of ho (by rw [hpre.2.1, hsl.2.1]) hsee (by have := hs i o (by simp [List.getElem?_take, hin, ho]) ha' w hfr; rw [List.take_take, Nat.min_eq_left (by omega), Nat.zero_add] at this; exact this) fun w' hS' => ?_
          refine ih _ _ _ vs β inv' hcnt hvs (fun j hj hja hjl => ?_) (fun j k hj hk' hja hka hjl hkl hne => ?_) ?_ (hfr.trans hS')
          · rw [hget] at hjl
            by_cases hji : j = i
            · subst hji; rw [hat] at hja; cases hja
            · rw [if_neg hji] at hjl
              obtain ⟨h1, h2, h3⟩ := hal j hj hja hjl
              exact ⟨h1, h2, hS'.heap h3 (by simp)⟩
          · rw [hget] at hjl hkl
            by_cases hji : j = i
            · subst hji; rw [hat] at hja; cases hja
            · by_cases hki : k = i
              · subst hki; rw [hat] at hka; cases hka
              · rw [if_neg hji] at hjl
                rw [if_neg hki] at hkl
                exact hdis j k hj hk' hja hka hjl hkl hne
          · refine slotsV_congr (slotsV_put hn (v := V i) hsl hin ho hif) (fun j hj => (hget j).symm) (fun j hj _ => ?_)
            by_cases hji : j = i
            · subst hji; simp only [if_true]; exact (hvs j hj hat).symm
            · simp only [hji, if_false]
  have := key n (Array.replicate ops.size false) a0 w0.drew V (fun _ => 0)
    ⟨by simp, fun j oj _ hl => (by rw [getD_replicate_false] at hl; cases hl), fun t _ ht => getD_in (by simpa using ht) (getD_replicate_false _ _)⟩ (by simp; omega) (fun _ _ _ => rfl)
    (fun j _ _ hl => (by rw [getD_replicate_false] at hl; cases hl)) (fun j _ _ _ _ _ hl => (by rw [getD_replicate_false] at hl; cases hl))
    ⟨rfl, rfl, fun j o t _ _ _ hb => (by simp only at hb; rw [getD_replicate_false] at hb; cases hb), fun _ _ => rfl⟩ (Fr.refl _ _)
  rw [show n + (ops.size - n) = ops.size by omega] at this
  exact this

theorem SeqP.skip {w0 : World} {o : Oper} {r : List Oper} {a : Act} {K : Act → Prop} (ha : isAllocB o = true) (h : SeqP P ops w0 r a K) : SeqP P ops w0 (o :: r) a K := by
  simp only [SeqP, ha, if_true]; exact h
theorem SeqP.cons {w0 : World} {o : Oper} {r : List Oper} {a : Act} {K : Act → Prop} {v : Value} (ha : isAllocB o = false) (h1 : ∀ w, Fr [] w0 w → wpList P ops (StepPost (a.put o.dst v) (Fr [] w)) [o] a w) (h2 : SeqP P ops w0 r (a.put o.dst v) K) : SeqP P ops w0 (o :: r) a K := by
  simp only [SeqP, ha, Bool.false_eq_true, if_false]; exact ⟨v, h1, h2⟩
theorem SeqP.nil {w0 : World} {a : Act} {K : Act → Prop} (h : K a) : SeqP P ops w0 [] a K := h

theorem wp_region_mix_lit {id : Nat} {l : List Oper} {Q : Exit → Act → World → Prop} {a0 : Act} {w0 : World} (n : Nat) (cs : List (Nat × Obj)) (hm : P.follows .mixedOrders = true) (hok : headOk l.toArray n = true)
    (htail : Region.seqB .any l.toArray (l.toArray.size - n) n (headDone l.toArray n) = true) (hidx : (List.range n).filter (allocAt l.toArray) = cs.map (·.1))
    (hC : ∀ p ∈ cs, ∃ o, l[p.1]? = some o ∧ AllocIs P l.toArray o p.2)
    (h : SeqP P l.toArray w0.drew (l.take n) a0 (fun a => ∀ (β : Nat → Nat) w, Fr [] w0.drew w → (∀ p ∈ cs, w0.heap.size ≤ β p.1 ∧ w.heap[β p.1]? = some p.2) →
      (cs.map fun p => β p.1).Nodup → wpList P l.toArray Q (l.drop n) (putA a (l.take n) β 0) w)) :
    (Code.region id l.toArray true).wp P Q a0 w0 := by
  have hlook : ∀ j, j < n → allocAt l.toArray j = true → ∃ c, (j, c) ∈ cs := by
    intro j hj ha
    have : j ∈ (List.range n).filter (allocAt l.toArray) := List.mem_filter.2 ⟨List.mem_range.2 hj, ha⟩
    rw [hidx] at this
    obtain ⟨p, hp, rfl⟩ := List.mem_map.1 this
    exact ⟨p.2, hp⟩
  have hnd : (cs.map (·.1)).Nodup := by rw [← hidx]; exact List.Pairwise.filter _ List.nodup_range
  let C : Nat → Obj := fun j => ((cs.find? fun p => p.1 == j).map (·.2)).getD (.cells #[] 0)
  have hCat : ∀ p ∈ cs, C p.1 = p.2 := by
    intro p hp
    have : ∀ (cs : List (Nat × Obj)), (cs.map (·.1)).Nodup → p ∈ cs → cs.find? (fun q => q.1 == p.1) = some p := by
      intro cs
      induction cs with
      | nil => intro _ h; cases h
      | cons q r ih =>
        intro hnd hp
        rw [List.map_cons, List.nodup_cons] at hnd
        rcases List.mem_cons.1 hp with rfl | hp'
        · simp
        · have hne : (q.1 == p.1) = false := by
            rw [beq_eq_false_iff_ne]; intro e; exact hnd.1 (e ▸ List.mem_map.2 ⟨p, hp', rfl⟩)
          rw [List.find?_cons, hne]; exact ih hnd.2 hp'
    simp only [C, this cs hnd hp, Option.map_some, Option.getD_some]
  refine wp_region_mix (n := n) C hm hok htail (fun j o hj ho ha => ?_) ?_
  · obtain ⟨c, hc⟩ := hlook j hj (by unfold allocAt; rw [ho]; exact ha)
    obtain ⟨o', ho', hA⟩ := hC _ hc
    have : o' = o := Option.some.inj (ho'.symm.trans (by simpa using ho))
    subst this
    rw [hCat _ hc]; exact hA
  · have mono : ∀ (l' : List Oper) (a : Act) (K K' : Act → Prop), (∀ a, K a → K' a) → SeqP P l.toArray w0.drew l' a K → SeqP P l.toArray w0.drew l' a K' := by
      intro l'
      induction l' with
      | nil => intro a K K' hK h; exact hK a h
      | cons o r ih =>
        intro a K K' hK h
        by_cases ha : isAllocB o = true
        · exact SeqP.skip ha (ih a K K' hK (by simpa [SeqP, ha] using h))
        · have ha' : isAllocB o = false := by simpa using ha
          simp only [SeqP, ha', Bool.false_eq_true, if_false] at h
          obtain ⟨v, h1, h2⟩ := h
          exact SeqP.cons ha' h1 (ih _ K K' hK h2)
    refine mono _ _ _ _ (fun a hK => ?_) h
    intro β w hf hal hdis
    refine hK β w hf (fun p hp => ?_) ?_
    · have hm' : p.1 ∈ (List.range n).filter (allocAt l.toArray) := by rw [hidx]; exact List.mem_map.2 ⟨p, hp, rfl⟩
      obtain ⟨h1, h2⟩ := List.mem_filter.1 hm'
      have := hal p.1 (List.mem_range.1 h1) h2
      rw [hCat p hp] at this; exact this
    · have hin : ∀ p ∈ cs, p.1 < n ∧ allocAt l.toArray p.1 = true := by
        intro p hp
        have hm' : p.1 ∈ (List.range n).filter (allocAt l.toArray) := by rw [hidx]; exact List.mem_map.2 ⟨p, hp, rfl⟩
        obtain ⟨h1, h2⟩ := List.mem_filter.1 hm'
        exact ⟨List.mem_range.1 h1, h2⟩
      have : ∀ (r : List (Nat × Obj)), (∀ p ∈ r, p ∈ cs) → (r.map (·.1)).Nodup → (r.map fun p => β p.1).Nodup := by
        intro r
        induction r with
        | nil => intro _ _; exact List.nodup_nil
        | cons q r ih =>
          intro hsub hnd
          rw [List.map_cons, List.nodup_cons] at hnd ⊢
          refine ⟨fun hmem => ?_, ih (fun p hp => hsub p (List.mem_cons_of_mem _ hp)) hnd.2⟩
          obtain ⟨p, hp, hpe⟩ := List.mem_map.1 hmem
          have hq := hin q (hsub q (List.mem_cons_self ..))
          have hp' := hin p (hsub p (List.mem_cons_of_mem _ hp))
          have hne : p.1 ≠ q.1 := fun e => hnd.1 (e ▸ List.mem_map.2 ⟨p, hp, rfl⟩)
          exact hdis p.1 q.1 hp'.1 hq.1 hp'.2 hq.2 hne hpe
      exact this cs (fun _ h => h) hnd

end
end Go.Proofs.Ytoapobhdpgcmbaa
