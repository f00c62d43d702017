/- A region whose order is open, whose operations make memory and change the world one by one: the blocks are told by a function of the operations' places. -/
import Derived.Test.YtoapobhdpgcmbaaReg2
import Derived.Test.YtoapobhdpgcmbaaReg3
namespace Go.Proofs.Ytoapobhdpgcmbaa
open Go.RowKit

/-- A place's block laid anew. -/
def updB (β : Nat → Nat) (k n : Nat) : Nat → Nat := fun j => if j = k then n else β j
/-- A place more is done. -/
def updD (b : Nat → Bool) (k : Nat) : Nat → Bool := fun j => if j = k then true else b j

/-- The operations one behind the other, from the k-th on; each at every world that meets S of the blocks and of those that are done. What allots lays c k. -/
def SeqM (P : Program) (ops : Array Oper) (S : (Nat → Nat) → (Nat → Bool) → World → Prop) (c : Nat → Obj) : Nat → List Oper → ((Nat → Nat) → Act) → (((Nat → Nat) → Act) → Prop) → Prop
  | _, [], a, K => K a
  | k, o :: r, a, K => if isAllocB o = true then
      (AllocIs P ops o (c k) ∧ ∀ β b w, b k = false → (∀ e ∈ o.after, bindsAny e = true → b e.on = true) → S β b w → S (updB β k w.heap.size) (updD b k) (w.alloc (c k))) ∧ SeqM P ops S c (k + 1) r (fun β => (a β).put o.dst (.pointer (some ⟨β k, 0, none⟩))) K
    else ∃ v, (∀ β b w, b k = false → (∀ e ∈ o.after, bindsAny e = true → b e.on = true) → S β b w → wpList P ops (fun e a' w' => e = .normal ∧ a' = (a β).put o.dst v ∧ S β (updD b k) w') [o] (a β) w) ∧ SeqM P ops S c (k + 1) r (fun β => (a β).put o.dst v) K

/-- The values of all places. -/
def vsM (β : Nat → Nat) (V : Nat → Value) : Nat → List Oper → List Value
  | _, [] => []
  | k, o :: r => (if isAllocB o = true then .pointer (some ⟨β k, 0, none⟩) else V k) :: vsM β V (k + 1) r
theorem vsM_len (β : Nat → Nat) (V : Nat → Value) : ∀ (l : List Oper) (k : Nat), (vsM β V k l).length = l.length
  | [], _ => rfl
  | o :: r, k => by simp [vsM, vsM_len β V r (k + 1)]
theorem vsM_get (β : Nat → Nat) (V : Nat → Value) : ∀ (l : List Oper) (k i : Nat) (o : Oper), l[i]? = some o → (vsM β V k l)[i]? = some (if isAllocB o = true then .pointer (some ⟨β (k + i), 0, none⟩) else V (k + i))
  | [], _, _, _, h => by simp at h
  | x :: r, k, 0, o, h => by simp at h; subst h; simp [vsM]
  | x :: r, k, i + 1, o, h => by
    have := vsM_get β V r (k + 1) i o (by simpa using h)
    rw [show k + (i + 1) = k + 1 + i by omega]
    simpa [vsM] using this
theorem vsM_congr (β : Nat → Nat) {V V' : Nat → Value} : ∀ (l : List Oper) (k : Nat), (∀ j, k ≤ j → V j = V' j) → vsM β V k l = vsM β V' k l
  | [], _, _ => rfl
  | o :: r, k, h => by
    simp only [vsM]
    rw [h k (Nat.le_refl _), vsM_congr β r (k + 1) (fun j hj => h j (by omega))]

section
variable {P : Program} {ops : Array Oper} {S : (Nat → Nat) → (Nat → Bool) → World → Prop} {c : Nat → Obj}

theorem seqM_vals : ∀ (l : List Oper) (k : Nat) (a : (Nat → Nat) → Act) (K : ((Nat → Nat) → Act) → Prop), SeqM P ops S c k l a K → ∃ V : Nat → Value, K (fun β => fillL (a β) (l.zip (vsM β V k l))) ∧
    (∀ i o, l[i]? = some o → isAllocB o = true → AllocIs P ops o (c (k + i)) ∧ ∀ β b w, b (k + i) = false → (∀ e ∈ o.after, bindsAny e = true → b e.on = true) → S β b w → S (updB β (k + i) w.heap.size) (updD b (k + i)) (w.alloc (c (k + i)))) ∧
    ∀ i o, l[i]? = some o → isAllocB o = false → ∀ β b w, b (k + i) = false → (∀ e ∈ o.after, bindsAny e = true → b e.on = true) → S β b w →
      wpList P ops (fun e a' w' => e = .normal ∧ a' = (fillL (a β) ((l.zip (vsM β V k l)).take i)).put o.dst (V (k + i)) ∧ S β (updD b (k + i)) w') [o] (fillL (a β) ((l.zip (vsM β V k l)).take i)) w := by
  intro l
  induction l with
  | nil => intro k a K h; exact ⟨fun _ => .bool false, h, fun i o hi => by simp at hi, fun i o hi => by simp at hi⟩
  | cons o r ih =>
    intro k a K h
    by_cases ha : isAllocB o = true
    · simp only [SeqM, ha, if_true] at h
      obtain ⟨h1, h2⟩ := h
      obtain ⟨V, hk, hs1, hs2⟩ := ih _ _ _ h2
      refine ⟨V, by simpa [vsM, ha, fillL] using hk, fun i o' hi ha' => ?_, fun i o' hi ha' => ?_⟩
      · cases i with
        | zero => simp at hi; subst hi; exact h1
        | succ i =>
          have := hs1 i o' (by simpa using hi) ha'
          rw [show k + 1 + i = k + (i + 1) by omega] at this
          exact this
      · cases i with
        | zero => simp at hi; subst hi; rw [ha] at ha'; cases ha'
        | succ i =>
          have := hs2 i o' (by simpa using hi) ha'
          rw [show k + 1 + i = k + (i + 1) by omega] at this
          simpa [vsM, ha, fillL] using this
    · have ha0 : isAllocB o = false := by simpa using ha
      simp only [SeqM, ha0, Bool.false_eq_true, if_false] at h
      obtain ⟨v, h1, h2⟩ := h
      obtain ⟨V, hk, hs1, hs2⟩ := ih _ _ _ h2
      have hc : ∀ β, vsM β (fun j => if j = k then v else V j) (k + 1) r = vsM β V (k + 1) r := fun β => vsM_congr β r (k + 1) (fun j hj => by simp [show j ≠ k by omega])
      refine ⟨fun j => if j = k then v else V j, by simpa [vsM, ha0, fillL, hc] using hk, fun i o' hi ha' => ?_, fun i o' hi ha' => ?_⟩
      · cases i with
        | zero => simp at hi; subst hi; rw [ha0] at ha'; cases ha'
        | succ i =>
          have := hs1 i o' (by simpa using hi) ha'
          rw [show k + 1 + i = k + (i + 1) by omega] at this
          exact this
      · cases i with
        | zero => simp at hi; subst hi; simpa [fillL] using h1
        | succ i =>
          have := hs2 i o' (by simpa using hi) ha'
          rw [show k + 1 + i = k + (i + 1) by omega] at this
          simpa [vsM, ha0, fillL, hc, show k + (i + 1) ≠ k by omega] using this

theorem slotsAt_congr {vs vs' : List Value} {a0 a : Act} {b : Nat → Bool} (h : SlotsAt ops vs a0 b a) (hv : ∀ j, b j = true → vs[j]? = vs'[j]?) : SlotsAt ops vs' a0 b a :=
  ⟨h.1, h.2.1, fun j o t v hj ht hv2 hb hlt => h.2.2.1 j o t v hj ht (by rw [hv j hb]; exact hv2) hb hlt, h.2.2.2⟩

theorem wp_region_seqM {id : Nat} {Q : Exit → Act → World → Prop} {a0 : Act} {w0 : World} (hm : P.follows .mixedOrders = true) (hok : regOk ops = true) (hcong : ∀ β β' b w, (∀ j, b j = true → β j = β' j) → S β b w → S β' b w) (hS : S (fun _ => 0) (fun _ => false) w0.drew)
    (h : SeqM P ops S c 0 ops.toList (fun _ => a0) (fun a => ∀ β b w, (∀ j, j < ops.size → b j = true) → S β b w → Q .normal (a β) w)) : (Code.region id ops true).wp P Q a0 w0 := by
  obtain ⟨V, hk, hs1, hs2⟩ := seqM_vals _ _ _ _ h
  have hlen : ∀ β, (vsM β V 0 ops.toList).length = ops.size := fun β => by rw [vsM_len]; simp
  have hn : (dstsOf ops).Nodup := by
    have := hok; simp only [regOk, Bool.and_eq_true] at this; exact of_decide_eq_true this.2
  refine wp_region_any hm ?_
  have key : ∀ fuel (listed : Array Bool) a w β, listed.size = ops.size → listed.toList.count false ≤ fuel → SlotsAt ops (vsM β V 0 ops.toList) a0 (fun j => listed.getD j false) a → S β (fun j => listed.getD j false) w → wpAny P .any ops Q fuel listed a w := by
    intro fuel
    have fin : ∀ (listed : Array Bool) a w β, listed.size = ops.size → (∀ j, j < ops.size → listed.getD j false = true) → SlotsAt ops (vsM β V 0 ops.toList) a0 (fun j => listed.getD j false) a → S β (fun j => listed.getD j false) w → Q .normal a w := by
      intro listed a w β hsz hall hsl hSw
      have hl' := hlen β
      generalize hvs : vsM β V 0 ops.toList = vs at *
      have h2 := slots_fill hn hl' (a0 := a0) ops.size (Nat.le_refl _)
      have ht : (ops.toList.zip vs).take ops.size = ops.toList.zip vs := List.take_of_length_le (by simp [hl'])
      rw [ht] at h2
      have ea : a = fillL a0 (ops.toList.zip vs) := by
        have e1 : a.defers = (fillL a0 (ops.toList.zip vs)).defers := by rw [hsl.1, h2.1]
        have e2 : a.tmps = (fillL a0 (ops.toList.zip vs)).tmps := by
          apply Array.ext_getElem?
          intro t
          by_cases hd : t ∈ dstsOf ops
          · obtain ⟨o, hmem, hdst⟩ := List.mem_filterMap.1 hd
            obtain ⟨j, hj⟩ := List.mem_iff_getElem?.1 hmem
            have hj' : ops[j]? = some o := by simpa using hj
            have hjl : j < ops.size := by
              rcases Nat.lt_or_ge j ops.size with h | h
              · exact h
              · simp [Array.getElem?_eq_none h] at hj'
            have hv : vs[j]? = some (vs[j]'(by omega)) := List.getElem?_eq_getElem (by omega)
            by_cases hts : t < a0.tmps.size
            · rw [hsl.2.2.1 j o t _ hj' hdst hv (hall j hjl) hts, h2.2.2.1 j o t _ hj' hdst hv (by simpa using hjl) hts]
            · rw [Array.getElem?_eq_none (by have := hsl.2.1; omega), Array.getElem?_eq_none (by have := h2.2.1; omega)]
          · have none : ∀ (c : Nat → Bool) j o', ops[j]? = some o' → o'.dst = some t → c j = false := fun c j o' hj hdst => absurd (mem_dsts hj hdst) hd
            rw [hsl.2.2.2 t (none _), h2.2.2.2 t (none _)]
        cases a; cases hf : fillL a0 (ops.toList.zip vs); rw [hf] at e1 e2; simp only at e1 e2; rw [e1, e2]
      rw [ea, ← hvs]; exact hk β _ w (fun j hj => hall j hj) hSw
    have allOf : ∀ (listed : Array Bool), listed.size = ops.size → Region.ready .any ops listed = [] → ∀ j, j < ops.size → listed.getD j false = true := by
      intro listed hsz hr j
      induction j using Nat.strongRecOn with
      | _ j ih =>
        intro hj
        cases hb : listed.getD j false with
        | true => rfl
        | false =>
          exfalso
          have ho : ops[j]? = some ops[j] := Array.getElem?_eq_getElem hj
          have : j ∈ Region.ready .any ops listed := by
            unfold Region.ready
            rw [List.mem_filter]
            refine ⟨by simpa using hj, ?_⟩
            have hb2 : listed.getD j true = false := by
              have hj2 : j < listed.size := by omega
              simp [Array.getD, hj2] at hb ⊢; exact hb
            rw [ho, hb2]
            simp only [Option.map_some, Option.getD_some, Bool.not_false, Bool.true_and, Array.all_eq_true']
            intro e he
            cases hbe : Region.binds .any e with
            | false => rfl
            | true =>
              have := (regOk_at hok ho).2.1 e he hbe
              simp [ih e.on this (by omega)]
          rw [hr] at this
          cases this
    induction fuel with
    | zero =>
      intro listed a w β hsz hc hsl hSw
      have hnf : false ∉ listed.toList := by
        rw [← List.count_eq_zero]; omega
      have hall : ∀ j, j < ops.size → listed.getD j false = true := by
        intro j hj
        have hj2 : j < listed.size := by omega
        cases hb : listed.getD j false with
        | true => rfl
        | false =>
          exfalso; apply hnf
          simp [Array.getD, hj2] at hb
          rw [← hb]; simp
      refine ⟨?_, fin listed a w β hsz hall hsl hSw⟩
      rw [List.eq_nil_iff_forall_not_mem]
      intro i hi
      obtain ⟨h1, h2, _⟩ := ready_mem hi
      have h3 := hall i h1
      have hj2 : i < listed.size := by omega
      simp [Array.getD, hj2] at h2 h3
      rw [h2] at h3; cases h3
    | succ fuel ih =>
      intro listed a w β hsz hc hsl hSw
      have hl' := hlen β
      refine ⟨fun hr => fin listed a w β hsz (allOf listed hsz hr) hsl hSw, fun i hi => ?_⟩
      obtain ⟨h1, h2, h3⟩ := ready_mem hi
      have ho : ops[i]? = some ops[i] := Array.getElem?_eq_getElem h1
      have hil : i < listed.size := by omega
      have hif : listed.getD i false = false := by simp [Array.getD, hil] at h2 ⊢; exact h2
      have hset : (fun j => (listed.setIfInBounds i true).getD j false) = updD (fun j => listed.getD j false) i := by
        funext j
        unfold updD
        by_cases hji : j = i
        · subst hji; simp [Array.getD_eq_getD_getElem?, hil]
        · simp [hji, Array.getD_eq_getD_getElem?, Array.getElem?_setIfInBounds_ne (Ne.symm hji)]
      have hcnt : (listed.setIfInBounds i true).toList.count false ≤ fuel := by
        have hli : listed.toList[i]'(by simpa using hil) = false := by
          simp [Array.getD, hil] at h2; simpa using h2
        have : 0 < listed.toList.count false := List.count_pos_iff.2 (by rw [← hli]; exact List.getElem_mem _)
        rw [Array.toList_setIfInBounds, List.count_set (by simpa using hil), hli]
        show List.count false listed.toList - 1 + 0 ≤ fuel
        omega
      have hoL : ops.toList[i]? = some ops[i] := by simp
      by_cases ha : isAllocB ops[i] = true
      · obtain ⟨hA, hT⟩ := hs1 i _ hoL ha
        rw [Nat.zero_add] at hA hT
        have hg : ops[i].guard = none := by
          unfold isAllocB at ha
          split at ha
          · assumption
          · cases ha
        refine wpOp_alloc ho hg hA ?_
        have hβ : ∀ j, (fun j => listed.getD j false) j = true → j ≠ i := fun j hj hji => by
          subst hji; simp only at hj; rw [hif] at hj; cases hj
        have hsl' : SlotsAt ops (vsM (updB β i w.heap.size) V 0 ops.toList) a0 (fun j => listed.getD j false) a := by
          refine slotsAt_congr hsl fun j hj => ?_
          have hne := hβ j hj
          by_cases hjl : j < ops.size
          · have hjo : ops.toList[j]? = some ops[j] := by simp
            rw [vsM_get β V ops.toList 0 j _ hjo, vsM_get (updB β i w.heap.size) V ops.toList 0 j _ hjo]
            simp [updB, hne]
          · rw [List.getElem?_eq_none (by rw [hlen]; omega), List.getElem?_eq_none (by rw [hlen]; omega)]
        have hv : (vsM (updB β i w.heap.size) V 0 ops.toList)[i]? = some (.pointer (some ⟨w.heap.size, 0, none⟩)) := by
          rw [vsM_get _ V ops.toList 0 i _ hoL]; simp [ha, updB]
        refine ih _ _ _ (updB β i w.heap.size) (by simp [hsz]) hcnt ?_ ?_
        · have := slots_put hn hsl' ho hv
          rw [hset]; exact this
        · rw [hset]
          exact hT β _ w hif (fun e he hb => h3 _ ho e he hb) hSw
      · have ha0 : isAllocB ops[i] = false := by simpa using ha
        have hv : (vsM β V 0 ops.toList)[i]? = some (V i) := by
          rw [vsM_get _ V ops.toList 0 i _ hoL]; simp [ha0]
        have hpre := slots_fill hn hl' (a0 := a0) i (by omega)
        have hsee := exec_same (regOk_at hok ho).1 (sees hok ho hl' hpre hsl (fun e he hb => by simpa using (regOk_at hok ho).2.1 e he hb) (fun e he hb => h3 _ ho e he hb))
        have h4 := hs2 i _ hoL ha0 β _ w (by rw [Nat.zero_add]; exact hif) (fun e he hb => h3 _ ho e he hb) hSw
        rw [Nat.zero_add] at h4
        refine wpOpB_of ho (by rw [hpre.2.1, hsl.2.1]) hsee h4 fun w' hS' => ?_
        refine ih _ _ _ β (by simp [hsz]) hcnt ?_ (by rw [hset]; exact hS')
        have := slots_put hn hsl ho hv
        rw [hset]; exact this
  refine key ops.size _ a0 _ (fun _ => 0) (by simp) (by simp) ⟨rfl, rfl, fun j o t v _ _ _ hb => ?_, fun _ _ => rfl⟩ (by rw [show (fun j => (Array.replicate ops.size false).getD j false) = fun _ => false from funext fun j => by rw [Array.getD_eq_getD_getElem?, Array.getElem?_replicate]; split <;> rfl]; exact hS)
  simp only at hb
  rw [Array.getD_eq_getD_getElem?, Array.getElem?_replicate] at hb
  split at hb <;> simp at hb



theorem SeqM.alloc {l : Array Oper} {k : Nat} {o : Oper} {r : List Oper} {a : (Nat → Nat) → Act} {K : ((Nat → Nat) → Act) → Prop} (ha : isAllocB o = true) (hA : AllocIs P l o (c k))
    (h1 : ∀ β b w, b k = false → (∀ e ∈ o.after, bindsAny e = true → b e.on = true) → S β b w → S (updB β k w.heap.size) (updD b k) (w.alloc (c k)))
    (h2 : SeqM P l S c (k + 1) r (fun β => (a β).put o.dst (.pointer (some ⟨β k, 0, none⟩))) K) : SeqM P l S c k (o :: r) a K := by
  simp only [SeqM, ha, if_true]; exact ⟨⟨hA, h1⟩, h2⟩
theorem SeqM.cons {l : Array Oper} {k : Nat} {o : Oper} {r : List Oper} {a : (Nat → Nat) → Act} {K : ((Nat → Nat) → Act) → Prop} {v : Value} (ha : isAllocB o = false)
    (h1 : ∀ β b w, b k = false → (∀ e ∈ o.after, bindsAny e = true → b e.on = true) → S β b w → wpList P l (StepPost ((a β).put o.dst v) (S β (updD b k))) [o] (a β) w) (h2 : SeqM P l S c (k + 1) r (fun β => (a β).put o.dst v) K) : SeqM P l S c k (o :: r) a K := by
  simp only [SeqM, ha, Bool.false_eq_true, if_false]; exact ⟨v, h1, h2⟩
theorem SeqM.nil {l : Array Oper} {k : Nat} {a : (Nat → Nat) → Act} {K : ((Nat → Nat) → Act) → Prop} (h : K a) : SeqM P l S c k [] a K := h
theorem wp_region_seqM_lit {id : Nat} {l : List Oper} {Q : Exit → Act → World → Prop} {a0 : Act} {w0 : World} (S : (Nat → Nat) → (Nat → Bool) → World → Prop) (c : Nat → Obj) (hm : P.follows .mixedOrders = true) (hok : regOk l.toArray = true)
    (hcong : ∀ β β' b w, (∀ j, b j = true → β j = β' j) → S β b w → S β' b w) (hS : S (fun _ => 0) (fun _ => false) w0.drew)
    (h : SeqM P l.toArray S c 0 l (fun _ => a0) (fun a => ∀ β b w, (∀ j, j < l.length → b j = true) → S β b w → Q .normal (a β) w)) : (Code.region id l.toArray true).wp P Q a0 w0 := wp_region_seqM (c := c) hm hok hcong hS (by simpa using h)

end
end Go.Proofs.Ytoapobhdpgcmbaa
