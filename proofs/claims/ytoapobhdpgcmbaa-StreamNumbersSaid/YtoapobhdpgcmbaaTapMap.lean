/- A map of numbers, as a list of pairs, in whatever order. -/
import Derived.Test.YtoapobhdpgcmbaaBase
import Derived.Maps.RangeWalk
namespace Go.Proofs.Ytoapobhdpgcmbaa
open Go.RowKit Go.ChangeMaps Go.Maps

/-- A pair as an entry of the datum. -/
def lp (p : Int × Int) : Lit × DataW Unit := (.int .i64 p.1, .lit (.int .i64 p.2))
theorem KI : Keyed Try.prog 3 := int_keyed Try.underlying3
theorem UM : Try.prog.underlying 125 = some (.map 3 3) := Try.underlying125
theorem keyI {x : Int} (h : (Lit.int .i64 x).wf = true) : keyOf Try.prog 3 (.int .i64 x) = some (.int .i64 x) := keyOf_int_mk Try.underlying3 h

/-- BLOCK b IS A MAP THAT HOLDS JUST THE PAIRS OF E. -/
def MapIs (w : World) (b : Nat) (E : List (Int × Int)) : Prop :=
  ∃ l, w.ownsMap Try.prog 3 (plainElem (H := Unit) Try.prog 3) b E.length (.map l) ∧ l.Perm (E.map lp)

theorem own_len {w : World} {b n : Nat} {l : List (Lit × DataW Unit)} (h : w.ownsMap Try.prog 3 (plainElem (H := Unit) Try.prog 3) b n (.map l)) : w.ownsMap Try.prog 3 (plainElem (H := Unit) Try.prog 3) b l.length (.map l) := by
  obtain ⟨es, clock, hb, F, hs, hD⟩ := h
  refine ⟨es, clock, hb, F, ?_, hD⟩
  injection hD with hD
  rw [hD, length_sorted]; simp

theorem MapIs.of {w : World} {b n : Nat} {l : List (Lit × DataW Unit)} {E : List (Int × Int)} (h : w.ownsMap Try.prog 3 (plainElem (H := Unit) Try.prog 3) b n (.map l)) (hp : l.Perm (E.map lp)) : MapIs w b E :=
  ⟨l, by have h1 := own_len h; rw [hp.length_eq, List.length_map] at h1; exact h1, hp⟩

theorem MapIs.kept {w w' : World} {b : Nat} {E : List (Int × Int)} {row : Option Nat} (h : MapIs w b E) (hg : w.grownBy w' row) (hne : some b ≠ row) : MapIs w' b E := by
  obtain ⟨l, h1, h2⟩ := h
  exact ⟨l, h1.kept hg hne, h2⟩

theorem MapIs.lt {w : World} {b : Nat} {E : List (Int × Int)} (h : MapIs w b E) : b < w.heap.size := by
  obtain ⟨l, h1, _⟩ := h
  exact h1.lt

/-- All pairs but those of a key. -/
def cutk (x : Int) (E : List (Int × Int)) : List (Int × Int) := E.filter (fun p => decide (p.1 ≠ x))

theorem same_int (x y : Int) : (Lit.int .i64 x).sameKey (.int .i64 y) = decide (x = y) := by
  by_cases h : x = y
  · subst h; simp [Lit.sameKey]
  · have := Maps.sameKey_ne (a := Lit.int .i64 x) (b := .int .i64 y) (by simpa using h)
    simp [this, h]

theorem notKey_lp (x : Int) (E : List (Int × Int)) : (E.map lp).filter (notKey (.int .i64 x)) = (cutk x E).map lp := by
  unfold cutk
  rw [List.filter_map]
  congr 1
  apply List.filter_congr
  intro p _
  simp [notKey, lp, same_int]

theorem MapIs.nodup {w : World} {b : Nat} {E : List (Int × Int)} (h : MapIs w b E) : E.Pairwise (fun p q => p.1 ≠ q.1) := by
  obtain ⟨l, h1, h2⟩ := h
  obtain ⟨es, he, hp, _⟩ := h1.entries KI
  injection he with he
  subst he
  have h3 := (h2.pairwise_iff (R := fun p q => p.1 ≠ q.1) (fun {_ _} hne => Ne.symm hne)).1 hp
  rw [List.pairwise_map] at h3
  exact h3.imp (fun hne e => hne (by simp [lp, e]))

theorem has_lp {l : List (Lit × DataW Unit)} {E : List (Int × Int)} (h : l.Perm (E.map lp)) (x : Int) : Maps.has (.map l) (.int .i64 x) = decide (x ∈ E.map Prod.fst) := by
  show l.any _ = _
  rw [h.any_eq, List.any_map]
  rw [Bool.eq_iff_iff]
  simp [lp, same_int, List.any_eq_true]

section
variable (w : World) {ops : Array Oper} {rest : List Oper} {o : Oper} {a : Act} {Q : Exit → Act → World → Prop}

theorem wpList_look (hg : o.guard = none) (m x : Operand) (hop : o.op = Op.lookup 125 m x true) (b : Nat) (E : List (Int × Int))
    (hm : a.eval m = .map (some b)) (h : MapIs w b E) (k : Int) (hx : a.eval x = .int .i64 k) (hk : (Lit.int .i64 k).wf = true)
    (hK : ∀ c : Int, wpList Try.prog ops Q rest (a.put o.dst (.tuple #[.int .i64 c, .bool (decide (k ∈ E.map Prod.fst))])) w) :
    wpList Try.prog ops Q (o :: rest) a w := by
  obtain ⟨l, h1, h2⟩ := h
  refine wpList_lookup_own_ok_int w hg m x _ hop 3 3 .i64 KI UM Try.underlying3 (by kernel_rfl) b _ _ hm h1 _ _ hx (keyI hk) ?_
  intro c _ _
  rw [has_lp h2]
  exact hK c

theorem wpList_del (hg : o.guard = none) (m x : Operand) (hop : o.op = Op.call { callee := Callee.builtin Builtin.delete, args := #[m, x], argTypes := #[125, 3] }) (b : Nat) (E : List (Int × Int))
    (hm : a.eval m = .map (some b)) (h : MapIs w b E) (k : Int) (hx : a.eval x = .int .i64 k) (hk : (Lit.int .i64 k).wf = true)
    (hK : ∀ w', MapIs w' b (cutk k E) → w.mapTurned w' b → wpList Try.prog ops Q rest (a.put o.dst (.tuple #[])) w') :
    wpList Try.prog ops Q (o :: rest) a w := by
  obtain ⟨l, h1, h2⟩ := h
  refine wpList_delete_own w hg m x _ _ hop 3 KI UM (plainElem (H := Unit) Try.prog 3) b _ _ hm h1 _ _ hx (keyI hk) ?_
  intro w' h3 h4
  refine hK w' ?_ h4
  rw [DataW.del_eq] at h3
  exact MapIs.of h3 (by rw [← notKey_lp]; exact h2.filter _)

theorem insert_perm (x : Lit × DataW Unit) : ∀ l : List (Lit × DataW Unit), (DataW.insert x l).Perm (x :: l)
  | [] => by simp [DataW.insert]
  | y :: l => by
    unfold DataW.insert
    split
    · exact List.Perm.refl _
    · exact ((insert_perm x l).cons y).trans (List.Perm.swap x y l)

theorem wpList_put (hg : o.guard = none) (m x v : Operand) (hop : o.op = Op.mapUpdate 125 m x v) (b : Nat) (E : List (Int × Int))
    (hm : a.eval m = .map (some b)) (h : MapIs w b E) (hn : E.length < maxLen) (k z : Int) (hx : a.eval x = .int .i64 k) (hv : a.eval v = .int .i64 z) (hk : (Lit.int .i64 k).wf = true) (hz : (Lit.int .i64 z).wf = true)
    (hK : ∀ w', MapIs w' b ((k, z) :: cutk k E) → w.mapTurned w' b → wpList Try.prog ops Q rest (a.put o.dst undef) w') :
    wpList Try.prog ops Q (o :: rest) a w := by
  obtain ⟨l, h1, h2⟩ := h
  refine wpList_mapUpdate_in w hg m x v _ hop 3 3 KI UM (plainElem (H := Unit) Try.prog 3) b _ _ hm h1 hn _ _ _ hx hv (keyI hk) _ [] (plainElem_int Try.underlying3 hz) ?_
  intro w' h3 h4
  refine hK w' ?_ h4
  rw [DataW.put_eq] at h3
  refine MapIs.of h3 ((insert_perm _ _).trans ?_)
  rw [List.map_cons, ← notKey_lp]
  exact (h2.filter _).cons _

theorem wpList_mlen (hg : o.guard = none) (m : Operand) (hop : o.op = Op.call { callee := Callee.builtin Builtin.len, args := #[m], argTypes := #[125] }) (b : Nat) (E : List (Int × Int))
    (hm : a.eval m = .map (some b)) (h : MapIs w b E) (hK : wpList Try.prog ops Q rest (a.put o.dst (.int .i64 E.length)) w) :
    wpList Try.prog ops Q (o :: rest) a w := by
  obtain ⟨l, h1, h2⟩ := h
  refine wpList_len_own w hg m _ hop 3 3 UM (plainElem (H := Unit) Try.prog 3) b _ _ hm h1 ?_
  rw [show Maps.size (.map l : DataW Unit) = E.length from by show l.length = _; rw [h2.length_eq]; simp]
  exact hK

theorem wpList_clear (hg : o.guard = none) (m : Operand) (hop : o.op = Op.call { callee := Callee.builtin Builtin.clear, args := #[m], argTypes := #[125] }) (b : Nat) (E : List (Int × Int))
    (hm : a.eval m = .map (some b)) (h : MapIs w b E)
    (hK : ∀ w', MapIs w' b [] → w.mapTurned w' b → wpList Try.prog ops Q rest (a.put o.dst (.tuple #[])) w') :
    wpList Try.prog ops Q (o :: rest) a w := by
  obtain ⟨l, ⟨es, clock, hb, F, hs, hD⟩, h2⟩ := h
  refine wpList_plain hg fun K' hK' => ?_
  unfold Oper.wp
  simp [execOp, hop, resolve, invoke, builtin, hm, Builtin.clear_, run_underlying UM, MapKept.run_getObj_map hb, MapKept.run_setObj_map _ hb, Result.andThen]
  refine hK' _ _ (hK _ ⟨[], ⟨#[], clock, heap_setBlock_same hb _, ⟨by simp, MapKept.stamped_empty _, by simp⟩, by simp, rfl⟩, by simp⟩ ⟨es, clock, #[], clock, hb, rfl⟩)
end

/-! ### the range loop -/

/-- A LOOP OVER MAP b IS UNDER WAY (iterator r): the map holds E; L is still to come. -/
def RangeIs (w : World) (b r : Nat) (E L : List (Int × Int)) : Prop :=
  ∃ l left n, w.ranges Try.prog 3 (plainElem (H := Unit) Try.prog 3) b r n (.map l) left (w.rangeLeft b r) ∧ l.Perm (E.map lp) ∧ L = E.filter (fun p => left (.int .i64 p.1))

theorem RangeIs.map {w : World} {b r : Nat} {E L : List (Int × Int)} (h : RangeIs w b r E L) : MapIs w b E := by
  obtain ⟨l, left, n, h1, h2, _⟩ := h
  exact MapIs.of h1.owns h2

theorem RangeIs.ne {w : World} {b r : Nat} {E L : List (Int × Int)} (h : RangeIs w b r E L) : r ≠ b := by
  obtain ⟨l, left, n, h1, h2, _⟩ := h
  exact h1.ne

theorem RangeIs.kept {w w' : World} {b r : Nat} {E L : List (Int × Int)} {row : Option Nat} (h : RangeIs w b r E L) (hg : w.grownBy w' row) (hb : some b ≠ row) (hr : some r ≠ row) : RangeIs w' b r E L ∧ w'.rangeLeft b r = w.rangeLeft b r := by
  obtain ⟨l, left, n, h1, h2, h3⟩ := h
  have h4 := h1.kept hg hb hr
  have h5 := h4.left_eq
  exact ⟨⟨l, left, n, by rw [h5]; exact h4, h2, h3⟩, h5⟩

section
variable (w : World) {ops : Array Oper} {rest : List Oper} {o : Oper} {a : Act} {Q : Exit → Act → World → Prop}

theorem wpList_rng (hg : o.guard = none) (m : Operand) (hop : o.op = Op.range 125 m) (b : Nat) (E : List (Int × Int)) (hm : a.eval m = .map (some b)) (h : MapIs w b E)
    (hK : ∀ w', RangeIs w' b w.heap.size E E → w.grownBy w' none → w'.heap.size = w.heap.size + 1 → wpList Try.prog ops Q rest (a.put o.dst (.pointer (some ⟨w.heap.size, 0, none⟩))) w') :
    wpList Try.prog ops Q (o :: rest) a w := by
  obtain ⟨l, h1, h2⟩ := h
  refine wpList_range_own w hg m _ hop 3 3 KI UM (plainElem (H := Unit) Try.prog 3) b _ _ hm h1 ?_
  intro w' h3 h4 h5
  refine hK w' ⟨l, _, _, by rw [h3.left_eq]; exact h3, h2, ?_⟩ h4 h5
  rw [List.filter_eq_self.2]
  intro p hp
  rw [has_lp h2]
  simp
  exact ⟨_, hp⟩

theorem wpList_nxt (hg : o.guard = none) (it : Operand) (hop : o.op = Op.next it false) (b r : Nat) (E L : List (Int × Int)) (hit : a.eval it = .pointer (some ⟨r, 0, none⟩)) (h : RangeIs w b r E L)
    (hDone : L = [] → wpList Try.prog ops Q rest (a.put o.dst (.tuple #[.bool false])) w)
    (hMore : ∀ (x c : Int) (w' : World), (Lit.int .i64 x).wf = true → (Lit.int .i64 c).wf = true → (x, c) ∈ L → RangeIs w' b r E (cutk x L) → w'.rangeLeft b r < w.rangeLeft b r →
      w.grownBy w' (some r) → w'.heap.size = w.heap.size → (Instr.entry (.pointer (some ⟨r, 0, none⟩))).run Try.prog w' = .ok (.tuple #[.int .i64 x, .int .i64 c]) w' → wpList Try.prog ops Q rest (a.put o.dst (.tuple #[.bool true, .int .i64 x, .int .i64 c])) w') :
    wpList Try.prog ops Q (o :: rest) a w := by
  have hM := h.map
  obtain ⟨l, left, n, h1, h2, h3⟩ := h
  refine wpList_next_ranges_ii w hg it hop 3 3 .i64 .i64 KI Try.underlying3 Try.underlying3 b r _ _ left _ hit h1 (fun _ hl => hDone (by rw [h3]; simp [hl])) ?_
  intro x c w' cnt' hx hc hlx hat hr hlt hgr hsz hen
  refine hMore x c w' hx hc ?_ ⟨l, _, _, by rw [hr.left_eq]; exact hr, h2, ?_⟩ (by rw [hr.left_eq]; exact hlt) hgr hsz hen
  · have hin : ∃ p ∈ l, p = lp (x, c) := by
      have hf := hat (.lit (.bool false))
      cases hq : l.find? (fun p => p.1.sameKey (.int .i64 x)) with
      | none => simp [DataW.atKey, hq] at hf
      | some p =>
        simp [DataW.atKey, hq] at hf
        have e1 := List.find?_some hq
        exact ⟨p, List.mem_of_find?_eq_some hq, Prod.ext (WideAt.sameKey_eq e1) hf⟩
    obtain ⟨p, hp, rfl⟩ := hin
    have := (h2.mem_iff).1 hp
    obtain ⟨q, hq, he⟩ := List.mem_map.1 this
    have e2 : q = (x, c) := by
      simp [lp] at he
      exact Prod.ext he.1 he.2
    subst e2
    rw [h3, List.mem_filter]
    exact ⟨hq, hlx⟩
  · unfold cutk
    rw [h3, List.filter_filter]
    apply List.filter_congr
    intro p _
    simp [same_int, Bool.and_comm]

theorem wpList_rdel (hg : o.guard = none) (m x : Operand) (hop : o.op = Op.call { callee := Callee.builtin Builtin.delete, args := #[m, x], argTypes := #[125, 3] }) (b r : Nat) (E L : List (Int × Int))
    (hm : a.eval m = .map (some b)) (h : RangeIs w b r E L) (k : Int) (hx : a.eval x = .int .i64 k) (hk : (Lit.int .i64 k).wf = true)
    (hK : ∀ w', RangeIs w' b r (cutk k E) (cutk k L) → w'.rangeLeft b r ≤ w.rangeLeft b r → w.mapTurned w' b → wpList Try.prog ops Q rest (a.put o.dst (.tuple #[])) w') :
    wpList Try.prog ops Q (o :: rest) a w := by
  obtain ⟨l, left, n, h1, h2, h3⟩ := h
  refine wpList_delete_ranges w hg m x _ _ hop 3 KI UM (plainElem (H := Unit) Try.prog 3) b r _ _ left _ hm h1 _ _ hx (keyI hk) ?_
  intro w' cnt' hr hle ht
  rw [DataW.del_eq] at hr
  refine hK w' ⟨_, _, _, by rw [hr.left_eq]; exact hr, by rw [← notKey_lp]; exact h2.filter _, ?_⟩ (by rw [hr.left_eq]; exact hle) ht
  unfold cutk
  rw [h3, List.filter_filter, List.filter_filter]
  apply List.filter_congr
  intro p _
  simp only [same_int]
  by_cases e : p.1 = k <;> simp [e]
end

end Go.Proofs.Ytoapobhdpgcmbaa
