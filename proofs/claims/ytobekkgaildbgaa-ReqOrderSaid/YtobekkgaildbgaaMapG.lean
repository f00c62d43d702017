/- A map of whatever keys and elements, as a list of pairs, in whatever order. -/
import Derived.Test.YtobekkgaildbgaaBase
import Derived.Maps.RangeWalk
namespace Go.Proofs.Ytobekkgaildbgaa
open Go.RowKit Go.ChangeMaps Go.Maps

/-- How a map's keys and elements lie in memory. -/
structure MK (κ α : Type) where
  M : TypeId
  K : TypeId
  V : TypeId
  kv : κ → Value
  kl : κ → Lit
  ev : α → Value
  z : α
  kok : κ → Prop
structure MK.Ok {κ α : Type} (m : MK κ α) : Prop where
  keyed : Keyed Try.prog m.K
  und : Try.prog.underlying m.M = some (.map m.K m.V)
  key : ∀ x, m.kok x → keyOf Try.prog m.K (m.kv x) = some (m.kl x)
  inj : ∀ x y, m.kok x → m.kok y → m.kl x = m.kl y → x = y
  zero : ∀ w, (zeroValue m.V).run Try.prog w = .ok (m.ev m.z) w
/-- An element reads as itself. -/
def heldE (v : Value) : Option (DataW Value × List MemPlace) := some (.held v, [])
section
variable {κ α : Type} {m : MK κ α}
def MK.lp (m : MK κ α) (p : κ × α) : Lit × DataW Value := (m.kl p.1, .held (m.ev p.2))
/-- BLOCK b IS A MAP THAT HOLDS JUST THE PAIRS OF E. -/
def MapG (m : MK κ α) (w : World) (b : Nat) (E : List (κ × α)) : Prop :=
  ∃ l, w.ownsMap Try.prog m.K heldE b E.length (.map l) ∧ l.Perm (E.map m.lp) ∧ ∀ p ∈ E, m.kok p.1

theorem gown_len {K : TypeId} {w : World} {b n : Nat} {l : List (Lit × DataW Value)} (h : w.ownsMap Try.prog K heldE b n (.map l)) : w.ownsMap Try.prog K heldE b l.length (.map l) := by
  obtain ⟨es, clock, hb, F, hs, hD⟩ := h
  refine ⟨es, clock, hb, F, ?_, hD⟩
  injection hD with hD
  rw [hD, length_sorted]; simp
theorem MapG.of {w : World} {b n : Nat} {l : List (Lit × DataW Value)} {E : List (κ × α)} (h : w.ownsMap Try.prog m.K heldE b n (.map l)) (hp : l.Perm (E.map m.lp)) (hk : ∀ p ∈ E, m.kok p.1) : MapG m w b E :=
  ⟨l, by have h1 := gown_len h; rw [hp.length_eq, List.length_map] at h1; exact h1, hp, hk⟩
theorem MapG.lt {w : World} {b : Nat} {E : List (κ × α)} (h : MapG m w b E) : b < w.heap.size := by
  obtain ⟨l, h1, _⟩ := h
  exact h1.lt
theorem MapG.fr {w w' : World} {S : List Nat} {b : Nat} {E : List (κ × α)} (h : MapG m w b E) (f : Fr S w w') (hn : b ∉ S) : MapG m w' b E := by
  obtain ⟨l, ⟨es, clock, hb, q⟩, h2⟩ := h
  exact ⟨l, ⟨es, clock, f.heap hb hn, q⟩, h2⟩
theorem MapG.made (w : World) : MapG m (w.alloc (.map #[] 0)) w.heap.size [] := ⟨[], World.ownsMap_made w _ _ _, by simp, by simp⟩
theorem frg_turned {w w' : World} {b : Nat} (h : w.mapTurned w' b) : Fr [b] w w' := by
  have g := h.grown
  exact ⟨g.os, g.tape, g.output, g.size, fun k hk hn => g.block k hk (by simpa using fun e => hn (by simp [e]))⟩
theorem MapG.nodup (hm : m.Ok) {w : World} {b : Nat} {E : List (κ × α)} (h : MapG m w b E) : E.Pairwise (fun p q => p.1 ≠ q.1) := by
  obtain ⟨l, h1, h2, h3⟩ := h
  obtain ⟨es, he, hp, _⟩ := h1.entries hm.keyed
  injection he with he
  subst he
  have h3 := (h2.pairwise_iff (R := fun p q => p.1 ≠ q.1) (fun {_ _} hne => Ne.symm hne)).1 hp
  rw [List.pairwise_map] at h3
  exact h3.imp (fun hne e => hne (by simp [MK.lp, e]))
end
section
variable {κ α : Type} [DecidableEq κ] {m : MK κ α}
/-- All pairs but those of a key. -/
def cutg (x : κ) (E : List (κ × α)) : List (κ × α) := E.filter (fun p => decide (p.1 ≠ x))
/-- What lies at a key. -/
def getg (x : κ) (E : List (κ × α)) : Option α := (E.find? (fun p => decide (p.1 = x))).map Prod.snd
theorem MK.Ok.same (hm : m.Ok) {x y : κ} (hx : m.kok x) (hy : m.kok y) : (m.kl x).sameKey (m.kl y) = decide (x = y) := by
  by_cases e : x = y
  · subst e
    rw [WideAt.sameKey_self (hm.keyed.key (hm.key x hx))]; simp
  · cases hs : (m.kl x).sameKey (m.kl y) with
    | false => simp [e]
    | true => exact absurd (hm.inj x y hx hy (WideAt.sameKey_eq hs)) e
theorem MK.Ok.notKey (hm : m.Ok) {x : κ} (hx : m.kok x) (E : List (κ × α)) (hE : ∀ p ∈ E, m.kok p.1) : (E.map m.lp).filter (notKey (m.kl x)) = (cutg x E).map m.lp := by
  unfold cutg
  rw [List.filter_map]
  congr 1
  apply List.filter_congr
  intro p hp
  simp [ChangeMaps.notKey, MK.lp, hm.same (hE p hp) hx]
theorem getg_mem {E : List (κ × α)} {x : κ} {a : α} (h : getg x E = some a) : (x, a) ∈ E := by
  unfold getg at h
  cases hf : E.find? (fun p => decide (p.1 = x)) with
  | none => rw [hf] at h; cases h
  | some p =>
    rw [hf] at h
    have e1 := List.find?_some hf
    simp at e1 h
    have := List.mem_of_find?_eq_some hf
    rw [← e1, ← h]; exact this
theorem getg_none {E : List (κ × α)} {x : κ} (h : getg x E = none) : ∀ p ∈ E, p.1 ≠ x := by
  unfold getg at h
  rw [Option.map_eq_none_iff, List.find?_eq_none] at h
  intro p hp e
  exact h p hp (by simpa using e)
theorem getg_of {E : List (κ × α)} (nd : E.Pairwise (fun p q => p.1 ≠ q.1)) {x : κ} {a : α} (h : (x, a) ∈ E) : getg x E = some a := by
  cases hg : getg x E with
  | none => exact absurd rfl (getg_none hg _ h)
  | some a' =>
    have h2 := getg_mem hg
    induction E with
    | nil => simp at h
    | cons y r ih =>
      obtain ⟨n1, n2⟩ := List.pairwise_cons.1 nd
      rcases List.mem_cons.1 h with rfl | h <;> rcases List.mem_cons.1 h2 with e | h2
      · injection e with _ e; rw [e]
      · exact (n1 _ h2 rfl).elim
      · subst e; exact (n1 (x, a) (by assumption) rfl).elim
      · refine ih n2 h ?_ h2
        unfold getg at hg ⊢
        rw [List.find?_cons] at hg
        have : decide (y.1 = x) = false := by simpa using fun e => n1 _ h (by rw [e])
        rw [this] at hg; exact hg
theorem has_lpg (hm : m.Ok) {l : List (Lit × DataW Value)} {E : List (κ × α)} (h : l.Perm (E.map m.lp)) (hE : ∀ p ∈ E, m.kok p.1) {x : κ} (hx : m.kok x) : Maps.has (.map l) (m.kl x) = (getg x E).isSome := by
  show l.any _ = _
  rw [h.any_eq, List.any_map]
  unfold getg
  rw [Bool.eq_iff_iff, List.any_eq_true, Option.isSome_map, List.find?_isSome]
  constructor
  · rintro ⟨p, hp, hs⟩
    have hs : (m.kl p.1).sameKey (m.kl x) = true := hs
    rw [hm.same (hE p hp) hx] at hs
    exact ⟨p, hp, hs⟩
  · rintro ⟨p, hp, hs⟩
    refine ⟨p, hp, ?_⟩
    show (m.kl p.1).sameKey (m.kl x) = true
    rw [hm.same (hE p hp) hx]; exact hs
theorem at_lpg (hm : m.Ok) {w : World} {b : Nat} {l : List (Lit × DataW Value)} {E : List (κ × α)} (hM : MapG m w b E) (h : l.Perm (E.map m.lp)) (hE : ∀ p ∈ E, m.kok p.1) {x : κ} (hx : m.kok x) : (DataW.map l).atKey (m.kl x) (.held (m.ev m.z)) = .held (m.ev ((getg x E).getD m.z)) := by
  have nd := hM.nodup hm
  unfold DataW.atKey
  simp only
  cases hq : l.find? (fun p => p.1.sameKey (m.kl x)) with
  | none =>
    rw [List.find?_eq_none] at hq
    have : getg x E = none := by
      cases hg : getg x E with
      | none => rfl
      | some a =>
        exfalso
        refine hq (m.lp (x, a)) (h.mem_iff.2 (List.mem_map_of_mem (getg_mem hg))) ?_
        show (m.kl x).sameKey (m.kl x) = true
        rw [hm.same hx hx]; simp
    rw [this]; rfl
  | some p =>
    have e1 := List.find?_some hq
    have e2 := h.mem_iff.1 (List.mem_of_find?_eq_some hq)
    obtain ⟨q, hq1, rfl⟩ := List.mem_map.1 e2
    have e1 : (m.kl q.1).sameKey (m.kl x) = true := e1
    rw [hm.same (hE q hq1) hx, decide_eq_true_eq] at e1
    have : getg x E = some q.2 := getg_of nd (by rw [← e1]; exact hq1)
    rw [this]; rfl
end
section
variable {κ α : Type} [DecidableEq κ] {m : MK κ α} (w : World) {ops : Array Oper} {rest : List Oper} {o : Oper} {a : Act} {Q : Exit → Act → World → Prop}

theorem heldE_inv {v : Value} {d : DataW Value} {ps : List MemPlace} (h : heldE v = some (d, ps)) : d = .held v := by
  unfold heldE at h; injection h with h; injection h with h _; exact h.symm
/-- 'v, ok := m[k]' -/
theorem wpList_lookg (hm : m.Ok) (hg : o.guard = none) (mo x : Operand) (hop : o.op = Op.lookup m.M mo x true) (b : Nat) (E : List (κ × α))
    (hmo : a.eval mo = .map (some b)) (h : MapG m w b E) (k : κ) (hx : a.eval x = m.kv k) (hk : m.kok k)
    (hK : wpList Try.prog ops Q rest (a.put o.dst (.tuple #[m.ev ((getg k E).getD m.z), .bool (getg k E).isSome])) w) :
    wpList Try.prog ops Q (o :: rest) a w := by
  have hM := h
  obtain ⟨l, h1, h2, h3⟩ := h
  refine wpList_lookup_own_ok w hg mo x _ hop m.K m.V hm.keyed hm.und heldE (hm.zero w) (.held (m.ev m.z)) [] rfl b _ _ hmo h1 _ _ hx (hm.key k hk) ?_
  intro v ps hv
  rw [at_lpg hm hM h2 h3 hk] at hv
  have := heldE_inv hv
  injection this with this
  rw [has_lpg hm h2 h3 hk, ← this]
  exact hK
/-- 'm[k]' -/
theorem wpList_lookg1 (hm : m.Ok) (hg : o.guard = none) (mo x : Operand) (hop : o.op = Op.lookup m.M mo x false) (b : Nat) (E : List (κ × α))
    (hmo : a.eval mo = .map (some b)) (h : MapG m w b E) (k : κ) (hx : a.eval x = m.kv k) (hk : m.kok k)
    (hK : wpList Try.prog ops Q rest (a.put o.dst (m.ev ((getg k E).getD m.z))) w) :
    wpList Try.prog ops Q (o :: rest) a w := by
  have hM := h
  obtain ⟨l, h1, h2, h3⟩ := h
  refine wpList_plain hg fun K' hK' => ?_
  obtain ⟨v, ps, hrun, hv⟩ := h1.lookup hm.keyed hm.und (hm.zero w) (R := heldE) (zd := .held (m.ev m.z)) rfl (hm.key k hk)
  rw [at_lpg hm hM h2 h3 hk] at hv
  have := heldE_inv hv
  injection this with this
  subst this
  unfold Oper.wp
  simp [execOp, hop, hmo, hx, hrun, Result.andThen]
  exact hK' _ _ hK
theorem wpList_delg (hm : m.Ok) (hg : o.guard = none) (mo x : Operand) (hop : o.op = Op.call { callee := Callee.builtin Builtin.delete, args := #[mo, x], argTypes := #[m.M, m.K] }) (b : Nat) (E : List (κ × α))
    (hmo : a.eval mo = .map (some b)) (h : MapG m w b E) (k : κ) (hx : a.eval x = m.kv k) (hk : m.kok k)
    (hK : ∀ w', MapG m w' b (cutg k E) → Fr [b] w w' → wpList Try.prog ops Q rest (a.put o.dst (.tuple #[])) w') :
    wpList Try.prog ops Q (o :: rest) a w := by
  obtain ⟨l, h1, h2, h3⟩ := h
  refine wpList_delete_own w hg mo x _ _ hop m.V hm.keyed hm.und heldE b _ _ hmo h1 _ _ hx (hm.key k hk) ?_
  intro w' h4 h5
  refine hK w' ?_ (frg_turned h5)
  rw [DataW.del_eq] at h4
  exact MapG.of h4 (by rw [← hm.notKey hk E h3]; exact h2.filter _) (fun p hp => h3 p (List.mem_filter.1 hp).1)
theorem ginsert_perm (x : Lit × DataW Value) : ∀ l : List (Lit × DataW Value), (DataW.insert x l).Perm (x :: l)
  | [] => by simp [DataW.insert]
  | y :: l => by
    unfold DataW.insert
    split
    · exact List.Perm.refl _
    · exact ((ginsert_perm x l).cons y).trans (List.Perm.swap x y l)
theorem wpList_putg (hm : m.Ok) (hg : o.guard = none) (mo x v : Operand) (hop : o.op = Op.mapUpdate m.M mo x v) (b : Nat) (E : List (κ × α))
    (hmo : a.eval mo = .map (some b)) (h : MapG m w b E) (hn : E.length < maxLen) (k : κ) (z : α) (hx : a.eval x = m.kv k) (hv : a.eval v = m.ev z) (hk : m.kok k)
    (hK : ∀ w', MapG m w' b ((k, z) :: cutg k E) → Fr [b] w w' → wpList Try.prog ops Q rest (a.put o.dst undef) w') :
    wpList Try.prog ops Q (o :: rest) a w := by
  obtain ⟨l, h1, h2, h3⟩ := h
  refine wpList_mapUpdate_in w hg mo x v _ hop m.K m.V hm.keyed hm.und heldE b _ _ hmo h1 hn _ _ _ hx hv (hm.key k hk) _ [] rfl ?_
  intro w' h4 h5
  refine hK w' ?_ (frg_turned h5)
  rw [DataW.put_eq] at h4
  refine MapG.of h4 ((ginsert_perm _ _).trans ?_) ?_
  · rw [List.map_cons, ← hm.notKey hk E h3]
    exact (h2.filter _).cons _
  · intro p hp
    rcases List.mem_cons.1 hp with rfl | hp
    · exact hk
    · exact h3 p (List.mem_filter.1 hp).1
end
section
variable {κ α : Type} {m : MK κ α} (w : World) {ops : Array Oper} {rest : List Oper} {o : Oper} {a : Act} {Q : Exit → Act → World → Prop}
theorem wpList_mleng (hm : m.Ok) (hg : o.guard = none) (mo : Operand) (hop : o.op = Op.call { callee := Callee.builtin Builtin.len, args := #[mo], argTypes := #[m.M] }) (b : Nat) (E : List (κ × α))
    (hmo : a.eval mo = .map (some b)) (h : MapG m w b E) (hK : wpList Try.prog ops Q rest (a.put o.dst (.int .i64 E.length)) w) :
    wpList Try.prog ops Q (o :: rest) a w := by
  obtain ⟨l, h1, h2, h3⟩ := h
  refine wpList_len_own w hg mo _ hop m.K m.V hm.und heldE b _ _ hmo h1 ?_
  rw [show Maps.size (.map l : DataW Value) = E.length from by show l.length = _; rw [h2.length_eq]; simp]
  exact hK
end
theorem cutg_len {κ α : Type} [DecidableEq κ] (x : κ) (E : List (κ × α)) : (cutg x E).length ≤ E.length := List.length_filter_le _ _
theorem cutg_mem {κ α : Type} [DecidableEq κ] {x : κ} {E : List (κ × α)} {p : κ × α} : p ∈ cutg x E ↔ p ∈ E ∧ p.1 ≠ x := by
  unfold cutg; simp
end Go.Proofs.Ytobekkgaildbgaa
