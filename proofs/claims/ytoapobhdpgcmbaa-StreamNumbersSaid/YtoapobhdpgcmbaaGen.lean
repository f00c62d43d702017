/- Rows of structs, for any element: what reads them, what appends to them, and a region that appends again and again and then stores. Plain lemmas. -/
import Derived.Test.YtoapobhdpgcmbaaReg7
import Derived.Maps.AppendAt
import Derived.Deep.MidRow
import Derived.Lib.AppendZeros
import Derived.OwnWalk
import Derived.Lib.Hide
namespace Go.Proofs.Ytoapobhdpgcmbaa
open Go.RowKit

/-- How an element of a slice lies in memory. -/
structure El (α : Type) where
  T : TypeId
  ST : TypeId
  k : Nat
  f : α → List Value

section
variable {α : Type}
def El.cs (E : El α) : List α → List Value
  | [] => []
  | x :: r => E.f x ++ E.cs r
structure El.Ok (E : El α) : Prop where
  len : ∀ x, (E.f x).length = E.k
  one : ∀ x, ∀ u ∈ E.f x, u.oneCell' = true
  und : Try.prog.underlying E.ST = some (.slice E.T)
  pos : 0 < E.k
  info : ∃ i z, Try.prog.info? E.T = some i ∧ i.zero = some z ∧ i.size = E.k ∧ i.bytes ≤ 1000 ∧ z.cells.size = E.k
variable {E : El α}
theorem El.Ok.cs_len (h : E.Ok) : ∀ l : List α, (E.cs l).length = l.length * E.k
  | [] => by simp [El.cs]
  | x :: r => by simp [El.cs, h.len, h.cs_len r, Nat.add_mul]; omega
theorem El.cs_app (E : El α) : ∀ l m : List α, E.cs (l ++ m) = E.cs l ++ E.cs m
  | [], _ => rfl
  | x :: r, m => by simp [El.cs, El.cs_app E r m]
theorem El.Ok.cs_one (h : E.Ok) : ∀ l : List α, ∀ u ∈ E.cs l, u.oneCell' = true
  | [], u, hu => by simp [El.cs] at hu
  | x :: r, u, hu => by
    simp only [El.cs, List.mem_append] at hu
    rcases hu with hu | hu
    · exact h.one x u hu
    · exact h.cs_one r u hu
theorem El.Ok.cs_get (h : E.Ok) : ∀ (l : List α) (i j : Nat) (x : α), l[i]? = some x → j < E.k → (E.cs l)[i * E.k + j]? = (E.f x)[j]?
  | [], i, j, x, hx, _ => by simp at hx
  | y :: r, 0, j, x, hx, hj => by
    simp at hx; subst hx
    simp only [El.cs, Nat.zero_mul, Nat.zero_add]
    rw [List.getElem?_append_left (by rw [h.len]; exact hj)]
  | y :: r, i + 1, j, x, hx, hj => by
    have := h.cs_get r i j x (by simpa using hx) hj
    simp only [El.cs]
    rw [List.getElem?_append_right (by rw [h.len, Nat.add_mul]; omega), h.len, show (i + 1) * E.k + j - E.k = i * E.k + j by rw [Nat.add_mul]; omega]
    exact this
theorem El.Ok.cs_drop (h : E.Ok) : ∀ (l : List α) (i : Nat), i ≤ l.length → E.cs (l.drop i) = (E.cs l).drop (i * E.k)
  | l, 0, _ => by simp
  | [], i + 1, hi => by simp at hi
  | x :: r, i + 1, hi => by
    have := h.cs_drop r i (by simpa using hi)
    simp only [El.cs, List.drop_succ_cons]
    rw [this, Nat.add_mul, Nat.one_mul, Nat.add_comm, ← List.drop_drop, List.drop_append, h.len]
    simp [h.len, List.drop_of_length_le (l := E.f x) (i := E.k) (by rw [h.len]; exact Nat.le_refl _)]
theorem El.Ok.cs_take (h : E.Ok) : ∀ (l : List α) (i : Nat), i ≤ l.length → E.cs (l.take i) = (E.cs l).take (i * E.k)
  | l, 0, _ => by simp [El.cs]
  | [], i + 1, hi => by simp at hi
  | x :: r, i + 1, hi => by
    have := h.cs_take r i (by simpa using hi)
    simp only [El.cs, List.take_succ_cons]
    rw [this, Nat.add_mul, Nat.one_mul, List.take_append, h.len, show i * E.k + E.k - E.k = i * E.k by omega, List.take_of_length_le (l := E.f x) (by rw [h.len]; omega)]

/-- Cells one behind the other. -/
def CA (w : World) (b : Nat) : Nat → List Value → Prop
  | _, [] => True
  | o, v :: r => w.cell? ⟨b, o, none⟩ = some v ∧ CA w b (o + 1) r
theorem CA.mk {w : World} {b : Nat} : ∀ {o : Nat} {vs : List Value}, (∀ j u, vs[j]? = some u → w.cell? ⟨b, o + j, none⟩ = some u) → CA w b o vs
  | _, [], _ => trivial
  | o, v :: r, h => ⟨h 0 v rfl, CA.mk fun j u hj => by have := h (j + 1) u (by simpa using hj); rwa [show o + (j + 1) = o + 1 + j by omega] at this⟩

/-- A ROW OF THE CALL's OWN. -/
def El.Own (E : El α) (w : World) (base : Nat) (v : Value) (xs : List α) : Prop := w.ownsRow base E.T E.k v xs.length (E.cs xs)
/-- A ROW THAT READS; its block is none of M. -/
def El.Sl (E : El α) (M : List Nat) (w : World) (v : Value) (xs : List α) : Prop :=
  ∃ A cap, v = .slice A xs.length cap ∧ xs.length ≤ cap ∧ (xs = [] ∨ ∃ b off, A = some ⟨b, off, none⟩ ∧ b < w.heap.size ∧ b ∉ M ∧ ∀ j u, (E.cs xs)[j]? = some u → w.cell? ⟨b, off + j, none⟩ = some u)

theorem gownsRow_fr {S : List Nat} {w w' : World} {base : Nat} {e : TypeId} {size : Nat} {v : Value} {n : Nat} {xs : List Value} (h : w.ownsRow base e size v n xs) (f : Fr S w w') (hS : ∀ x ∈ S, x < base) : w'.ownsRow base e size v n xs := by
  refine ⟨h.1, ?_⟩
  rcases h.2 with q | ⟨g, cap, cur, q1, q2, q3, q4⟩
  · exact Or.inl q
  · exact Or.inr ⟨g, cap, cur, q1, q2, f.heap q3 (fun hx => by have := hS g hx; omega), q4⟩
theorem El.Own.fr {S : List Nat} {w w' : World} {base : Nat} {v : Value} {xs : List α} (h : E.Own w base v xs) (f : Fr S w w') (hS : ∀ x ∈ S, x < base) : E.Own w' base v xs := gownsRow_fr h f hS
theorem El.Own.ge {w : World} {base : Nat} {v : Value} {xs : List α} (h : E.Own w base v xs) : ∀ x ∈ v.ownBlock.toList, base ≤ x := by
  rcases h.2 with ⟨rfl, _⟩ | ⟨g, cap, cur, rfl, q2, _⟩
  · intro x hx; simp [Value.ownBlock] at hx
  · intro x hx; simp [Value.ownBlock] at hx; omega
theorem El.Own.lt {w : World} {base : Nat} {v : Value} {xs : List α} (h : E.Own w base v xs) : ∀ x ∈ v.ownBlock.toList, x < w.heap.size := by
  rcases h.2 with ⟨rfl, _⟩ | ⟨g, cap, cur, rfl, q2, q3, _⟩
  · intro x hx; simp [Value.ownBlock] at hx
  · intro x hx; simp [Value.ownBlock] at hx; subst hx; exact lt_of_heap q3
theorem El.Own.mono {w : World} {base base' : Nat} {v : Value} {xs : List α} (h : E.Own w base v xs) (hb : base' ≤ base) : E.Own w base' v xs := by
  refine ⟨h.1, ?_⟩
  rcases h.2 with q | ⟨g, cap, cur, q1, q2, q3⟩
  · exact Or.inl q
  · exact Or.inr ⟨g, cap, cur, q1, by omega, q3⟩
theorem El.Own.shape {w : World} {base : Nat} {v : Value} {xs : List α} (h : E.Own w base v xs) : ∃ A c, v = .slice A xs.length c := by
  rcases h.2 with ⟨rfl, h0⟩ | ⟨g, cap, cur, rfl, _⟩
  · exact ⟨none, 0, by rw [h0]⟩
  · exact ⟨_, _, rfl⟩
theorem El.Own.nil (E : El α) (w : World) (base : Nat) : E.Own w base (.slice none 0 0) [] := ⟨by simp [El.cs], Or.inl ⟨rfl, rfl⟩⟩
/-- A literal that was just laid. -/
theorem El.Own.lit (xs : List α) {w : World} {g base : Nat} {cs : Array Value} (hg : w.heap[g]? = some (.cells cs E.T)) (hb : base ≤ g) (hc : cs.toList = E.cs xs) (hk : E.Ok) (hm : xs.length ≤ maxLen) (n : Nat) (hn : n = xs.length) : E.Own w base (.slice (some ⟨g, 0, none⟩) n n) xs := by
  subst hn
  refine ⟨hk.cs_len xs, Or.inr ⟨g, xs.length, cs, rfl, hb, hg, Nat.le_refl _, hm, by have := congrArg List.length hc; rw [hk.cs_len] at this; simpa using this, ?_⟩⟩
  rw [hc, List.take_of_length_le (by rw [hk.cs_len]; exact Nat.le_refl _)]
theorem El.Own.sl {w : World} {base : Nat} {v : Value} {xs : List α} {M : List Nat} (h : E.Own w base v xs) (hM : ∀ m ∈ M, m < base) : E.Sl M w v xs := by
  rcases h.2 with ⟨rfl, hn⟩ | ⟨g, cap, cur, rfl, q2, q3, q4, q5, q6, q7⟩
  · have : xs = [] := List.length_eq_zero_iff.1 hn
    subst this
    exact ⟨none, 0, rfl, Nat.le_refl _, Or.inl rfl⟩
  · refine ⟨_, cap, rfl, q4, Or.inr ⟨g, 0, rfl, lt_of_heap q3, fun hx => by have := hM g hx; omega, fun j u hj => ?_⟩⟩
    rw [← q7, List.getElem?_take] at hj
    split at hj
    · rw [Nat.zero_add, blk_cell q3]; simpa using hj
    · cases hj
theorem El.Sl.fr {S M : List Nat} {w w' : World} {v : Value} {xs : List α} (h : E.Sl M w v xs) (f : Fr S w w') (hS : ∀ x ∈ S, x ∈ M ∨ w.heap.size ≤ x) : E.Sl M w' v xs := by
  obtain ⟨A, cap, rfl, hc, h0 | ⟨b, off, rfl, hb, hM, hcl⟩⟩ := h
  · exact ⟨A, cap, rfl, hc, Or.inl h0⟩
  · refine ⟨_, cap, rfl, hc, Or.inr ⟨b, off, rfl, Nat.lt_of_lt_of_le hb f.size, hM, fun j u hj => ?_⟩⟩
    have hbS : b ∉ S := fun hx => (hS b hx).elim hM (fun h => by omega)
    rw [← hcl j u hj]
    simp only [World.cell?, f.block b hb hbS]
theorem El.Sl.mono {M M' : List Nat} {w : World} {v : Value} {xs : List α} (h : E.Sl M w v xs) (hS : ∀ x ∈ M', x ∈ M) : E.Sl M' w v xs := by
  obtain ⟨A, cap, rfl, hc, h0 | ⟨b, off, rfl, hb, hM, hcl⟩⟩ := h
  · exact ⟨A, cap, rfl, hc, Or.inl h0⟩
  · exact ⟨_, cap, rfl, hc, Or.inr ⟨b, off, rfl, hb, fun hx => hM (hS b hx), hcl⟩⟩
/-- What is written to is not the row's block. -/
theorem El.Sl.apart {S M : List Nat} {w w' : World} {v : Value} {xs : List α} (h : E.Sl M w v xs) (f : Fr S w w') (hS : ∀ x ∈ v.ownBlock.toList, x ∉ S) : E.Sl M w' v xs := by
  obtain ⟨A, cap, rfl, hc, h0 | ⟨b, off, rfl, hb, hM, hcl⟩⟩ := h
  · exact ⟨A, cap, rfl, hc, Or.inl h0⟩
  · refine ⟨_, cap, rfl, hc, Or.inr ⟨b, off, rfl, Nat.lt_of_lt_of_le hb f.size, hM, fun j u hj => ?_⟩⟩
    have hbS : b ∉ S := hS b (by simp [Value.ownBlock])
    rw [← hcl j u hj]
    simp only [World.cell?, f.block b hb hbS]
theorem El.Sl.nil (E : El α) (M : List Nat) (w : World) : E.Sl M w (.slice none 0 0) [] := ⟨none, 0, rfl, Nat.le_refl _, Or.inl rfl⟩
/-- An element's cells. -/
theorem El.Ok.at (hk : E.Ok) {w : World} {b off : Nat} {xs : List α} (h : ∀ j u, (E.cs xs)[j]? = some u → w.cell? ⟨b, off + j, none⟩ = some u) {i : Nat} {x : α} (hi : xs[i]? = some x) : CA w b (off + i * E.k) (E.f x) := by
  refine CA.mk fun j u hj => ?_
  have hjk : j < E.k := by rw [← hk.len x]; exact (List.getElem?_eq_some_iff.1 hj).1
  have := h (i * E.k + j) u (by rw [hk.cs_get xs i j x hi hjk]; exact hj)
  rwa [show off + (i * E.k + j) = off + i * E.k + j by omega] at this
theorem El.Sl.take {M : List Nat} {w : World} {A : Option Addr} {n cap : Nat} {xs : List α} (hk : E.Ok) (h : E.Sl M w (.slice A n cap) xs) (i : Nat) (hi : i ≤ xs.length) : E.Sl M w (.slice A i cap) (xs.take i) := by
  obtain ⟨A', cap', he, hc, h0⟩ := h
  injection he with e1 e2 e3
  subst e1 e3
  refine ⟨A, cap, by rw [List.length_take, Nat.min_eq_left hi], by rw [List.length_take]; omega, ?_⟩
  rcases h0 with rfl | ⟨b, off, rfl, hb, hM, hcl⟩
  · left; simp
  · refine Or.inr ⟨b, off, rfl, hb, hM, fun j u hj => hcl j u ?_⟩
    rw [hk.cs_take xs i hi, List.getElem?_take] at hj
    split at hj
    · exact hj
    · cases hj
theorem El.Sl.drop {M : List Nat} {w : World} {A : Option Addr} {n cap : Nat} {xs : List α} (hk : E.Ok) (h : E.Sl M w (.slice A n cap) xs) (i : Nat) (hi : i ≤ xs.length) (B : Option Addr) (hB : i < xs.length → B = A.map fun x => x.add (i * E.k)) : E.Sl M w (.slice B (n - i) (cap - i)) (xs.drop i) := by
  obtain ⟨A', cap', he, hc, h0⟩ := h
  injection he with e1 e2 e3
  subst e1 e3
  refine ⟨B, cap - i, by rw [List.length_drop, e2], by rw [List.length_drop]; omega, ?_⟩
  by_cases hx : i < xs.length
  · rcases h0 with rfl | ⟨b, off, rfl, hb, hM, hcl⟩
    · simp at hx
    · refine Or.inr ⟨b, off + i * E.k, by rw [hB hx]; simp [Addr.add], hb, hM, fun j u hj => ?_⟩
      rw [hk.cs_drop xs i hi, List.getElem?_drop] at hj
      rw [Nat.add_assoc]; exact hcl _ u hj
  · left; rw [List.drop_of_length_le (by omega)]
/-- s[lo:] -/
theorem El.Sl.from {M : List Nat} {w : World} {A : Option Addr} {n cap : Nat} {xs : List α} (hk : E.Ok) (h : E.Sl M w (.slice A n cap) xs) (i : Nat) (hi : i ≤ xs.length) :
    ∃ u, (∀ W, (Instr.sliceAt E.ST (.slice A n cap) (some (.int .i64 i)) none none).run Try.prog W = .ok u W) ∧ E.Sl M w u (xs.drop i) := by
  have hn : n = xs.length := by obtain ⟨A', cap', he, _⟩ := h; injection he
  refine ⟨.slice (if cap = i then A else A.map (·.add (i * E.k))) (n - i) (cap - i), fun W => ?_, h.drop hk i hi _ fun hx => ?_⟩
  · have he : Try.prog.elem E.ST = E.T := by simp [Program.elem, hk.und]
    have hu : Try.prog.underlying E.ST = some (.slice (Try.prog.elem E.ST)) := by rw [he]; exact hk.und
    rw [run_sliceAt_slice (P := Try.prog) W _ _ _ _ _ hu, run_slice_l (P := Try.prog) W _ _ _ _ hu .i64 i (by omega) (by omega), he]
    obtain ⟨ti, z, hti, _, hts, _⟩ := hk.info
    simp [sizeOf, typeInfo, hti, hts, Result.andThen, sliced]
  · obtain ⟨A', cap', he', hc, _⟩ := h
    injection he' with _ _ e3
    rw [if_neg (by omega)]

theorem grun_app_nil (hk : E.Ok) (w : World) (base : Nat) (v : Value) (xs : List α) (hown : E.Own w base v xs) (c : Nat) : (Builtin.append_ #[E.ST, E.ST] E.ST #[v, .slice none 0 c]).run Try.prog w = .ok v w := by
  obtain ⟨ti, z, hti, htz, hts, htb, hzz⟩ := hk.info
  rcases hown.2 with ⟨rfl, h⟩ | ⟨g, cap, cur, rfl, _, _, hnc, _⟩
  · simp [Builtin.append_, run_underlying hk.und, sizeOf, typeInfo, hti, Builtin.lenOf, Builtin.firstCells]
  · simp [Builtin.append_, run_underlying hk.und, sizeOf, typeInfo, hti, Builtin.lenOf, Builtin.firstCells, hnc, storeCells]
/-- What an append comes to, its source nil, empty or not. -/
theorem gapp_run (hk : E.Ok) (w : World) (base : Nat) (v : Value) (xs : List α) (hown : E.Own w base v xs) (u : Value) (ys : List α) {M : List Nat} (hu : E.Sl M w u ys) (hsz : xs.length + ys.length ≤ 10000000) (hb : base ≤ w.heap.size) :
    ∃ v' w', (Builtin.append_ #[E.ST, E.ST] E.ST #[v, u]).run Try.prog w = .ok v' w' ∧ E.Own w' base v' (xs ++ ys) ∧ Fr v.ownBlock.toList w w' ∧ (∀ x ∈ v'.ownBlock.toList, x ∈ v.ownBlock.toList ∨ w.heap.size ≤ x) := by
  obtain ⟨A, cap, rfl, hc, hN⟩ := hu
  obtain ⟨ti, z, hti, htz, hts, htb, hzz⟩ := hk.info
  have key : ∀ a : Addr, (∀ j u, (E.cs ys)[j]? = some u → w.cell? (a.add j) = some u) → ∃ v' w', (Builtin.append_ #[E.ST, E.ST] E.ST #[v, .slice (some a) ys.length cap]).run Try.prog w = .ok v' w' ∧ E.Own w' base v' (xs ++ ys) ∧ Fr v.ownBlock.toList w w' ∧ (∀ x ∈ v'.ownBlock.toList, x ∈ v.ownBlock.toList ∨ w.heap.size ≤ x) := by
    intro a hn
    obtain ⟨v', w', h1, h2, h3, _, h5⟩ := run_append_own_at w base E.ST E.ST E.T ti z E.k ti.bytes hk.und hti htz hts rfl hzz hk.pos v xs.length (E.cs xs) hown a ys.length cap (E.cs ys) (hk.cs_len ys) hn (hk.cs_one ys) (by unfold maxLen; omega)
      (by have : (xs.length + ys.length) * ti.bytes ≤ 10000000 * 1000 := Nat.mul_le_mul hsz htb; omega) hb
    refine ⟨v', w', h1, by unfold El.Own; rw [El.cs_app, List.length_append]; exact h2, ⟨h3.os, h3.tape, h3.output, h3.size, fun k hk hS => h3.block k hk (fun e => hS (by rw [← e]; simp))⟩, fun q hq => ?_⟩
    rcases h5 with h4 | h4
    · left; rw [← h4]; exact hq
    · right; rw [h4] at hq; simp at hq; omega
  rcases hN with rfl | ⟨b, off, rfl, hb', hM, hcl⟩
  · cases A with
    | none => exact ⟨v, w, grun_app_nil hk w base v xs hown cap, by simpa using hown, Fr.refl _ _, fun x hx => Or.inl hx⟩
    | some a => exact key a (by simp [El.cs])
  · exact key _ (fun j u hj => by rw [Addr.add_mid]; exact hcl j u hj)
theorem wpList_appG {ops : Array Oper} {rest : List Oper} {o : Oper} {a : Act} {Q : Exit → Act → World → Prop} (hk : E.Ok) (w : World) (hgd : o.guard = none) (s x : Operand)
    (ho : o.op = .call { callee := .builtin .append, args := #[s, x], argTypes := #[E.ST, E.ST] }) (hty : o.type = E.ST)
    (base : Nat) (v : Value) (xs : List α) (hs : a.eval s = v) (hown : E.Own w base v xs) (u : Value) (ys : List α) (hx : a.eval x = u) {M : List Nat} (hu : E.Sl M w u ys) (hsz : xs.length + ys.length ≤ 10000000) (hbase : base ≤ w.heap.size)
    (h : ∀ v' w', E.Own w' base v' (xs ++ ys) → Fr v.ownBlock.toList w w' → (∀ x ∈ v'.ownBlock.toList, x ∈ v.ownBlock.toList ∨ w.heap.size ≤ x) → wpList Try.prog ops Q rest (a.put o.dst v') w') : wpList Try.prog ops Q (o :: rest) a w := by
  obtain ⟨v', w', hrun, h2, h3, h4⟩ := gapp_run hk w base v xs hown u ys hu hsz hbase
  exact Lib.wpList_append_run w hgd s x E.ST E.ST ho v u hs hx v' w' (by rw [hty]; exact hrun) (h v' w' h2 h3 h4)

/-- Of the blocks below base all but those of R are as they were. -/
structure FrB (base : Nat) (R : List Nat) (w w' : World) : Prop where
  os : w'.os = w.os
  tape : w'.tape = w.tape
  output : w'.output = w.output
  size : w.heap.size ≤ w'.heap.size
  bs : base ≤ w.heap.size
  block : ∀ k, k < base → k ∉ R → w'.heap[k]? = w.heap[k]?
theorem FrB.of {base : Nat} {R S : List Nat} {w w' : World} (f : Fr S w w') (hb : base ≤ w.heap.size) (hS : ∀ x ∈ S, x ∈ R ∨ base ≤ x) : FrB base R w w' :=
  ⟨f.os, f.tape, f.output, f.size, hb, fun k hk hR => f.block k (by omega) (fun hx => (hS k hx).elim hR (fun h => by omega))⟩
theorem FrB.trans {base : Nat} {R S : List Nat} {w w1 w2 : World} (h : FrB base R w w1) (f : Fr S w1 w2) (hS : ∀ x ∈ S, x ∈ R ∨ base ≤ x) : FrB base R w w2 :=
  ⟨f.os.trans h.os, f.tape.trans h.tape, f.output.trans h.output, Nat.le_trans h.size f.size, h.bs, fun k hk hR => (f.block k (by have := h.bs; have := h.size; omega) (fun hx => (hS k hx).elim hR (fun h => by omega))).trans (h.block k hk hR)⟩
theorem FrB.heap {base : Nat} {R : List Nat} {w w' : World} (h : FrB base R w w') {k : Nat} {o : Obj} (hk : w.heap[k]? = some o) (hl : k < base) (hR : k ∉ R) : w'.heap[k]? = some o := by rw [h.block k hl hR]; exact hk
theorem FrB.cellB {base : Nat} {R : List Nat} {w w' : World} (h : FrB base R w w') {b off : Nat} (hb : b < base) (hR : b ∉ R) : w'.cell? ⟨b, off, none⟩ = w.cell? ⟨b, off, none⟩ := by simp only [World.cell?, h.block b hb hR]
theorem FrB.after {base : Nat} {R S : List Nat} {w0 w w' : World} (h : FrB base R w w') (f : Fr S w0 w) (hb : w0.heap.size ≤ base) (hR : ∀ x ∈ R, x ∈ S ∨ w0.heap.size ≤ x) : Fr S w0 w' :=
  ⟨h.os.trans f.os, h.tape.trans f.tape, h.output.trans f.output, Nat.le_trans f.size h.size, fun k hk hS => (h.block k (by omega) (fun hx => (hR k hx).elim hS (fun h => by omega))).trans (f.block k hk hS)⟩
theorem FrB.le {base : Nat} {R : List Nat} {w w' : World} (h : FrB base R w w') : base ≤ w'.heap.size := by have := h.bs; have := h.size; omega
theorem El.Sl.frB {base : Nat} {R M : List Nat} {w w' : World} {v : Value} {xs : List α} (h : E.Sl M w v xs) (f : FrB base R w w') (hR : ∀ x ∈ R, x ∈ M) (hb : base = w.heap.size) : E.Sl M w' v xs :=
  h.fr (S := R) ⟨f.os, f.tape, f.output, f.size, fun k hk hR => f.block k (by omega) hR⟩ (fun x hx => Or.inl (hR x hx))

theorem wpList_appN {ops : Array Oper} {rest : List Oper} {o : Oper} {a : Act} {Q : Exit → Act → World → Prop} (hk : E.Ok) (w : World) (hgd : o.guard = none) (s x : Operand)
    (ho : o.op = .call { callee := .builtin .append, args := #[s, x], argTypes := #[E.ST, E.ST] }) (hty : o.type = E.ST)
    (base : Nat) (v : Value) (xs : List α) (hs : a.eval s = v) (hown : E.Own w base v xs) (u : Value) (ys : List α) (hx : a.eval x = u) {M : List Nat} (hu : E.Sl M w u ys) (hsz : xs.length + ys.length ≤ 10000000) (hbase : base ≤ w.heap.size)
    (h : ∀ A c w', E.Own w' base (.slice A (xs.length + ys.length) c) (xs ++ ys) → FrB base [] w w' → wpList Try.prog ops Q rest (a.put o.dst (.slice A (xs.length + ys.length) c)) w') : wpList Try.prog ops Q (o :: rest) a w :=
  wpList_appG hk w hgd s x ho hty base v xs hs hown u ys hx hu hsz hbase fun v' w' O G U => by
    obtain ⟨A, c, rfl⟩ := O.shape
    rw [List.length_append] at O ⊢
    exact h A c w' O (FrB.of G hbase (fun x hx => Or.inr (hown.ge x hx)))
/-- Does operation st wait, at last, for operation k? -/
def waitsB (ops : Array Oper) : Nat → Nat → Nat → Bool
  | 0, _, _ => false
  | f + 1, st, k => st == k || (match ops[st]? with | some o => o.after.any fun e => bindsAny e && waitsB ops f e.on k | none => false)
theorem shut_waits {ops : Array Oper} {b : Nat → Bool} {k : Nat} (h : shutB ops b) : ∀ (f st : Nat), waitsB ops f st k = true → b st = true → b k = true
  | 0, st, hw, _ => by simp [waitsB] at hw
  | f + 1, st, hw, hb => by
    simp only [waitsB, Bool.or_eq_true, beq_iff_eq] at hw
    rcases hw with rfl | hw
    · exact hb
    · split at hw
      · rename_i o ho
        obtain ⟨e, he, hw⟩ := Array.any_eq_true'.1 hw
        rw [Bool.and_eq_true] at hw
        exact shut_waits h f e.on hw.2 (h st o ho hb e he hw.1)
      · cases hw
/-- What waits for an operation that isn't done isn't done. -/
theorem shut_no {ops : Array Oper} {b : Nat → Bool} {k : Nat} (h : shutB ops b) (hk : b k = false) (st : Nat) (hw : waitsB ops 40 st k = true) : b st = false := by
  cases hb : b st with
  | false => rfl
  | true => rw [shut_waits h 40 st hw hb] at hk; cases hk

/-- A region whose last operation (place st) alone changes what is known. -/
def FinS (st : Nat) (A B : World → Prop) (b : Nat → Bool) (_ : Nat → Value) (w : World) : Prop := (b st = false → A w) ∧ (b st = true → B w)
theorem FinS.start {st : Nat} {A B : World → Prop} {V : Nat → Value} {w : World} (h : A w) : FinS st A B (fun _ => false) V w := ⟨fun _ => h, by simp⟩
theorem FinS.plain {st k : Nat} {A B : World → Prop} {b : Nat → Bool} {V : Nat → Value} {w : World} (hk : st ≠ k) (hb : b st = false) (h : A w) : FinS st A B (updD b k) V w := ⟨fun _ => h, fun q => (by rw [dD_ne hk, hb] at q; cases q)⟩
theorem FinS.pre {st : Nat} {A B : World → Prop} {b : Nat → Bool} {V : Nat → Value} {w : World} (h : FinS st A B b V w) (hb : b st = false) : A w := h.1 hb
theorem FinS.end_ {st : Nat} {A B : World → Prop} {b : Nat → Bool} {V : Nat → Value} {w : World} (h : FinS st A B b V w) (hb : b st = true) : B w := h.2 hb
theorem FinS.fin {st : Nat} {A B : World → Prop} {b : Nat → Bool} {V : Nat → Value} {w : World} (h : B w) : FinS st A B (updD b st) V w := ⟨fun q => (by rw [dD_eq] at q; cases q), fun _ => h⟩

/-- What an operation waits for, at last, is done. -/
theorem deps_done {ops : Array Oper} {b : Nat → Bool} {o : Oper} (h : shutB ops b) (hd : ∀ e ∈ o.after, bindsAny e = true → b e.on = true) (st : Nat) (hw : (o.after.any fun e => bindsAny e && waitsB ops 40 e.on st) = true) : b st = true := by
  obtain ⟨e, he, hw⟩ := Array.any_eq_true'.1 hw
  rw [Bool.and_eq_true] at hw
  exact shut_waits h 40 e.on hw.2 (hd e he hw.1)
theorem FinS.plain2 {st k : Nat} {A B : World → Prop} {b : Nat → Bool} {V : Nat → Value} {w : World} (hk : st ≠ k) (hb : b st = true) (h : B w) : FinS st A B (updD b k) V w := ⟨fun q => (by rw [dD_ne hk, hb] at q; cases q), fun _ => h⟩
/-- Q held at a world; nothing that was there has turned since. -/
def Since (Q : World → Prop) (w : World) : Prop := ∃ w1, Q w1 ∧ Fr [] w1 w
theorem Since.mk {Q : World → Prop} {w : World} (h : Q w) : Since Q w := ⟨w, h, Fr.refl _ _⟩
theorem Since.fr {Q : World → Prop} {w w' : World} (h : Since Q w) (f : Fr [] w w') : Since Q w' := by obtain ⟨w1, q, g⟩ := h; exact ⟨w1, q, g.trans f⟩
/-- A region that makes one value that hangs on the order (place k), and else only reads. -/
def ValS (k : Nat) (R : Value → World → Prop) (w0 : World) (b : Nat → Bool) (V : Nat → Value) (w : World) : Prop := Fr [] w0 w ∧ (b k = true → Since (R (V k)) w)
section
variable {k j : Nat} {R : Value → World → Prop} {w0 w w' : World} {b : Nat → Bool} {V : Nat → Value} {v : Value}
theorem ValS.start : ValS k R w0 (fun _ => false) V w0.drew := ⟨(Fr.refl _ _).drew, by simp⟩
theorem ValS.fr (h : ValS k R w0 b V w) : Fr [] w0 w := h.1
theorem ValS.val (h : ValS k R w0 b V w) (hb : b k = true) : Since (R (V k)) w := h.2 hb
theorem ValS.plain (h : ValS k R w0 b V w) (hj : k ≠ j) (f : Fr [] w w') : ValS k R w0 (updD b j) V w' := ⟨h.1.trans f, fun q => by rw [dD_ne hj] at q; exact (h.2 q).fr f⟩
theorem ValS.put (h : ValS k R w0 b V w) (f : Fr [] w w') (hv : R v w') : ValS k R w0 (updD b k) (updV V k v) w' := ⟨h.1.trans f, fun _ => by rw [dV_eq]; exact Since.mk hv⟩
end

/-- A region that makes a variable (place ka) and stores into it (place st), and else only reads. -/
structure AlS (ka st : Nat) (T : TypeId) (c0 c1 : Array Value) (w0 : World) (b : Nat → Bool) (V : Nat → Value) (w : World) : Prop where
  fr : Fr [] w0 w
  al : b ka = true → ∃ q, V ka = .pointer (some ⟨q, 0, none⟩) ∧ w0.heap.size ≤ q ∧ w.heap[q]? = some (.cells (if b st then c1 else c0) T)
section
variable {ka st j : Nat} {T : TypeId} {c0 c1 : Array Value} {w0 w w' : World} {b : Nat → Bool} {V : Nat → Value} {v : Value}
theorem AlS.start : AlS ka st T c0 c1 w0 (fun _ => false) V w0.drew := ⟨(Fr.refl _ _).drew, by simp⟩
theorem AlS.plain (h : AlS ka st T c0 c1 w0 b V w) (hj : ka ≠ j ∧ st ≠ j) (f : Fr [] w w') : AlS ka st T c0 c1 w0 (updD b j) V w' := by
  refine ⟨h.fr.trans f, fun q => ?_⟩
  rw [dD_ne hj.1] at q
  obtain ⟨p, h1, h2, h3⟩ := h.al q
  exact ⟨p, h1, h2, by rw [dD_ne hj.2]; exact f.heap h3 (by simp)⟩
theorem AlS.alloc (h : AlS ka st T c0 c1 w0 b V w) (hk : ka ≠ st) (hs : b st = false) (f : Fr [] w w') {q : Nat} (hq : w.heap.size ≤ q) (hc : w'.heap[q]? = some (.cells c0 T)) : AlS ka st T c0 c1 w0 (updD b ka) (updV V ka (.pointer (some ⟨q, 0, none⟩))) w' :=
  ⟨h.fr.trans f, fun _ => ⟨q, by rw [dV_eq], Nat.le_trans h.fr.size hq, by rw [dD_ne (Ne.symm hk), hs]; exact hc⟩⟩
theorem AlS.at (h : AlS ka st T c0 c1 w0 b V w) (hb : b ka = true) (hs : b st = false) : ∃ q, V ka = .pointer (some ⟨q, 0, none⟩) ∧ w0.heap.size ≤ q ∧ w.heap[q]? = some (.cells c0 T) := by
  have := h.al hb; rw [hs] at this; exact this
theorem AlS.store (h : AlS ka st T c0 c1 w0 b V w) (hk : st ≠ ka) {q : Nat} (hv : V ka = .pointer (some ⟨q, 0, none⟩)) (hq : w0.heap.size ≤ q) (f : Fr [q] w w') (hc : w'.heap[q]? = some (.cells c1 T)) : AlS ka st T c0 c1 w0 (updD b st) V w' :=
  ⟨h.fr.trans' f (by simpa using hq), fun _ => ⟨q, hv, hq, by rw [dD_eq]; exact hc⟩⟩
theorem AlS.done (h : AlS ka st T c0 c1 w0 b V w) (hb : b ka = true) (hs : b st = true) : ∃ q, V ka = .pointer (some ⟨q, 0, none⟩) ∧ w0.heap.size ≤ q ∧ w.heap[q]? = some (.cells c1 T) := by
  have := h.al hb; rw [hs] at this; exact this
end

/-- Cells of n zero elements. -/
theorem El.Ok.made {α : Type} {E : El α} (hk : E.Ok) (z0 : α) (n : Nat) {z : Array Value} (hz : z.toList = E.f z0) : madeCells z (n * E.k) = (E.cs (List.replicate n z0)).toArray := by
  have hzs : z.size = E.k := by rw [← hk.len z0, ← hz]; simp
  apply Array.ext_getElem?
  intro j
  by_cases hj : j < n * E.k
  · have h0 := hk.pos
    have h1 : j / E.k < n := by rw [Nat.div_lt_iff_lt_mul h0]; exact hj
    have h2 : j % E.k < E.k := Nat.mod_lt _ h0
    have := hk.cs_get (List.replicate n z0) (j / E.k) (j % E.k) z0 (by simp [h1]) h2
    rw [show j / E.k * E.k + j % E.k = j by rw [Nat.mul_comm]; exact Nat.div_add_mod j E.k] at this
    rw [show (E.cs (List.replicate n z0)).toArray[j]? = (E.cs (List.replicate n z0))[j]? by simp, this, ← hz]
    simp only [madeCells, Array.getElem?_map, Array.getElem?_range, hj, if_true, Option.map_some, hzs]
    rw [getElem!_pos z (j % E.k) (by omega)]
    simp
  · rw [Array.getElem?_eq_none (by rw [size_madeCells]; omega), Array.getElem?_eq_none (by simp [hk.cs_len]; omega)]
/-- make -/
theorem El.Ok.run_make {α : Type} {E : El α} (hk : E.Ok) (z0 : α) {i : TypeInfo} {z : Value} (hi : Try.prog.info? E.T = some i) (hz : i.zero = some z) (hs : i.size = E.k) (hb : i.bytes ≤ 1000) (hc : z.cells.toList = E.f z0) (n : Nat) (hn : n ≤ 100000) (w : World) :
    (Instr.makeSlice E.ST (.int .i64 n) (.int .i64 n)).run Try.prog w = .ok (.slice (some ⟨w.heap.size, 0, none⟩) n n) (w.alloc (.cells (E.cs (List.replicate n z0)).toArray E.T)) := by
  have hbn : i.bytes * n ≤ 1000 * 100000 := Nat.mul_le_mul hb hn
  have hbi : (i.bytes : Int) * (n : Int) ≤ 100000000 := by rw [← Int.natCast_mul]; omega
  have := Go.run_make (P := Try.prog) w E.ST E.T i z hk.und hi hz .i64 .i64 n n (by omega) (Int.le_refl _) (by omega) (by omega)
  rw [this, hs]
  simp only [Int.toNat_natCast]
  rw [hk.made z0 n hc]

/-- In a region that appends again and again: the rows that come to be, one out of the other, and at first out of u0 (places ps, lists ls), rows that are read (L), and the store of the last one at block r (place st), or its assignment (place q). -/
structure ChS (E : El α) (w0 : World) (R : List Nat) (base : Nat) (u0 : Value) (l0 : List α) (ps : List Nat) (ls : List (List α)) (L : List (Nat × List α)) (st q r : Nat) (o0 : Obj) (o1 : Value → Obj) (b : Nat → Bool) (V : Nat → Value) (w : World) : Prop where
  fr : FrB base R w0 w
  m : ∃ m, m ≤ ps.length ∧ (∀ i p, ps[i]? = some p → (b p = true ↔ i < m)) ∧ (∀ p l, 0 < m → ps[m - 1]? = some p → ls[m - 1]? = some l → E.Own w base (V p) l) ∧ (∀ p, 0 < m → ps[m - 1]? = some p → ∀ x ∈ L, b x.1 = true → ∀ y ∈ (V x.1).ownBlock.toList, y ∉ (V p).ownBlock.toList) ∧ (m = 0 → E.Own w base u0 l0)
  uo : ∀ y ∈ u0.ownBlock.toList, y < w0.heap.size
  rd : ∀ x ∈ L, b x.1 = true → (∀ y ∈ (V x.1).ownBlock.toList, w0.heap.size ≤ y ∧ y < w.heap.size) ∧ E.Sl [] w (V x.1) x.2
  t0 : b st = false → w.heap[r]? = some o0
  t1 : b st = true → ∀ p, ps.getLast? = some p → b p = true ∧ w.heap[r]? = some (o1 (V p))
  asg : b q = true → ∀ p, ps.getLast? = some p → b p = true ∧ V q = V p
  nos : st = 1000 → b st = false
  noq : q = 1000 → b q = false
section
variable {w0 w w' : World} {R : List Nat} {base : Nat} {u0 : Value} {l0 : List α} {ps : List Nat} {ls : List (List α)} {L : List (Nat × List α)} {st q r : Nat} {o0 : Obj} {o1 : Value → Obj} {b : Nat → Bool} {V : Nat → Value} {k : Nat} {v : Value}
theorem ChS.start (hr : w0.heap[r]? = some o0) (hb : base ≤ w0.heap.size) (hu : E.Own w0 base u0 l0) : ChS E w0 R base u0 l0 ps ls L st q r o0 o1 (fun _ => false) V w0.drew :=
  ⟨FrB.of (S := []) ((Fr.refl _ _).drew) hb (by simp), ⟨0, by omega, by simp, by simp, by simp, fun _ => hu.fr (S := []) ((Fr.refl _ _).drew) (by simp)⟩, hu.lt, by simp, fun _ => hr, by simp, by simp, by simp, by simp⟩
/-- A row that is there ahead of the region. -/
theorem ChS.plain (h : ChS E w0 R base u0 l0 ps ls L st q r o0 o1 b V w) (hk : k ∉ ps ∧ k ≠ st ∧ k ≠ q ∧ k ∉ L.map Prod.fst) (hr : r < base) (f : Fr [] w w') : ChS E w0 R base u0 l0 ps ls L st q r o0 o1 (updD b k) V w' := by
  obtain ⟨h1, h2, h3, h4⟩ := hk
  have hL : ∀ x ∈ L, updD b k x.1 = b x.1 := fun x hx => dD_ne (fun e => h4 (e ▸ List.mem_map_of_mem hx))
  have hp : ∀ p, p ∈ ps → updD b k p = b p := fun p hp => dD_ne (fun e => h1 (e ▸ hp))
  have ht : w'.heap[r]? = w.heap[r]? := f.block r (Nat.lt_of_lt_of_le hr h.fr.le) (by simp)
  refine ⟨h.fr.trans f (by simp), ?_, h.uo, fun x hx hb => ?_, fun ha => ?_, fun ha p hpl => ?_, fun ha p hpl => ?_, fun e => by rw [dD_ne (Ne.symm h2)]; exact h.nos e, fun e => by rw [dD_ne (Ne.symm h3)]; exact h.noq e⟩
  · obtain ⟨m, m1, m2, m3, m4, m5⟩ := h.m
    exact ⟨m, m1, fun i p hi => by rw [hp p (List.mem_of_getElem? hi)]; exact m2 i p hi, fun p l h0 hi hl => (m3 p l h0 hi hl).fr f (by simp), fun p h0 hi x hx hb => m4 p h0 hi x hx (by rw [hL x hx] at hb; exact hb), fun h0 => (m5 h0).fr f (by simp)⟩
  · rw [hL x hx] at hb
    exact ⟨fun y hy => ⟨((h.rd x hx hb).1 y hy).1, Nat.lt_of_lt_of_le ((h.rd x hx hb).1 y hy).2 f.size⟩, (h.rd x hx hb).2.fr f (by simp)⟩
  · rw [dD_ne (Ne.symm h2)] at ha; rw [ht]; exact h.t0 ha
  · rw [dD_ne (Ne.symm h2)] at ha; rw [ht, hp p (List.mem_of_getLast? hpl)]; exact h.t1 ha p hpl
  · rw [dD_ne (Ne.symm h3)] at ha; rw [hp p (List.mem_of_getLast? hpl)]; exact h.asg ha p hpl
/-- The i-th row comes to be. -/
theorem ChS.row (h : ChS E w0 R base u0 l0 ps ls L st q r o0 o1 b V w) (i : Nat) {l : List α} (hi : ps[i]? = some k) (hl : ls[i]? = some l) (hn : ps.Nodup ∧ k ≠ st ∧ k ≠ q ∧ k ∉ L.map Prod.fst) (hd : ∀ p, 0 < i → ps[i - 1]? = some p → b p = true) (hbk : b k = false) (hst : b st = false) (hq : b q = false) (hr : r < base)
    {S : List Nat} (f : Fr S w w') (hS : ∀ x ∈ S, base ≤ x) (hSp : ∀ p, 0 < i → ps[i - 1]? = some p → ∀ x ∈ S, x ∈ (V p).ownBlock.toList) (hS0 : i = 0 → ∀ x ∈ S, x ∈ u0.ownBlock.toList) (hown : E.Own w' base v l)
    (hU : (∀ x ∈ v.ownBlock.toList, x ∈ S ∨ w.heap.size ≤ x) ∨ L = []) : ChS E w0 R base u0 l0 ps ls L st q r o0 o1 (updD b k) (updV V k v) w' := by
  obtain ⟨hn, hks, hkq, hkL⟩ := hn
  have hL : ∀ x ∈ L, updD b k x.1 = b x.1 := fun x hx => dD_ne (fun e => hkL (e ▸ List.mem_map_of_mem hx))
  have hLV : ∀ x ∈ L, updV V k v x.1 = V x.1 := fun x hx => dV_ne (fun e => hkL (e ▸ List.mem_map_of_mem hx))
  have hdis : ∀ x ∈ L, b x.1 = true → ∀ y ∈ (V x.1).ownBlock.toList, y ∉ S := by
    intro x hx hb y hy hyS
    rcases Nat.eq_zero_or_pos i with h0 | h0
    · have q1 := ((h.rd x hx hb).1 y hy).1; have q2 := h.uo y (hS0 h0 y hyS); omega
    · obtain ⟨m, m1, m2, m3, m4, m5⟩ := h.m
      have hil : i < ps.length := (List.getElem?_eq_some_iff.1 hi).1
      have hp : ps[i - 1]? = some ps[i - 1] := List.getElem?_eq_getElem (by omega)
      have e1 := (not_congr (m2 i k hi)).1 (by simp [hbk])
      have e2 := (m2 (i - 1) _ hp).1 (hd _ h0 hp)
      have hmi : m = i := by omega
      subst hmi
      exact m4 _ h0 hp x hx hb y hy (hSp _ h0 hp y hyS)
  refine ⟨h.fr.trans f (fun x hx => Or.inr (hS x hx)), ?_, h.uo, fun x hx hb => ?_, fun _ => ?_, fun ha => ?_, fun ha => ?_, fun e => by rw [dD_ne (Ne.symm hks)]; exact h.nos e, fun e => by rw [dD_ne (Ne.symm hkq)]; exact h.noq e⟩
  · obtain ⟨m, m1, m2, m3, m4, m5⟩ := h.m
    have hmi : m = i := by
      have e1 := (not_congr (m2 i k hi)).1 (by simp [hbk])
      rcases Nat.eq_zero_or_pos i with h0 | h0
      · omega
      · have hil : i < ps.length := (List.getElem?_eq_some_iff.1 hi).1
        have hp : ps[i - 1]? = some ps[i - 1] := List.getElem?_eq_getElem (by omega)
        have := (m2 (i - 1) _ hp).1 (hd _ h0 hp)
        omega
    subst hmi
    have hil : m < ps.length := (List.getElem?_eq_some_iff.1 hi).1
    refine ⟨m + 1, hil, fun j p hj => ?_, fun p l' h0 hj hl' => ?_, fun p h0 hj x hx hb y hy hyp => ?_, fun h0 => absurd h0 (by omega)⟩
    · by_cases hpk : p = k
      · subst hpk
        have : j = m := by
          have hjl : j < ps.length := (List.getElem?_eq_some_iff.1 hj).1
          exact (List.getElem_inj hn).1 (by rw [(List.getElem?_eq_some_iff.1 hj).2, (List.getElem?_eq_some_iff.1 hi).2])
        subst this
        simp [dD_eq]
      · rw [dD_ne hpk, m2 j p hj]
        have : j ≠ m := by rintro rfl; rw [hi] at hj; exact hpk (Option.some.inj hj).symm
        omega
    · simp only [Nat.add_sub_cancel] at hj hl'
      rw [hi] at hj; rw [hl] at hl'
      obtain rfl := Option.some.inj hj
      obtain rfl := Option.some.inj hl'
      rw [dV_eq]; exact hown
    · simp only [Nat.add_sub_cancel] at hj
      rw [hi] at hj
      obtain rfl := Option.some.inj hj
      rw [dV_eq] at hyp
      rw [hL x hx] at hb
      rw [hLV x hx] at hy
      rcases hU with hU | hU
      · rcases hU y hyp with q | q
        · exact hdis x hx hb y hy q
        · have := ((h.rd x hx hb).1 y hy).2; omega
      · rw [hU] at hx; simp at hx
  · rw [hL x hx] at hb
    rw [hLV x hx]
    exact ⟨fun y hy => ⟨((h.rd x hx hb).1 y hy).1, Nat.lt_of_lt_of_le ((h.rd x hx hb).1 y hy).2 f.size⟩, (h.rd x hx hb).2.apart f (hdis x hx hb)⟩
  · rw [f.block r (Nat.lt_of_lt_of_le hr h.fr.le) (fun hx => by have := hS r hx; omega)]; exact h.t0 hst
  · rw [dD_ne (Ne.symm hks)] at ha; rw [hst] at ha; cases ha
  · rw [dD_ne (Ne.symm hkq)] at ha; rw [hq] at ha; cases ha
/-- A row that is read is laid. -/
theorem ChS.lit (h : ChS E w0 R base u0 l0 ps ls L st q r o0 o1 b V w) {l : List α} (hlen : ps.length = ls.length) (hk : k ∉ ps ∧ k ≠ st ∧ k ≠ q) (hu : ∀ x ∈ L, x.1 = k → x.2 = l) (hr : r < base) (f : Fr [] w w') (hsl : E.Sl [] w' v l) (hv : ∀ x ∈ v.ownBlock.toList, w.heap.size ≤ x ∧ x < w'.heap.size) : ChS E w0 R base u0 l0 ps ls L st q r o0 o1 (updD b k) (updV V k v) w' := by
  obtain ⟨h1, h2, h3⟩ := hk
  have hp : ∀ p, p ∈ ps → updD b k p = b p := fun p hp => dD_ne (fun e => h1 (e ▸ hp))
  have hpv : ∀ p, p ∈ ps → updV V k v p = V p := fun p hp => dV_ne (fun e => h1 (e ▸ hp))
  have ht : w'.heap[r]? = w.heap[r]? := f.block r (Nat.lt_of_lt_of_le hr h.fr.le) (by simp)
  refine ⟨h.fr.trans f (by simp), ?_, h.uo, fun x hx hb => ?_, fun ha => ?_, fun ha p hpl => ?_, fun ha p hpl => ?_, fun e => by rw [dD_ne (Ne.symm h2)]; exact h.nos e, fun e => by rw [dD_ne (Ne.symm h3)]; exact h.noq e⟩
  · obtain ⟨m, m1, m2, m3, m4, m5⟩ := h.m
    refine ⟨m, m1, fun i p hi => by rw [hp p (List.mem_of_getElem? hi)]; exact m2 i p hi, fun p l h0 hi hl => by rw [hpv p (List.mem_of_getElem? hi)]; exact (m3 p l h0 hi hl).fr f (by simp), fun p h0 hi x hx hb y hy => ?_, fun h0 => (m5 h0).fr f (by simp)⟩
    rw [hpv p (List.mem_of_getElem? hi)]
    by_cases hxk : x.1 = k
    · rw [hxk, dV_eq] at hy
      intro hyp
      cases hl : ls[m - 1]? with
      | some l' => have q1 := (m3 p l' h0 hi hl).lt y hyp; have := (hv y hy).1; omega
      | none => have q1 := (List.getElem?_eq_some_iff.1 hi).1; rw [List.getElem?_eq_none_iff] at hl; omega
    · rw [dV_ne hxk] at hy; rw [dD_ne hxk] at hb; exact m4 p h0 hi x hx hb y hy
  · by_cases hxk : x.1 = k
    · rw [hxk, dV_eq, hu x hx hxk]; exact ⟨fun y hy => ⟨Nat.le_trans h.fr.size (hv y hy).1, (hv y hy).2⟩, hsl⟩
    · rw [dV_ne hxk]; rw [dD_ne hxk] at hb
      exact ⟨fun y hy => ⟨((h.rd x hx hb).1 y hy).1, Nat.lt_of_lt_of_le ((h.rd x hx hb).1 y hy).2 f.size⟩, (h.rd x hx hb).2.fr f (by simp)⟩
  · rw [dD_ne (Ne.symm h2)] at ha; rw [ht]; exact h.t0 ha
  · rw [dD_ne (Ne.symm h2)] at ha; rw [ht, hp p (List.mem_of_getLast? hpl), hpv p (List.mem_of_getLast? hpl)]; exact h.t1 ha p hpl
  · rw [dD_ne (Ne.symm h3)] at ha; rw [hp p (List.mem_of_getLast? hpl), hpv p (List.mem_of_getLast? hpl), dV_ne (Ne.symm h3)]; exact h.asg ha p hpl
/-- The row that the next one is made of. -/
theorem ChS.at (h : ChS E w0 R base u0 l0 ps ls L st q r o0 o1 b V w) (i : Nat) {p k : Nat} {l : List α} (hp : ps[i]? = some p) (hl : ls[i]? = some l) (hi : ps[i + 1]? = some k) (hb : b p = true) (hbk : b k = false) : E.Own w base (V p) l := by
  obtain ⟨m, m1, m2, m3, m4, m5⟩ := h.m
  have e1 := (m2 i p hp).1 hb
  have e2 := (not_congr (m2 (i + 1) k hi)).1 (by simp [hbk])
  have : m = i + 1 := by omega
  subst this
  exact m3 p l (by omega) hp hl
/-- The row that is there at first. -/
theorem ChS.at0 (h : ChS E w0 R base u0 l0 ps ls L st q r o0 o1 b V w) {k : Nat} (hi : ps[0]? = some k) (hbk : b k = false) : E.Own w base u0 l0 := by
  obtain ⟨m, m1, m2, m3, m4, m5⟩ := h.m
  have e2 := (not_congr (m2 0 k hi)).1 (by simp [hbk])
  exact m5 (by omega)
/-- The last row is stored. -/
theorem ChS.store (h : ChS E w0 R base u0 l0 ps ls L k q r o0 o1 b V w) (hn : k ∉ ps ∧ k ≠ q ∧ k ≠ 1000 ∧ L = []) (hrR : r ∈ R) (hr : r < base) {p : Nat} (hp : ps.getLast? = some p) (hb : b p = true) {S : List Nat} (f : Fr S w w') (hS : ∀ x ∈ S, x = r) (ht : w'.heap[r]? = some (o1 (V p))) : ChS E w0 R base u0 l0 ps ls L k q r o0 o1 (updD b k) V w' := by
  obtain ⟨hk, hkq, hk1, rfl⟩ := hn
  have hp' : ∀ p, p ∈ ps → updD b k p = b p := fun p hp => dD_ne (fun e => hk (e ▸ hp))
  refine ⟨h.fr.trans f (fun x hx => Or.inl (by rw [hS x hx]; exact hrR)), ?_, h.uo, by simp, fun ha => ?_, fun _ p' hpl => ?_, fun ha p hpl => ?_, fun e => absurd e hk1, fun e => by rw [dD_ne (Ne.symm hkq)]; exact h.noq e⟩
  · obtain ⟨m, m1, m2, m3, m4, m5⟩ := h.m
    exact ⟨m, m1, fun i p hi => by rw [hp' p (List.mem_of_getElem? hi)]; exact m2 i p hi, fun p l h0 hi hl => (m3 p l h0 hi hl).fr f (fun x hx => by rw [hS x hx]; exact hr), by simp, fun h0 => (m5 h0).fr f (fun x hx => by rw [hS x hx]; exact hr)⟩
  · rw [dD_eq] at ha; cases ha
  · rw [hp] at hpl
    obtain rfl := Option.some.inj hpl
    exact ⟨by rw [hp' p (List.mem_of_getLast? hp)]; exact hb, ht⟩
  · rw [dD_ne (Ne.symm hkq)] at ha; rw [hp' p (List.mem_of_getLast? hpl)]; exact h.asg ha p hpl
/-- The last row is assigned. -/
theorem ChS.asgn (h : ChS E w0 R base u0 l0 ps ls L st k r o0 o1 b V w) (hn : k ∉ ps ∧ k ≠ st ∧ k ≠ 1000 ∧ k ∉ L.map Prod.fst) (hr : r < base) {p : Nat} (hp : ps.getLast? = some p) (hb : b p = true) (f : Fr [] w w') (hv : v = V p) : ChS E w0 R base u0 l0 ps ls L st k r o0 o1 (updD b k) (updV V k v) w' := by
  obtain ⟨hk, hkq, hk1, hkL⟩ := hn
  have hL : ∀ x ∈ L, updD b k x.1 = b x.1 := fun x hx => dD_ne (fun e => hkL (e ▸ List.mem_map_of_mem hx))
  have hLV : ∀ x ∈ L, updV V k v x.1 = V x.1 := fun x hx => dV_ne (fun e => hkL (e ▸ List.mem_map_of_mem hx))
  have hp' : ∀ p, p ∈ ps → updD b k p = b p := fun p hp => dD_ne (fun e => hk (e ▸ hp))
  have hv' : ∀ p, p ∈ ps → updV V k v p = V p := fun p hp => dV_ne (fun e => hk (e ▸ hp))
  have ht : w'.heap[r]? = w.heap[r]? := f.block r (Nat.lt_of_lt_of_le hr h.fr.le) (by simp)
  refine ⟨h.fr.trans f (by simp), ?_, h.uo, fun x hx hb => ?_, fun ha => ?_, fun ha p hpl => ?_, fun _ p' hpl => ?_, fun e => by rw [dD_ne (Ne.symm hkq)]; exact h.nos e, fun e => absurd e hk1⟩
  · obtain ⟨m, m1, m2, m3, m4, m5⟩ := h.m
    exact ⟨m, m1, fun i p hi => by rw [hp' p (List.mem_of_getElem? hi)]; exact m2 i p hi, fun p l h0 hi hl => by rw [hv' p (List.mem_of_getElem? hi)]; exact (m3 p l h0 hi hl).fr f (by simp),
      fun p h0 hi x hx hb => by rw [hL x hx] at hb; rw [hLV x hx, hv' p (List.mem_of_getElem? hi)]; exact m4 p h0 hi x hx hb, fun h0 => (m5 h0).fr f (by simp)⟩
  · rw [hL x hx] at hb
    rw [hLV x hx]
    exact ⟨fun y hy => ⟨((h.rd x hx hb).1 y hy).1, Nat.lt_of_lt_of_le ((h.rd x hx hb).1 y hy).2 f.size⟩, (h.rd x hx hb).2.fr f (by simp)⟩
  · rw [dD_ne (Ne.symm hkq)] at ha; rw [ht]; exact h.t0 ha
  · rw [dD_ne (Ne.symm hkq)] at ha; rw [ht, hp' p (List.mem_of_getLast? hpl), hv' p (List.mem_of_getLast? hpl)]; exact h.t1 ha p hpl
  · rw [hp] at hpl
    obtain rfl := Option.some.inj hpl
    rw [dV_eq, hv' p (List.mem_of_getLast? hp), hp' p (List.mem_of_getLast? hp)]; exact ⟨hb, hv⟩
theorem ChS.shape (h : ChS E w0 R base u0 l0 ps ls L st q r o0 o1 b V w) {p : Nat} {l : List α} (hp : ps.getLast? = some p) (hl : ls[ps.length - 1]? = some l) (hb : b p = true) : ∃ A c, V p = .slice A l.length c := by
  obtain ⟨m, m1, m2, m3, m4, m5⟩ := h.m
  have hp' : ps[ps.length - 1]? = some p := by rw [← List.getLast?_eq_getElem?]; exact hp
  have := (m2 _ p hp').1 hb
  have hm : m = ps.length := by omega
  subst hm
  exact (m3 p l (by omega) hp' hl).shape
/-- Behind the region. -/
theorem ChS.last (h : ChS E w0 R base u0 l0 ps ls L st q r o0 o1 b V w) {p : Nat} {l : List α} (hp : ps.getLast? = some p) (hl : ls[ps.length - 1]? = some l) (hb : b p = true) : E.Own w base (V p) l := by
  obtain ⟨m, m1, m2, m3, m4, m5⟩ := h.m
  have hp' : ps[ps.length - 1]? = some p := by rw [← List.getLast?_eq_getElem?]; exact hp
  have := (m2 _ p hp').1 hb
  have hm : m = ps.length := by omega
  subst hm
  exact m3 p l (by omega) hp' hl
end
end
end Go.Proofs.Ytoapobhdpgcmbaa
