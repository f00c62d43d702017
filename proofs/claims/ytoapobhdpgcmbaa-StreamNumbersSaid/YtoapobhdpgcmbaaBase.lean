/- Plain lemmas on worlds, blocks and frames that the walks of this seat use; no statement of the seat is proved here. -/
import Derived.Test.YtoapobhdpgcmbaaProg
import Derived.WalkKit
import Derived.WalkSpells
import Derived.WalkLawsBesides
import Derived.KernelRfl
namespace Go.Proofs.Ytoapobhdpgcmbaa
open Go.RowKit

/-- Of the blocks that were there all but those of S are as they were. -/
structure Fr (S : List Nat) (w w' : World) : Prop where
  os : w'.os = w.os
  tape : w'.tape = w.tape
  output : w'.output = w.output
  size : w.heap.size ≤ w'.heap.size
  block : ∀ k, k < w.heap.size → k ∉ S → w'.heap[k]? = w.heap[k]?

theorem Fr.refl (S : List Nat) (w : World) : Fr S w w := ⟨rfl, rfl, rfl, Nat.le_refl _, fun _ _ _ => rfl⟩
theorem Fr.trans {S : List Nat} {a b c : World} (h : Fr S a b) (k : Fr S b c) : Fr S a c :=
  ⟨k.os.trans h.os, k.tape.trans h.tape, k.output.trans h.output, Nat.le_trans h.size k.size,
   fun i hi hS => (k.block i (Nat.lt_of_lt_of_le hi h.size) hS).trans (h.block i hi hS)⟩
/-- What a later call may touch of what was there at first. -/
theorem Fr.trans' {S S' : List Nat} {a b c : World} (h : Fr S a b) (k : Fr S' b c) (hs : ∀ x ∈ S', x ∈ S ∨ a.heap.size ≤ x) : Fr S a c :=
  ⟨k.os.trans h.os, k.tape.trans h.tape, k.output.trans h.output, Nat.le_trans h.size k.size,
   fun i hi hS => (k.block i (Nat.lt_of_lt_of_le hi h.size) (fun hx => (hs i hx).elim hS (fun h => absurd hi (by omega)))).trans (h.block i hi hS)⟩
theorem Fr.mono {S S' : List Nat} {a b : World} (h : Fr S a b) (hs : ∀ x ∈ S, x ∈ S' ∨ a.heap.size ≤ x) : Fr S' a b :=
  ⟨h.os, h.tape, h.output, h.size, fun i hi hS => h.block i hi (fun hx => (hs i hx).elim hS (fun h => absurd hi (by omega)))⟩
theorem Fr.drew {S : List Nat} {a w : World} (h : Fr S a w) : Fr S a w.drew := ⟨h.os, h.tape, h.output, h.size, h.block⟩
theorem Fr.drewN {S : List Nat} {a w : World} (h : Fr S a w) (n : Nat) : Fr S a (w.drewN n) := ⟨h.os, h.tape, h.output, h.size, h.block⟩
theorem Fr.alloc {S : List Nat} {a w : World} (h : Fr S a w) (o : Obj) : Fr S a (w.alloc o) :=
  h.trans ⟨rfl, rfl, rfl, by simp, fun k hk _ => Below.heap_alloc _ _ _ (by omega)⟩
theorem Fr.setCell {S : List Nat} {a w : World} (h : Fr S a w) {p : Addr} (hp : p.block ∈ S ∨ a.heap.size ≤ p.block) (u : Value) : Fr S a (w.setCell p u) :=
  h.trans' (S' := [p.block]) ⟨rfl, rfl, rfl, by simp [World.setCell], fun k _ hk => Below.heap_setCell _ _ _ _ (by simpa using hk)⟩ (by simpa using hp)
theorem Fr.setNew {S : List Nat} {a w : World} (h : Fr S a w) {b : Nat} (o : Nat) (hp : a.heap.size ≤ b) (u : Value) : Fr S a (w.setCell ⟨b, o, none⟩ u) := h.setCell (Or.inr hp) u
theorem Fr.setOld {S : List Nat} {a w : World} (h : Fr S a w) {b : Nat} (o : Nat) (hp : b ∈ S) (u : Value) : Fr S a (w.setCell ⟨b, o, none⟩ u) := h.setCell (Or.inl hp) u
theorem Fr.below {w w' : World} (h : Fr [] w w') : Below w.heap.size w w' := ⟨h.os, h.tape, h.output, h.size, fun k hk => h.block k hk (by simp)⟩
theorem Fr.of_below {S : List Nat} {w w' : World} (h : Below w.heap.size w w') : Fr S w w' := ⟨h.os, h.tape, h.output, h.size, fun k hk _ => h.block k hk⟩
theorem Fr.heap {S : List Nat} {w w' : World} (h : Fr S w w') {k : Nat} {o : Obj} (hk : w.heap[k]? = some o) (hs : k ∉ S) : w'.heap[k]? = some o := by
  have : k < w.heap.size := by
    rcases Nat.lt_or_ge k w.heap.size with h1 | h1
    · exact h1
    · simp [Array.getElem?_eq_none h1] at hk
  rw [h.block k this hs]; exact hk

theorem lt_of_heap {w : World} {p : Nat} {o : Obj} (h : w.heap[p]? = some o) : p < w.heap.size := by
  rcases Nat.lt_or_ge p w.heap.size with h1 | h1
  · exact h1
  · simp [Array.getElem?_eq_none h1] at h
theorem ne_size {w : World} {p : Nat} {o : Obj} (h : w.heap[p]? = some o) : p ≠ w.heap.size := Nat.ne_of_lt (lt_of_heap h)
theorem blk_cell {w : World} {p : Nat} {cs : Array Value} {T : TypeId} {z : Nat × Nat} (h : w.heap[p]? = some (.cells cs T z)) (off : Nat) : w.cell? ⟨p, off, none⟩ = cs[off]? := by
  simp [World.cell?, h]
theorem blk_frozen {w : World} {p : Nat} {cs : Array Value} {T : TypeId} (h : w.heap[p]? = some (.cells cs T (0, 0))) (off : Nat) : w.frozen? ⟨p, off, none⟩ = false := by
  simp [World.frozen?, h]
theorem heap_alloc_old {w : World} {p : Nat} {x : Obj} (h : w.heap[p]? = some x) (o : Obj) : (w.alloc o).heap[p]? = some x := by
  rw [Below.heap_alloc _ _ _ (lt_of_heap h)]; exact h
theorem heap_alloc_new (w : World) (o : Obj) : (w.alloc o).heap[w.heap.size]? = some o := by
  show (w.heap.push o)[w.heap.size]? = _
  simp
theorem Fr.use {S : List Nat} {w w' : World} (h : Fr S w w') {k : Nat} {cs : Array Value} {T : TypeId} {goal : Prop} (hk : w.heap[k]? = some (.cells cs T (0, 0))) (hs : k ∉ S)
    (next : w'.heap[k]? = some (.cells cs T (0, 0)) → (∀ off, w'.cell? ⟨k, off, none⟩ = cs[off]?) → (∀ off, w'.frozen? ⟨k, off, none⟩ = false) →
      k < w'.heap.size → k < w'.heap.size + 1 → k < w'.heap.size + 1 + 1 → k ≠ w'.heap.size → w'.heap.size ≠ k → goal) : goal :=
  have g := h.heap hk hs
  have l := lt_of_heap g
  next g (blk_cell g) (blk_frozen g) l (by omega) (by omega) (by omega) (by omega)
theorem blk_use {w' : World} {k : Nat} {cs : Array Value} {T : TypeId} {goal : Prop} (g : w'.heap[k]? = some (.cells cs T (0, 0)))
    (next : w'.heap[k]? = some (.cells cs T (0, 0)) → (∀ off, w'.cell? ⟨k, off, none⟩ = cs[off]?) → (∀ off, w'.frozen? ⟨k, off, none⟩ = false) →
      k < w'.heap.size → k < w'.heap.size + 1 → k < w'.heap.size + 1 + 1 → k ≠ w'.heap.size → w'.heap.size ≠ k → goal) : goal :=
  have l := lt_of_heap g
  next g (blk_cell g) (blk_frozen g) l (by omega) (by omega) (by omega) (by omega)
theorem side_use {w' : World} {k : Nat} {goal : Prop} (l : k < w'.heap.size) (next : k < w'.heap.size → k < w'.heap.size + 1 → k < w'.heap.size + 1 + 1 → k ≠ w'.heap.size → w'.heap.size ≠ k → goal) : goal :=
  next l (by omega) (by omega) (by omega) (by omega)
theorem heap_alloc_get (w : World) (o : Obj) (k : Nat) : (w.alloc o).heap[k]? = if k = w.heap.size then some o else w.heap[k]? := by
  show (w.heap.push o)[k]? = _
  rw [Array.getElem?_push]
theorem heap_drew (w : World) (k : Nat) : w.drew.heap[k]? = w.heap[k]? := rfl
theorem heap_drewN (w : World) (n k : Nat) : (w.drewN n).heap[k]? = w.heap[k]? := rfl
theorem size_drew (w : World) : w.drew.heap.size = w.heap.size := rfl
theorem size_alloc (w : World) (o : Obj) : (w.alloc o).heap.size = w.heap.size + 1 := by simp
theorem size_setCell (w : World) (a : Addr) (v : Value) : (w.setCell a v).heap.size = w.heap.size := by simp [World.setCell]
theorem heap_set_ne (w : World) {p k : Nat} (o : Nat) (v : Value) (h : k ≠ p) : (w.setCell ⟨p, o, none⟩ v).heap[k]? = w.heap[k]? := Below.heap_setCell _ _ _ _ h
theorem heap_set_eq {w : World} {p : Nat} {cs : Array Value} {T : TypeId} {z : Nat × Nat} (h : w.heap[p]? = some (.cells cs T z)) (o : Nat) (v : Value) :
    (w.setCell ⟨p, o, none⟩ v).heap[p]? = some (.cells (cs.setIfInBounds o v) T z) := by
  simp [World.setCell, Array.getElem?_modify, h]

theorem heap_alloc_at {w : World} {k : Nat} (h : k = w.heap.size) (o : Obj) : (w.alloc o).heap[k]? = some o := by subst h; exact heap_alloc_new w o
theorem heap_set_other {w : World} {p k : Nat} {x : Obj} (h : w.heap[k]? = some x) (hne : k ≠ p) (o : Nat) (v : Value) : (w.setCell ⟨p, o, none⟩ v).heap[k]? = some x := by
  rw [heap_set_ne w o v hne]; exact h
theorem heap_drew_of {w : World} {k : Nat} {x : Obj} (h : w.heap[k]? = some x) : w.drew.heap[k]? = some x := h
theorem heap_drewN_of {w : World} {n k : Nat} {x : Obj} (h : w.heap[k]? = some x) : (w.drewN n).heap[k]? = some x := h

theorem heap_eq_of {w : World} {k : Nat} {a b : Obj} (h : w.heap[k]? = some a) (e : a = b) : w.heap[k]? = some b := by rw [h, e]
theorem wrap64_0 : wrap64 0 = 0 := by unfold wrap64; omega

theorem ret_int {k : IntKind} {a b : Int} (h : a = b) : Ending.returned (.int k a) = .returned (.int k b) := by rw [h]
theorem ret_bool {a b : Bool} (h : a = b) : Ending.returned (.bool a) = .returned (.bool b) := by rw [h]

/-- The first step of a deferred closure: recover, where the frame below panics. -/
theorem wpS_recover_panic {P : Program} {id d : Nat} {ty : TypeId} {pos : String} {rest : Code} {Q : Exit → Act → List Frame → World → Prop} {a : Act} {c₀ : Frame} {cs : List Frame} {w : World} {v : Value} {older : List PanicEntry}
    (hu : c₀.mode = .panicking ({ v := v, recovered := false } :: older))
    (h : rest.wpS P Q (a.put (some d) v) ({ c₀ with mode := .panicking ({ v := v, recovered := true } :: older) } :: cs) w) :
    (Code.seq (.region id #[{ dst := some d, op := Op.call { callee := Callee.builtin Builtin.recover, args := #[], argTypes := #[] }, type := ty, pos := pos, after := #[], guard := none }] false) rest).wpS P Q a (c₀ :: cs) w := by
  apply wpS_seq
  apply wpS_region
  simp [wpOpsS, go_sem, recoverD, hu, Exit.thenS]
  exact h

/-- The same, where the frame below returns. -/
theorem wpS_recover_idle {P : Program} {id d : Nat} {ty : TypeId} {pos : String} {rest : Code} {Q : Exit → Act → List Frame → World → Prop} {a : Act} {c₀ : Frame} {cs : List Frame} {w : World}
    (hu : c₀.mode = .returning)
    (h : rest.wpS P Q (a.put (some d) .nilIface) (c₀ :: cs) w) :
    (Code.seq (.region id #[{ dst := some d, op := Op.call { callee := Callee.builtin Builtin.recover, args := #[], argTypes := #[] }, type := ty, pos := pos, after := #[], guard := none }] false) rest).wpS P Q a (c₀ :: cs) w := by
  apply wpS_seq
  apply wpS_region
  simp [wpOpsS, go_sem, recoverD, hu, Exit.thenS]
  exact h

/-- The world is given a name; what is known of its blocks is got by 'Fr.use'. -/
theorem wp_name {P : Program} {c : Code} {Q : Exit → Act → World → Prop} {a : Act} {W : World} (h : ∀ w5, Fr [] W w5 → c.wp P Q a w5) : c.wp P Q a W := h W (Fr.refl _ _)
theorem wpList_name {P : Program} {ops : Array Oper} {Q : Exit → Act → World → Prop} {l : List Oper} {a : Act} {W : World} (h : ∀ w5, Fr [] W w5 → wpList P ops Q l a w5) : wpList P ops Q l a W := h W (Fr.refl _ _)
theorem results_name {P : Program} {fn : Func} {t : Array Value} {v : Value} {W : World} (h : ∀ w5, Fr [] W w5 → (results fn t).run P w5 = .ok v w5) : (results fn t).run P W = .ok v W := h W (Fr.refl _ _)

theorem makeFunc_any {P : Program} (fn : Fn) (first cap : Array Value) (w : World) : (Instr.makeFunc fn first cap).run P w = .ok (.func fn first cap) w := rfl

end Go.Proofs.Ytoapobhdpgcmbaa
