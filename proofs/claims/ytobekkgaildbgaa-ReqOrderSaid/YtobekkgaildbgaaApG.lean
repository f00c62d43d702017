/- A region that appends one literal to a row of the call's own, and stores what comes; what is kept of blocks by calls that touch none of some list. -/
import Derived.Test.YtobekkgaildbgaaGen
namespace Go.Proofs.Ytobekkgaildbgaa
open Go.RowKit

/-- A region that appends one literal row (made at kl) to an own row at k, and stores what comes in block t at st; only the row's own block and t are touched. -/
structure ApG {α : Type} (E : El α) (base : Nat) (v : Value) (x : α) (xs' : List α) (kl k st t : Nat) (o0 : Obj) (o1 : Value → Obj) (w0 : World) (b : Nat → Bool) (V : Nat → Value) (w : World) : Prop where
  a : b k = false → Fr [] w0 w
  lit : b kl = true → ∃ q, V kl = .slice (some ⟨q, 0, none⟩) 1 1 ∧ w0.heap.size ≤ q ∧ w.heap[q]? = some (.cells (E.f x).toArray E.T)
  m : b k = true → E.Own w base (V k) xs' ∧ (∀ y ∈ (V k).ownBlock.toList, y ∈ v.ownBlock.toList ∨ w0.heap.size ≤ y) ∧ Fr (t :: v.ownBlock.toList) w0 w
  c0 : b st = false → w.heap[t]? = some o0
  c1 : b st = true → b k = true ∧ w.heap[t]? = some (o1 (V k))
section
variable {α : Type} {E : El α} {base : Nat} {v : Value} {x : α} {xs' : List α} {kl k st t : Nat} {o0 : Obj} {o1 : Value → Obj} {w0 w w' : World} {b : Nat → Bool} {V : Nat → Value}
theorem ApG.start (h : w0.heap[t]? = some o0) : ApG E base v x xs' kl k st t o0 o1 w0 (fun _ => false) V w0.drew := ⟨fun _ => (Fr.refl _ _).drew, by simp, by simp, fun _ => h, by simp⟩
theorem ApG.plain (h : ApG E base v x xs' kl k st t o0 o1 w0 b V w) {j : Nat} (hj : kl ≠ j ∧ k ≠ j ∧ st ≠ j) (f : Fr [] w w') : ApG E base v x xs' kl k st t o0 o1 w0 (updD b j) V w' :=
  ⟨fun q => (h.a (by rwa [dD_ne hj.2.1] at q)).trans f, fun q => by obtain ⟨g, g1, g2, g3⟩ := h.lit (by rwa [dD_ne hj.1] at q); exact ⟨g, g1, g2, f.heap g3 (by simp)⟩,
   fun q => by obtain ⟨m1, m2, m3⟩ := h.m (by rwa [dD_ne hj.2.1] at q); exact ⟨m1.fr f (by simp), m2, m3.trans (f.mono (by simp))⟩,
   fun q => f.heap (h.c0 (by rwa [dD_ne hj.2.2] at q)) (by simp), fun q => by obtain ⟨e1, e2⟩ := h.c1 (by rwa [dD_ne hj.2.2] at q); exact ⟨by rwa [dD_ne hj.2.1], f.heap e2 (by simp)⟩⟩
theorem ApG.made (h : ApG E base v x xs' kl k st t o0 o1 w0 b V w) (hn : kl ≠ k ∧ kl ≠ st) (hb : b k = false) (hs : b st = false) {q : Nat} (hq : w.heap.size ≤ q) (f : Fr [] w w') (hc : w'.heap[q]? = some (.cells (E.f x).toArray E.T)) : ApG E base v x xs' kl k st t o0 o1 w0 (updD b kl) (updV V kl (.slice (some ⟨q, 0, none⟩) 1 1)) w' :=
  ⟨fun _ => (h.a hb).trans f, fun _ => ⟨q, by rw [dV_eq], Nat.le_trans (h.a hb).size hq, hc⟩, fun e => (by rw [dD_ne (Ne.symm hn.1), hb] at e; cases e), fun _ => f.heap (h.c0 hs) (by simp), fun e => (by rw [dD_ne (Ne.symm hn.2), hs] at e; cases e)⟩
theorem ApG.app (h : ApG E base v x xs' kl k st t o0 o1 w0 b V w) (hn : kl ≠ k ∧ k ≠ st) (hb : b k = false) (hs : b st = false) {u : Value} (ho : E.Own w' base u xs') (f : Fr v.ownBlock.toList w w') (hu : ∀ y ∈ u.ownBlock.toList, y ∈ v.ownBlock.toList ∨ w.heap.size ≤ y) (ht : t ∉ v.ownBlock.toList) (hv : ∀ y ∈ v.ownBlock.toList, y < w0.heap.size) : ApG E base v x xs' kl k st t o0 o1 w0 (updD b k) (updV V k u) w' :=
  ⟨fun e => (by rw [dD_eq] at e; cases e), fun e => by
      rw [dD_ne hn.1] at e
      obtain ⟨q, q1, q2, q3⟩ := h.lit e
      refine ⟨q, by rw [dV_ne hn.1]; exact q1, q2, f.heap q3 (fun hq => ?_)⟩
      have := hv q hq
      omega,
   fun _ => ⟨by rw [dV_eq]; exact ho, by rw [dV_eq]; exact fun y hy => (hu y hy).imp id (fun q => Nat.le_trans (h.a hb).size q), ((h.a hb).mono (by simp)).trans (f.mono (fun y hy => Or.inl (by simp [hy])))⟩,
   fun _ => f.heap (h.c0 hs) ht, fun e => (by rw [dD_ne (Ne.symm hn.2), hs] at e; cases e)⟩
theorem ApG.store (h : ApG E base v x xs' kl k st t o0 o1 w0 b V w) (hn : kl ≠ st ∧ k ≠ st) (hb : b k = true) (f : Fr [t] w w') (ht : t < base) (hc : w'.heap[t]? = some (o1 (V k))) (hlq : ∀ q, w0.heap.size ≤ q → q ≠ t) : ApG E base v x xs' kl k st t o0 o1 w0 (updD b st) V w' :=
  ⟨fun e => (by rw [dD_ne hn.2, hb] at e; cases e), fun e => by
      rw [dD_ne hn.1] at e
      obtain ⟨q, q1, q2, q3⟩ := h.lit e
      exact ⟨q, q1, q2, f.heap q3 (by simpa using hlq q q2)⟩,
   fun _ => by obtain ⟨m1, m2, m3⟩ := h.m hb; exact ⟨m1.fr f (by simpa using ht), m2, m3.trans (f.mono (by simp))⟩,
   fun e => (by rw [dD_eq] at e; cases e), fun _ => ⟨by rwa [dD_ne hn.2], hc⟩⟩
theorem ApG.done (h : ApG E base v x xs' kl k st t o0 o1 w0 b V w) (hb : b st = true) : E.Own w base (V k) xs' ∧ w.heap[t]? = some (o1 (V k)) ∧ (∀ y ∈ (V k).ownBlock.toList, y ∈ v.ownBlock.toList ∨ w0.heap.size ≤ y) ∧ Fr (t :: v.ownBlock.toList) w0 w := by
  obtain ⟨e1, e2⟩ := h.c1 hb
  obtain ⟨m1, m2, m3⟩ := h.m e1
  exact ⟨m1, e2, m2, m3⟩
end

/-- WHAT A CALL KEEPS: it touches blocks from B on alone, none of M, and new ones. -/
def KeepM (B : Nat) (M : List Nat) (w w' : World) : Prop := ∃ N, Fr N w w' ∧ ∀ x ∈ N, B ≤ x ∧ x ∉ M
section
variable {w w' w'' w0 : World} {B : Nat} {M S : List Nat}
theorem KeepM.of (f : Fr S w w') (h : ∀ x ∈ S, B ≤ x ∧ x ∉ M) : KeepM B M w w' := ⟨S, f, h⟩
theorem KeepM.fr0 (f : Fr [] w w') : KeepM B M w w' := ⟨[], f, by simp⟩
theorem KeepM.fr (h : KeepM B M w w') (f : Fr [] w0 w) (hB : w0.heap.size ≤ B) : Fr [] w0 w' := by
  obtain ⟨N, F, hN⟩ := h
  exact f.trans' F (fun x hx => Or.inr (Nat.le_trans hB (hN x hx).1))
theorem KeepM.heap (h : KeepM B M w w') {k : Nat} {o : Obj} (hk : w.heap[k]? = some o) (hM : k ∈ M) : w'.heap[k]? = some o := by
  obtain ⟨N, F, hN⟩ := h
  exact F.heap hk (fun q => (hN k q).2 hM)
theorem KeepM.low (h : KeepM B M w w') {k : Nat} {o : Obj} (hk : w.heap[k]? = some o) (hB : k < B) : w'.heap[k]? = some o := by
  obtain ⟨N, F, hN⟩ := h
  exact F.heap hk (fun q => by have := (hN k q).1; omega)
theorem KeepM.size (h : KeepM B M w w') : w.heap.size ≤ w'.heap.size := by obtain ⟨N, F, hN⟩ := h; exact F.size
theorem KeepM.trans (h : KeepM B M w w') (k : KeepM B M w' w'') : KeepM B M w w'' := by
  obtain ⟨N, F, hN⟩ := h
  obtain ⟨N', F', hN'⟩ := k
  exact ⟨N ++ N', (F.mono (fun x hx => Or.inl (List.mem_append_left _ hx))).trans (F'.mono (fun x hx => Or.inl (List.mem_append_right _ hx))), fun x hx => (List.mem_append.1 hx).elim (hN x) (hN' x)⟩
theorem KeepM.mono {M' : List Nat} (h : KeepM B M w w') (hM : ∀ x ∈ M', x ∈ M) : KeepM B M' w w' := by
  obtain ⟨N, F, hN⟩ := h
  exact ⟨N, F, fun x hx => ⟨(hN x hx).1, fun q => (hN x hx).2 (hM x q)⟩⟩
theorem KeepM.sl {α : Type} {E : El α} {v : Value} {xs : List α} {L : List Nat} (h : KeepM B M w w') (hs : E.Sl L w v xs) (hM : ∀ x ∈ v.ownBlock.toList, x ∈ M) : E.Sl L w' v xs := by
  obtain ⟨N, F, hN⟩ := h
  exact hs.apart F (fun x hx q => (hN x q).2 (hM x hx))
end
end Go.Proofs.Ytobekkgaildbgaa
