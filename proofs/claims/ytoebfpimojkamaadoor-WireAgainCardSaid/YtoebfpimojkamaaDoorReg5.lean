/- What is known in a region whose order is open, in which one block is made. -/
import Derived.Test.YtoebfpimojkamaaDoorReg3
namespace Go.Proofs.YtoebfpimojkamaaDoor
open Go.RowKit

/-- One block is made, at place k; the world is else as it was. -/
structure BoxS (w0 : World) (n k : Nat) (T : TypeId) (X : Array Value) (b : Nat → Bool) (w : World) : Prop where
  fr : Fr [] w0 w
  pre : b k = false → w.heap.size = n
  post : b k = true → w.heap[n]? = some (.cells X T)
theorem BoxS.plain {w0 w : World} {n k : Nat} {T : TypeId} {X : Array Value} {b b' : Nat → Bool} (h : BoxS w0 n k T X b w) (hk : b' k = b k) : BoxS w0 n k T X b' w :=
  ⟨h.fr, fun hb => h.pre (by rw [← hk]; exact hb), fun hb => h.post (by rw [← hk]; exact hb)⟩
theorem BoxS.box {w0 w : World} {n k : Nat} {T : TypeId} {X : Array Value} {b b' : Nat → Bool} (h : BoxS w0 n k T X b w) (hb : b k = false) (hk : b' k = true) : BoxS w0 n k T X b' (w.alloc (.cells X T)) :=
  ⟨h.fr.alloc _, fun hb' => absurd (hk.symm.trans hb') (by simp), fun _ => by
    have := h.pre hb
    subst this
    exact heap_alloc_new _ _⟩

/-- Three operations change the world, one behind the other, at places k1, k2, k3: so the world is one of four. -/
structure LineS (k1 k2 k3 : Nat) (W0 W1 W2 W3 : World) (b : Nat → Bool) (w : World) : Prop where
  d2 : b k2 = true → b k1 = true
  d3 : b k3 = true → b k2 = true
  eq : w = bif b k3 then W3 else bif b k2 then W2 else bif b k1 then W1 else W0
section
variable {k1 k2 k3 : Nat} {W0 W1 W2 W3 w : World} {b b' : Nat → Bool}
theorem LineS.all {R : World → Prop} (h : LineS k1 k2 k3 W0 W1 W2 W3 b w) (h0 : R W0) (h1 : R W1) (h2 : R W2) (h3 : R W3) : R w := by
  rw [h.eq]
  cases b k3 <;> cases b k2 <;> cases b k1 <;> assumption
theorem LineS.plain (h : LineS k1 k2 k3 W0 W1 W2 W3 b w) (e1 : b' k1 = b k1) (e2 : b' k2 = b k2) (e3 : b' k3 = b k3) : LineS k1 k2 k3 W0 W1 W2 W3 b' w :=
  ⟨by rw [e1, e2]; exact h.d2, by rw [e2, e3]; exact h.d3, by rw [e1, e2, e3]; exact h.eq⟩
theorem LineS.at0 (h : LineS k1 k2 k3 W0 W1 W2 W3 b w) (hb : b k1 = false) : w = W0 ∧ b k2 = false ∧ b k3 = false := by
  have e2 : b k2 = false := by
    cases h2 : b k2 with
    | false => rfl
    | true => rw [h.d2 h2] at hb; cases hb
  have e3 : b k3 = false := by
    cases h3 : b k3 with
    | false => rfl
    | true => rw [h.d3 h3] at e2; cases e2
  exact ⟨by rw [h.eq, hb, e2, e3]; rfl, e2, e3⟩
theorem LineS.at1 (h : LineS k1 k2 k3 W0 W1 W2 W3 b w) (h1 : b k1 = true) (hb : b k2 = false) : w = W1 ∧ b k3 = false := by
  have e3 : b k3 = false := by
    cases h3 : b k3 with
    | false => rfl
    | true => rw [h.d3 h3] at hb; cases hb
  exact ⟨by rw [h.eq, h1, hb, e3]; rfl, e3⟩
theorem LineS.at2 (h : LineS k1 k2 k3 W0 W1 W2 W3 b w) (h1 : b k2 = true) (hb : b k3 = false) : w = W2 := by
  rw [h.eq, hb, h1]; rfl
theorem LineS.at3 (h : LineS k1 k2 k3 W0 W1 W2 W3 b w) (hb : b k3 = true) : w = W3 := by
  rw [h.eq, hb]; rfl
theorem LineS.to1 (h : LineS k1 k2 k3 W0 W1 W2 W3 b w) (hb : b k1 = false) (e1 : b' k1 = true) (e2 : b' k2 = b k2) (e3 : b' k3 = b k3) : LineS k1 k2 k3 W0 W1 W2 W3 b' W1 := by
  obtain ⟨_, h2, h3⟩ := h.at0 hb
  rw [h2] at e2; rw [h3] at e3
  exact ⟨fun _ => e1, fun hx => by rw [e3] at hx; exact Bool.noConfusion hx, by rw [e1, e2, e3]; rfl⟩
theorem LineS.to2 (h : LineS k1 k2 k3 W0 W1 W2 W3 b w) (h1 : b k1 = true) (hb : b k2 = false) (e1 : b' k1 = b k1) (e2 : b' k2 = true) (e3 : b' k3 = b k3) : LineS k1 k2 k3 W0 W1 W2 W3 b' W2 := by
  obtain ⟨_, h3⟩ := h.at1 h1 hb
  rw [h1] at e1; rw [h3] at e3
  exact ⟨fun _ => e1, fun hx => by rw [e3] at hx; exact Bool.noConfusion hx, by rw [e2, e3]; rfl⟩
theorem LineS.to3 (h : LineS k1 k2 k3 W0 W1 W2 W3 b w) (h2 : b k2 = true) (e1 : b' k1 = b k1) (e2 : b' k2 = b k2) (e3 : b' k3 = true) : LineS k1 k2 k3 W0 W1 W2 W3 b' W3 :=
  ⟨fun _ => by rw [e1]; exact h.d2 h2, fun _ => by rw [e2]; exact h2, by rw [e3]; rfl⟩
end

end Go.Proofs.YtoebfpimojkamaaDoor
