/- Package wire's Read. -/
import Derived.Test.YtoebfpimojkamaaDoorWireOpen
namespace Go.Proofs.YtoebfpimojkamaaDoor
open Go.RowKit

/-- An operation. -/
structure OpD where
  k : Int
  id : Int
  f : Int
  c : Int
  vs : List Int
  wl : Bool

def isErr (g : Addr) (e : Value) : Prop := e = vForm g ∨ ∃ m, e = vShort m
theorem isErr.ne {g : Addr} {e : Value} (h : isErr g e) : e ≠ .nilIface := by
  rcases h with rfl | ⟨m, rfl⟩ <;> simp
theorem isErr.or {g : Addr} {e : Value} (h : isErr g e) : e = .nilIface ∨ e = vForm g ∨ ∃ m, e = vShort m := Or.inr h
theorem isErr.ok {g : Addr} {e : Value} (h : isErr g e) : okE e = false := by
  rcases h with rfl | ⟨m, rfl⟩ <;> rfl

/-- A reader: what is left; nothing: something was wrong. -/
def RS (w : World) (p : Nat) (g : Addr) : Option (List Int) → Prop
  | some ys => RdAt w p ys .nilIface
  | none => ∃ ys e, RdAt w p ys e ∧ isErr g e
theorem RS.fr {S : List Nat} {w w' : World} {p : Nat} {g : Addr} {s : Option (List Int)} (h : RS w p g s) (f : Fr S w w') (hS : ∀ x ∈ S, p < x) : RS w' p g s := by
  cases s with
  | some ys => exact RdAt.fr h f hS
  | none => obtain ⟨ys, e, h1, h2⟩ := h; exact ⟨ys, e, h1.fr f hS, h2⟩
theorem RS.lt {w : World} {p : Nat} {g : Addr} {s : Option (List Int)} (h : RS w p g s) : p < w.heap.size := by
  cases s with
  | some ys => exact RdAt.lt h
  | none => obtain ⟨ys, e, h1, h2⟩ := h; exact h1.lt
theorem RS.fr' {S : List Nat} {w w' : World} {p : Nat} {g : Addr} {s : Option (List Int)} (h : RS w p g s) (f : Fr S w w') (hS : ∀ x ∈ S, p < x) : RS w' p g s := h.fr f hS

def getS : Option (List Int) → Nat → Option (List Int)
  | some ys, k => if k ≤ ys.length then some (ys.drop k) else none
  | none, _ => none
def valS : Option (List Int) → Option (List Int)
  | some ys => if ys.length % 8 = 0 ∧ ys.length ≤ 64 then some [] else none
  | none => none
def closedS : Option (List Int) → Bool
  | some [] => true
  | _ => false

/-- What 'get' comes to. -/
structure GetS (p : Nat) (g : Addr) (s : Option (List Int)) (k : Nat) (w : World) (e : Ending) (w' : World) : Prop where
  val : ∃ v, e = .returned (.int .u64 v) ∧ 0 ≤ v ∧ v < p256 k ∧ (∀ ys, s = some ys → k ≤ ys.length → v = num (ys.take k))
  rs : RS w' p g (getS s k)
  fr : Fr [p] w w'
theorem wgetS (p : Nat) (g : Addr) (s : Option (List Int)) (sz : Int) (k : Nat) (hk : sz = k) (hs : k ≤ 8) (w : World) (hr : RS w p g s) :
    Calls Tryd.prog 31 #[.pointer (some ⟨p, 0, none⟩), .int .i64 sz] w fun e w' => GetS p g s k w e w' := by
  have aux : ∀ ys e0, RdAt w p ys e0 → ∀ e w', GetPost p ys k e0 w e w' → (ys.length < k ∧ e = .returned (.int .u64 0) ∧ RdAt w' p ys (vShort (k - ys.length))) ∨ (k ≤ ys.length ∧ (0 ≤ num (ys.take k) ∧ num (ys.take k) < p256 k) ∧ e = .returned (.int .u64 (num (ys.take k))) ∧ RdAt w' p (ys.drop k) e0) := by
    intro ys e0 hd e w' h
    rcases h.val with ⟨q1, q2, q3⟩ | ⟨q1, q2, q3⟩
    · exact Or.inl ⟨q1, q2, q3⟩
    · refine Or.inr ⟨q1, ?_, q2, q3⟩
      have := num_bounds (ys.take k) (fun v hv => hd.mem v (List.mem_of_mem_take hv))
      rwa [show (ys.take k).length = k by simp; omega] at this
  cases s with
  | some ys =>
    refine (wgetc p ys .nilIface sz k hk hs w hr).mono ?_
    intro e w' h
    rcases aux _ _ hr _ _ h with ⟨q1, q2, q3⟩ | ⟨q1, q0, q2, q3⟩
    · exact ⟨⟨0, q2, by omega, by have := p256_pos k; omega, fun zs hz hl => by cases hz; omega⟩, by simp [getS, show ¬ k ≤ ys.length by omega]; exact ⟨ys, _, q3, Or.inr ⟨_, rfl⟩⟩, h.fr⟩
    · exact ⟨⟨_, q2, q0.1, q0.2, fun zs hz hl => by cases hz; rfl⟩, by simp [getS, q1]; exact q3, h.fr⟩
  | none =>
    obtain ⟨ys, e0, h1, h2⟩ := hr
    refine (wgetc p ys e0 sz k hk hs w h1).mono ?_
    intro e w' h
    rcases aux _ _ h1 _ _ h with ⟨q1, q2, q3⟩ | ⟨q1, q0, q2, q3⟩
    · exact ⟨⟨0, q2, by omega, by have := p256_pos k; omega, fun zs hz hl => by cases hz⟩, ⟨ys, _, q3, Or.inr ⟨_, rfl⟩⟩, h.fr⟩
    · exact ⟨⟨_, q2, q0.1, q0.2, fun zs hz hl => by cases hz⟩, ⟨_, _, q3, h2⟩, h.fr⟩

/-- What 'values' comes to. -/
structure ValS (p : Nat) (g : Addr) (s : Option (List Int)) (w : World) (e : Ending) (w' : World) : Prop where
  val : ∃ A cap l, e = .returned (.slice A l.length cap) ∧ NAt w' .u64 18446744073709551615 w'.heap.size A l ∧ (∀ a, A = some a → w.heap.size ≤ a.block) ∧ (∀ ys, s = some ys → ys.length % 8 = 0 ∧ ys.length ≤ 64 → l = wordsN ys (ys.length / 8))
  rs : RS w' p g (valS s)
  fr : Fr [p] w w'
theorem wvaluesS (p : Nat) (g : Addr) (s : Option (List Int)) (w : World) (hr : RS w p g s) (hG : Gl w g) (hp1 : 1 < p) :
    Calls Tryd.prog 32 #[.pointer (some ⟨p, 0, none⟩)] w fun e w' => ValS p g s w e w' := by
  cases s with
  | some ys =>
    refine (wvalues p ys .nilIface g (Or.inl rfl) w hr hG hp1).mono ?_
    intro e w' h
    obtain ⟨A, cap, l, zs, e', q1, q2, q3, q4, ⟨_, q5, q6, rfl, rfl, rfl⟩ | ⟨q5, q6⟩⟩ := h.val
    · exact ⟨⟨A, cap, _, q1, q2, q3, fun xs hx _ => by cases hx; rfl⟩, by simp only [valS, q5, q6, and_self, if_true]; exact q4, h.fr⟩
    · have hne : ¬ (ys.length % 8 = 0 ∧ ys.length ≤ 64) := by
        rcases q5 with q5 | q5 | q5
        · simp at q5
        · omega
        · omega
      refine ⟨⟨A, cap, l, q1, q2, q3, fun xs hx hc => by cases hx; exact absurd hc hne⟩, ?_, h.fr⟩
      simp only [valS, hne, if_false]
      refine ⟨zs, e', q4, ?_⟩
      rcases q6 with ⟨_, q6⟩ | q6
      · exact absurd rfl q6
      · exact q6
  | none =>
    obtain ⟨ys, e0, h1, h2⟩ := hr
    refine (wvalues p ys e0 g h2.or w h1 hG hp1).mono ?_
    intro e w' h
    obtain ⟨A, cap, l, zs, e', q1, q2, q3, q4, ⟨q5, _⟩ | ⟨q5, q6⟩⟩ := h.val
    · exact absurd q5 h2.ne
    · refine ⟨⟨A, cap, l, q1, q2, q3, fun xs hx _ => by cases hx⟩, ⟨zs, e', q4, ?_⟩, h.fr⟩
      rcases q6 with ⟨rfl, _⟩ | q6
      · exact h2
      · exact q6
theorem wcloseS (p : Nat) (g : Addr) (s : Option (List Int)) (w : World) (hr : RS w p g s) (hG : Gl w g) :
    Calls Tryd.prog 33 #[.pointer (some ⟨p, 0, none⟩)] w fun e w' => e = .returned (.bool (closedS s)) ∧ Fr [] w w' := by
  cases s with
  | some ys =>
    refine (wclose p ys .nilIface g (Or.inl rfl) w hr hG).mono ?_
    rintro e w' ⟨rfl, h⟩
    refine ⟨?_, h⟩
    cases ys <;> rfl
  | none =>
    obtain ⟨ys, e0, h1, h2⟩ := hr
    refine (wclose p ys e0 g h2.or w h1 hG).mono ?_
    rintro e w' ⟨rfl, h⟩
    exact ⟨by rw [h2.ok]; rfl, h⟩

end Go.Proofs.YtoebfpimojkamaaDoor
