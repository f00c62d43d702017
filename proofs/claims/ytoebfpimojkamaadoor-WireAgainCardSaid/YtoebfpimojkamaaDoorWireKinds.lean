/- Package wire's Read: what each kind comes to. -/
import Derived.Test.YtoebfpimojkamaaDoorWireRead
import Derived.Lib.AppendZeros
namespace Go.Proofs.YtoebfpimojkamaaDoor
open Go.RowKit

/-- What the closure 'get' comes to. -/
structure GetI (p : Nat) (g : Addr) (s : Option (List Int)) (k : Nat) (w : World) (e : Ending) (w' : World) : Prop where
  val : ∃ v, e = .returned (.int .i64 v) ∧ 0 ≤ v ∧ v < p256 k ∧ (∀ ys, s = some ys → k ≤ ys.length → v = num (ys.take k))
  rs : RS w' p g (getS s k)
  fr : Fr [p] w w'

set_option maxRecDepth 100000 in
set_option maxHeartbeats 4000000 in
theorem wread1 (rv p : Nat) (g : Addr) (s : Option (List Int)) (sz : Int) (k : Nat) (hk : sz = k) (hs : k ≤ 2) (w : World) (hv : w.heap[rv]? = some (.cells #[.pointer (some ⟨p, 0, none⟩)] 55)) (hr : RS w p g s) :
    Calls Tryd.prog 30 #[.int .i64 sz, .pointer (some ⟨rv, 0, none⟩)] w fun e w' => GetI p g s k w e w' := by
  have HR := Lib.hid hr
  have HK := Lib.hid hk
  clear hr hk
  apply blk_use hv; intro hg1 hc1 hz1 _ _ _ _ _
  go_enter Tryd.func30, Tryd.ntmps30
  go_wp2_with fail
  refine (wgetS p g s sz k HK.out (by omega) _ HR.out).mono ?_
  rintro e w2 ⟨⟨v, rfl, v0, v1, v2⟩, R2, F2⟩
  have v3 : v < 65536 := Int.lt_of_lt_of_le v1 (p256_le k 2 hs)
  have V1 := Lib.hid v1
  have V2 := Lib.hid v2
  clear v1 v2
  go_wp2
  go_ret
  exact ⟨⟨v, rfl, v0, V1.out, V2.out⟩, R2, F2⟩

theorem RS.blk {w : World} {p : Nat} {g : Addr} {s : Option (List Int)} (h : RS w p g s) : ∃ A n cap e, w.heap[p]? = some (.cells #[.slice A n cap, e] 64) ∧ ∀ w' S, w'.heap[p]? = some (.cells #[.slice A n cap, vForm g] 64) → Fr S w w' → (∀ x ∈ S, p ≤ x) → RS w' p g none := by
  have key : ∀ ys e0, RdAt w p ys e0 → ∃ A n cap e, w.heap[p]? = some (.cells #[.slice A n cap, e] 64) ∧ ∀ w' S, w'.heap[p]? = some (.cells #[.slice A n cap, vForm g] 64) → Fr S w w' → (∀ x ∈ S, p ≤ x) → RS w' p g none := by
    intro ys e0 h
    obtain ⟨⟨A, cap, h1, h2, h3⟩, h4⟩ := h
    have pl := lt_of_heap h1
    exact ⟨A, _, cap, e0, h1, fun w' S hw f hS => ⟨ys, vForm g, ⟨⟨A, cap, hw, h2.fr f (by omega) hS, h3⟩, h4⟩, Or.inl rfl⟩⟩
  cases s with
  | some ys => exact key ys _ h
  | none => obtain ⟨ys, e, h1, h2⟩ := h; exact key ys e h1

/-- The operation that a record tells. -/
def readR (r : List Int) : Option OpD :=
  if r = [] then none
  else if num (r.take 1) = 1 then (if r.length = 6 then some ⟨1, num ((r.drop 1).take 2), num ((r.drop 3).take 2), num ((r.drop 5).take 1), [], false⟩ else none)
  else if num (r.take 1) = 2 then (if 5 ≤ r.length ∧ (r.length - 5) % 8 = 0 ∧ r.length ≤ 69 then some ⟨2, num ((r.drop 1).take 2), num ((r.drop 3).take 2), 0, wordsN (r.drop 5) ((r.length - 5) / 8), false⟩ else none)
  else if num (r.take 1) = 3 then (if r.length = 4 then some ⟨3, 0, num ((r.drop 1).take 2), num ((r.drop 3).take 1), [], false⟩ else none)
  else if num (r.take 1) = 4 then (if r.length = 3 then some ⟨4, num ((r.drop 1).take 2), 0, 0, [], false⟩ else none)
  else if num (r.take 1) = 5 then (if r.length = 4 ∧ num ((r.drop 3).take 1) ≤ 1 then some ⟨5, num ((r.drop 1).take 2), 0, 0, [], decide (num ((r.drop 3).take 1) = 1)⟩ else none)
  else none
def readS (xs : List Int) : Option (OpD × List Int) := (recOf xs).bind fun x => (readR x.1).map fun o => (o, x.2)

theorem rec_len {xs r rest : List Int} (h : recOf xs = some (r, rest)) : rest.length ≤ xs.length ∧ r.length ≤ xs.length := by
  cases xs with
  | nil => cases h
  | cons a t =>
    simp only [recOf] at h
    split at h
    · cases h
      simp
      omega
    · cases h


/-- A record's state behind so many bytes. -/
def atS (r : List Int) (a : Nat) : Option (List Int) := if a ≤ r.length then some (r.drop a) else none
theorem atS_get (r : List Int) (a k : Nat) : getS (atS r a) k = atS r (a + k) := by
  unfold atS
  by_cases h : a ≤ r.length
  · by_cases h2 : a + k ≤ r.length
    · simp only [h, h2, if_true, getS, List.length_drop, show k ≤ r.length - a by omega, List.drop_drop]
    · simp only [h, h2, if_true, if_false, getS, List.length_drop, show ¬ k ≤ r.length - a by omega]
  · simp [h, getS]
    omega
theorem atS_zero (r : List Int) : atS r 0 = some r := by simp [atS]
theorem atS_closed (r : List Int) (a : Nat) : closedS (atS r a) = decide (r.length = a) := by
  unfold atS
  by_cases h : a ≤ r.length
  · rw [if_pos h]
    cases hd : r.drop a with
    | nil =>
      have := congrArg List.length hd
      simp at this
      simp [closedS]; omega
    | cons x t =>
      have := congrArg List.length hd
      simp at this
      simp [closedS]; omega
  · rw [if_neg h]
    simp [closedS]; omega
theorem atS_val (r : List Int) (a : Nat) : closedS (valS (atS r a)) = decide (a ≤ r.length ∧ (r.length - a) % 8 = 0 ∧ r.length - a ≤ 64) := by
  unfold atS
  by_cases h : a ≤ r.length
  · by_cases h2 : (r.length - a) % 8 = 0 ∧ r.length - a ≤ 64
    · simp [h, valS, h2, closedS]
    · simp only [h, valS, if_true, List.length_drop, h2, if_false, closedS, true_and]
      simp
  · simp [h, valS, closedS]

/-- What the closure 'get' comes to, at a record's state. -/
structure GetA (p : Nat) (g : Addr) (r : List Int) (a k : Nat) (w : World) (e : Ending) (w' : World) : Prop where
  val : ∃ v, e = .returned (.int .i64 v) ∧ 0 ≤ v ∧ v < p256 k ∧ (a + k ≤ r.length → num ((r.drop a).take k) = v)
  rs : RS w' p g (atS r (a + k))
  fr : Fr [p] w w'
theorem wreada (rv p : Nat) (g : Addr) (r : List Int) (a : Nat) (sz : Int) (k : Nat) (hk : sz = k) (hs : k ≤ 2) (w : World) (hv : w.heap[rv]? = some (.cells #[.pointer (some ⟨p, 0, none⟩)] 55)) (hr : RS w p g (atS r a)) :
    Calls Tryd.prog 30 #[.int .i64 sz, .pointer (some ⟨rv, 0, none⟩)] w fun e w' => GetA p g r a k w e w' := by
  refine (wread1 rv p g (atS r a) sz k hk hs w hv hr).mono ?_
  rintro e w' ⟨⟨v, h1, h2, h3, h4⟩, hR, hF⟩
  rw [atS_get] at hR
  refine ⟨⟨v, h1, h2, h3, fun hl => ?_⟩, hR, hF⟩
  exact (h4 (r.drop a) (by simp [atS, show a ≤ r.length by omega]) (by simp; omega)).symm

/-- An operation's value. -/
abbrev opv (k id f c : Int) (A : Option Addr) (n cap : Nat) (wl : Bool) : Value := .agg #[.int .i64 k, .int .i64 id, .int .i64 f, .int .i64 c, .slice A n cap, .bool wl]
abbrev opc (k id f c : Int) (A : Option Addr) (n cap : Nat) (wl : Bool) : Obj := .cells #[.int .i64 k, .int .i64 id, .int .i64 f, .int .i64 c, .slice A n cap, .bool wl] 24
abbrev ValsIn (w : World) (A : Option Addr) (vs : List Int) : Prop := NAt w .u64 18446744073709551615 w.heap.size A vs

/-- Behind the parting by kinds. -/
structure SwS (w : World) (p : Nat) (g : Addr) (r : List Int) (b0 b1 b2 : Nat) (wc : World) : Prop where
  ex : ∃ (k id f c : Int) (A : Option Addr) (cap : Nat) (wl : Bool) (vs : List Int) (s : Option (List Int)), wc.heap[b2]? = some (opc k id f c A vs.length cap wl) ∧ RS wc p g s ∧ ValsIn wc A vs ∧ (∀ a, A = some a → b2 < a.block) ∧ (closedS s = true → readR r = some ⟨k, id, f, c, vs, wl⟩) ∧ (closedS s = false → readR r = none)
  h0 : wc.heap[b0]? = some (opc 0 0 0 0 none 0 0 false)
  h1 : wc.heap[b1]? = some (.cells #[.pointer (some ⟨p, 0, none⟩)] 55)
  fr : Fr [] w wc

theorem readR_at {r : List Int} {v : Int} (h : 0 + 1 ≤ r.length → num ((r.drop 0).take 1) = v) : r = [] ∧ readR r = none ∨ r ≠ [] ∧ num (r.take 1) = v := by
  by_cases hr : r = []
  · exact Or.inl ⟨hr, by simp [readR, hr]⟩
  · exact Or.inr ⟨hr, h (by cases r; exact absurd rfl hr; simp)⟩
section
variable {r : List Int} {v3 v4 v5 : Int}
theorem kd1 (D0 : 0 + 1 ≤ r.length → num ((r.drop 0).take 1) = 1) (D3 : 1 + 2 ≤ r.length → num ((r.drop 1).take 2) = v3) (D4 : 3 + 2 ≤ r.length → num ((r.drop 3).take 2) = v4) (D5 : 5 + 1 ≤ r.length → num ((r.drop 5).take 1) = v5) :
    (closedS (atS r 6) = true → readR r = some ⟨1, v3, v4, v5, [], false⟩) ∧ (closedS (atS r 6) = false → readR r = none) := by
  rw [atS_closed]
  rcases readR_at D0 with ⟨rfl, hn⟩ | ⟨hr, hk⟩
  · simp [hn]
  · constructor
    · intro h
      have h6 := of_decide_eq_true h
      simp only [readR, hr, if_false, hk, if_true, h6, D3 (by omega), D4 (by omega), D5 (by omega)]
    · intro h
      simp [readR, hr, hk, of_decide_eq_false h]
theorem kd2 (D0 : 0 + 1 ≤ r.length → num ((r.drop 0).take 1) = 2) (D3 : 1 + 2 ≤ r.length → num ((r.drop 1).take 2) = v3) (D4 : 3 + 2 ≤ r.length → num ((r.drop 3).take 2) = v4) {l : List Int} (D5 : ∀ ys, atS r 5 = some ys → ys.length % 8 = 0 ∧ ys.length ≤ 64 → l = wordsN ys (ys.length / 8)) :
    (closedS (valS (atS r 5)) = true → readR r = some ⟨2, v3, v4, 0, l, false⟩) ∧ (closedS (valS (atS r 5)) = false → readR r = none) := by
  rw [atS_val]
  rcases readR_at D0 with ⟨rfl, hn⟩ | ⟨hr, hk⟩
  · simp [hn]
  · constructor
    · intro h
      obtain ⟨h1, h2, h3⟩ := of_decide_eq_true h
      have h4 := D5 (r.drop 5) (by simp [atS, h1]) (by simp; omega)
      simp only [List.length_drop] at h4
      have h5 : 5 ≤ r.length ∧ (r.length - 5) % 8 = 0 ∧ r.length ≤ 69 := by omega
      simp only [readR, hr, if_false, hk, show ¬ (2 : Int) = 1 by decide, D3 (by omega), D4 (by omega), h4]
      rw [if_pos trivial, if_pos h5]
    · intro h
      have h1 := of_decide_eq_false h
      have h2 : ¬ (5 ≤ r.length ∧ (r.length - 5) % 8 = 0 ∧ r.length ≤ 69) := by omega
      simp only [readR, hr, if_false, hk, if_true, show ¬ (2 : Int) = 1 by decide, h2]
theorem kd3 (D0 : 0 + 1 ≤ r.length → num ((r.drop 0).take 1) = 3) (D3 : 1 + 2 ≤ r.length → num ((r.drop 1).take 2) = v3) (D4 : 3 + 1 ≤ r.length → num ((r.drop 3).take 1) = v4) :
    (closedS (atS r 4) = true → readR r = some ⟨3, 0, v3, v4, [], false⟩) ∧ (closedS (atS r 4) = false → readR r = none) := by
  rw [atS_closed]
  rcases readR_at D0 with ⟨rfl, hn⟩ | ⟨hr, hk⟩
  · simp [hn]
  · constructor
    · intro h
      have h6 := of_decide_eq_true h
      have e3 := D3 (by omega)
      have e4 := D4 (by omega)
      simp only [List.drop_one] at e3
      simp [readR, hr, hk, h6, e3, e4]
    · intro h
      simp [readR, hr, hk, of_decide_eq_false h]
theorem kd4 (D0 : 0 + 1 ≤ r.length → num ((r.drop 0).take 1) = 4) (D3 : 1 + 2 ≤ r.length → num ((r.drop 1).take 2) = v3) :
    (closedS (atS r 3) = true → readR r = some ⟨4, v3, 0, 0, [], false⟩) ∧ (closedS (atS r 3) = false → readR r = none) := by
  rw [atS_closed]
  rcases readR_at D0 with ⟨rfl, hn⟩ | ⟨hr, hk⟩
  · simp [hn]
  · constructor
    · intro h
      have h6 := of_decide_eq_true h
      have e3 := D3 (by omega)
      simp only [List.drop_one] at e3
      simp [readR, hr, hk, h6, e3]
    · intro h
      simp [readR, hr, hk, of_decide_eq_false h]
theorem kd5 (D0 : 0 + 1 ≤ r.length → num ((r.drop 0).take 1) = 5) (D3 : 1 + 2 ≤ r.length → num ((r.drop 1).take 2) = v3) (D4 : 3 + 1 ≤ r.length → num ((r.drop 3).take 1) = v4) (hv : v4 ≤ 1) :
    (closedS (atS r 4) = true → readR r = some ⟨5, v3, 0, 0, [], v4 == 1⟩) ∧ (closedS (atS r 4) = false → readR r = none) := by
  rw [atS_closed]
  rcases readR_at D0 with ⟨rfl, hn⟩ | ⟨hr, hk⟩
  · simp [hn]
  · constructor
    · intro h
      have h6 := of_decide_eq_true h
      have e3 := D3 (by omega)
      have e4 := D4 (by omega)
      simp only [List.drop_one] at e3
      simp [readR, hr, hk, h6, e3, e4, hv]
      by_cases q : v4 = 1 <;> simp [q]
    · intro h
      simp [readR, hr, hk, of_decide_eq_false h]
theorem kd5w (D0 : 0 + 1 ≤ r.length → num ((r.drop 0).take 1) = 5) (D4 : 3 + 1 ≤ r.length → num ((r.drop 3).take 1) = v4) (hv : 1 < v4) : readR r = none := by
  rcases readR_at D0 with ⟨rfl, hn⟩ | ⟨hr, hk⟩
  · exact hn
  · by_cases h4 : r.length = 4
    · have := D4 (by omega)
      simp [readR, hr, hk, h4, this]; omega
    · simp [readR, hr, hk, h4]
theorem kd0 (D0 : 0 + 1 ≤ r.length → num ((r.drop 0).take 1) = v3) (n1 : v3 ≠ 1) (n2 : v3 ≠ 2) (n3 : v3 ≠ 3) (n4 : v3 ≠ 4) (n5 : v3 ≠ 5) : readR r = none := by
  rcases readR_at D0 with ⟨rfl, hn⟩ | ⟨hr, hk⟩
  · exact hn
  · simp [readR, hr, hk, n1, n2, n3, n4, n5]
end

end Go.Proofs.YtoebfpimojkamaaDoor
