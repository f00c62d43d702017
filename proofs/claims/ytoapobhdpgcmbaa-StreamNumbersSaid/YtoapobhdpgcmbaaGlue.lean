/- How an argument that is a struct or an array reads, cell by cell: plain lemmas for the rows of this seat. -/
import Derived.Test.YtoapobhdpgcmbaaBase
import Derived.ProofKit
import Derived.OpenShut
import Derived.Below
import Derived.Carry
import Derived.ChangeOld
import Derived.SizedLaws
import Derived.ShutString
namespace Go.Proofs.Ytoapobhdpgcmbaa
open Go.ChangeShapes Go.WideShapes Go.ChangeAt Go.RowKit

def leavesF (P : Program) (L : TypeId → Option (List TypeId)) : Nat → List Field → Option (List TypeId)
  | _, [] => some []
  | o, x :: r => match L x.type with
    | some l => if x.offset = o ∧ l.length = P.cellsOf x.type then (match leavesF P L (o + l.length) r with | some m => some (l ++ m) | none => none) else none
    | none => none
/-- The types of a value's cells, from its first on: of structs and arrays those of their parts. -/
def leavesT (P : Program) : Nat → TypeId → Option (List TypeId)
  | 0, _ => none
  | f + 1, t => match P.underlying t with
    | some (.struct fs) => match leavesF P (leavesT P f) 0 fs.toList with
      | some l => if l.length = P.cellsOf t then some l else none
      | none => none
    | some (.array n e) => match leavesT P f e with
      | some l => if l.length = P.cellsOf e ∧ P.cellsOf t = n * l.length then some (List.replicate n l).flatten else none
      | none => none
    | some (.int _) => some [t]
    | some .bool => some [t]
    | some .string => some [t]
    | some (.slice _) => some [t]
    | _ => none

section
variable {H : Type} {enc : TypeId × Value → H} {P : Program} {w : World} {base : Nat} {spare : Nat → Bool} {held : Bool}

/-- A cell reads as a leaf. -/
def LeafAt (enc : TypeId × Value → H) (P : Program) (w : World) (base : Nat) (spare : Nat → Bool) (held : Bool) (t : TypeId) (c : Option Value) : Prop :=
  ∃ v fuel y, c = some v ∧ DataW.trod enc P w base spare held fuel t [v] = some y

/-- What is shown of each type. -/
def LeavesOk (enc : TypeId × Value → H) (P : Program) (w : World) (base : Nat) (spare : Nat → Bool) (held : Bool) (L : TypeId → Option (List TypeId)) : Prop :=
  ∀ t l fuel cs x, L t = some l → DataW.trod enc P w base spare held fuel t cs = some x → cs.length = l.length ∧ ∀ (i : Nat) (t' : TypeId), l[i]? = some t' → LeafAt enc P w base spare held t' cs[i]?

theorem leavesF_ok {L : TypeId → Option (List TypeId)} (hL : LeavesOk enc P w base spare held L) {cs : List Value} : ∀ (fs : List Field) (o : Nat) (ts : List TypeId), leavesF P L o fs = some ts →
    (∀ f ∈ fs, ∃ n y, DataW.trod enc P w base spare held n f.type ((cs.drop f.offset).take (P.cellsOf f.type)) = some y) → ∀ (i : Nat) (t' : TypeId), ts[i]? = some t' → LeafAt enc P w base spare held t' cs[o + i]? := by
  intro fs
  induction fs with
  | nil => intro o ts h _ i t' hi; simp [leavesF] at h; subst h; simp at hi
  | cons f r ih =>
    intro o ts h hr i t' hi
    simp only [leavesF] at h
    split at h
    case h_2 => cases h
    case h_1 l hl =>
      split at h
      case isFalse => cases h
      case isTrue hc =>
        split at h
        case h_2 => cases h
        case h_1 m hm =>
          obtain rfl := Option.some.inj h
          obtain ⟨ho, hsz⟩ := hc
          obtain ⟨n, y, hy⟩ := hr f (by simp)
          obtain ⟨h1, h2⟩ := hL _ _ _ _ _ hl hy
          by_cases hlt : i < l.length
          · rw [List.getElem?_append_left hlt] at hi
            have := h2 i t' hi
            rw [ho, List.getElem?_take, List.getElem?_drop, if_pos (by omega)] at this
            exact this
          · rw [List.getElem?_append_right (by omega)] at hi
            have := ih (o + l.length) m hm (fun g hg => hr g (by simp [hg])) (i - l.length) t' hi
            rw [show o + l.length + (i - l.length) = o + i by omega] at this
            exact this

theorem leavesT_ok : ∀ f, LeavesOk enc P w base spare held (leavesT P f) := by
  intro f
  induction f with
  | zero => intro t l fuel cs x h; simp [leavesT] at h
  | succ f ih =>
    intro t l fuel cs x h hx
    have leaf : ∀ v, cs = [v] → l = [t] → cs.length = l.length ∧ ∀ (i : Nat) (t' : TypeId), l[i]? = some t' → LeafAt enc P w base spare held t' cs[i]? := by
      intro v hv hl
      subst hv hl
      refine ⟨rfl, fun i t' hi => ?_⟩
      match i, hi with
      | 0, hi => simp at hi; subst hi; exact ⟨v, fuel, x, rfl, hx⟩
    simp only [leavesT] at h
    split at h
    · rename_i fs hu
      split at h
      case h_2 => cases h
      case h_1 l' hl' =>
        split at h
        case isFalse => cases h
        case isTrue hlen =>
          obtain rfl := Option.some.inj h
          obtain ⟨xs, n, _, _, hcl, hxs, hf⟩ := DataW.trod_struct hu hx
          refine ⟨by omega, fun i t' hi => ?_⟩
          have := leavesF_ok ih (cs := cs) fs.toList 0 l' hl' (fun g hg => ?_) i t' hi
          · simpa using this
          · obtain ⟨j, hj, hjg⟩ := List.getElem_of_mem hg
            have hjf : fs[j]? = some g := by simp at hj; simp [← hjg, hj]
            have h1 := hf j g hjf
            have hj' : j < xs.length := by simp at hj; omega
            exact ⟨n, xs[j], by rw [h1]; simp [hj']⟩
    · rename_i n e hu
      split at h
      case h_2 => cases h
      case h_1 l' hl' =>
        split at h
        case isFalse => cases h
        case isTrue hlen =>
          obtain rfl := Option.some.inj h
          obtain ⟨xs, m, _, _, hcl, hxs, hf⟩ := DataW.trod_array hu hx
          have hfl : (List.replicate n l').flatten.length = n * l'.length := by simp
          refine ⟨by rw [hfl]; omega, fun i t' hi => ?_⟩
          have hil : i < n * l'.length := by
            rcases Nat.lt_or_ge i (n * l'.length) with h | h
            · exact h
            · rw [List.getElem?_eq_none (by omega)] at hi; cases hi
          have hpos : 0 < l'.length := by
            rcases Nat.eq_zero_or_pos l'.length with h | h
            · rw [h] at hil; omega
            · exact h
          have hq : i / l'.length < n := by rw [Nat.div_lt_iff_lt_mul hpos]; exact hil
          have h1 := hf (i / l'.length) hq
          have hq' : i / l'.length < xs.length := by omega
          rw [List.getElem?_eq_getElem hq'] at h1
          obtain ⟨g1, g2⟩ := ih _ _ _ _ _ hl' h1
          have hmod : i % l'.length < l'.length := Nat.mod_lt _ hpos
          have hrep : ∀ (n i : Nat), i < n * l'.length → (List.replicate n l').flatten[i]? = l'[i % l'.length]? := by
            intro n
            induction n with
            | zero => intro i hi; omega
            | succ n ihn =>
              intro i hi
              rw [List.replicate_succ, List.flatten_cons]
              by_cases hlt : i < l'.length
              · rw [List.getElem?_append_left hlt, Nat.mod_eq_of_lt hlt]
              · have hi' : i < n * l'.length + l'.length := by rw [← Nat.succ_mul]; exact hi
                rw [List.getElem?_append_right (by omega), ihn (i - l'.length) (by omega), Nat.mod_eq_sub_mod (a := i) (by omega)]
          rw [hrep n i hil] at hi
          have := g2 _ _ hi
          rw [List.getElem?_take, List.getElem?_drop, if_pos (by rw [← hlen.1]; exact hmod)] at this
          rw [← hlen.1, Nat.mul_comm, Nat.div_add_mod] at this
          exact this
    · rename_i k hu
      obtain ⟨n, hv, _⟩ := DataW.trod_int hu hx
      exact leaf _ hv (Option.some.inj h).symm
    · rename_i hu
      obtain ⟨n, hv, _⟩ := DataW.trod_bool hu hx
      exact leaf _ hv (Option.some.inj h).symm
    · rename_i hu
      obtain ⟨n, hv, _⟩ := DataW.trod_string hu hx
      exact leaf _ hv (Option.some.inj h).symm
    · rename_i e hu
      rcases DataW.trod_slice hu hx with ⟨hv, _⟩ | ⟨a, len, cap, elems, rest, n, _, hv, _⟩
      · exact leaf _ hv (Option.some.inj h).symm
      · exact leaf _ hv (Option.some.inj h).symm
    · cases h

theorem LeafAt.int {t : TypeId} {k : IntKind} {c : Option Value} (h : LeafAt enc P w base spare held t c) (hu : P.underlying t = some (.int k)) : ∃ n, c = some (.int k n) ∧ (Lit.int k n).wf = true := by
  obtain ⟨v, fuel, y, rfl, hy⟩ := h
  obtain ⟨n, hv, _, hw⟩ := DataW.trod_int hu hy
  simp at hv; subst hv
  exact ⟨n, rfl, hw⟩
theorem LeafAt.bool {t : TypeId} {c : Option Value} (h : LeafAt enc P w base spare held t c) (hu : P.underlying t = some .bool) : ∃ b, c = some (.bool b) := by
  obtain ⟨v, fuel, y, rfl, hy⟩ := h
  obtain ⟨n, hv, _⟩ := DataW.trod_bool hu hy
  simp at hv; subst hv
  exact ⟨n, rfl⟩

/-- A value argument of a struct or array type: its cells. -/
theorem agg_cells {t : TypeId} {v : Value} {d : DataW H} {p : List MemPlace} {l : List TypeId} (f : Nat) (hl : leavesT P f t = some l) (ha : ∃ cs, v = .agg cs) (h : DataW.Trod enc P w base spare held t v d p) :
    ∃ cs : List Value, v = .agg cs.toArray ∧ cs.length = l.length ∧ ∀ (i : Nat) (t' : TypeId), l[i]? = some t' → LeafAt enc P w base spare held t' cs[i]? := by
  obtain ⟨cs, rfl⟩ := ha
  obtain ⟨fuel, hf⟩ := h
  obtain ⟨h1, h2⟩ := leavesT_ok f t l fuel _ _ hl hf
  refine ⟨cs.toList, by simp, ?_, ?_⟩
  · simpa [Value.cells] using h1
  · simpa [Value.cells] using h2
end

theorem list1 {α : Type} {l : List α} (h : l.length = 1) : ∃ a, l = [a] := by match l, h with | [a], _ => exact ⟨a, rfl⟩
theorem list2 {α : Type} {l : List α} (h : l.length = 2) : ∃ a b, l = [a, b] := by match l, h with | [a, b], _ => exact ⟨a, b, rfl⟩
theorem list3 {α : Type} {l : List α} (h : l.length = 3) : ∃ a b c, l = [a, b, c] := by match l, h with | [a, b, c], _ => exact ⟨a, b, c, rfl⟩
theorem list4 {α : Type} {l : List α} (h : l.length = 4) : ∃ a b c d, l = [a, b, c, d] := by match l, h with | [a, b, c, d], _ => exact ⟨a, b, c, d, rfl⟩
theorem list5 {α : Type} {l : List α} (h : l.length = 5) : ∃ a b c d e, l = [a, b, c, d, e] := by match l, h with | [a, b, c, d, e], _ => exact ⟨a, b, c, d, e, rfl⟩
theorem list6 {α : Type} {l : List α} (h : l.length = 6) : ∃ a b c d e f, l = [a, b, c, d, e, f] := by match l, h with | [a, b, c, d, e, f], _ => exact ⟨a, b, c, d, e, f, rfl⟩

def isAggT (P : Program) (t : TypeId) : Bool := match P.underlying t with | some (.struct _) => true | some (.array _ _) => true | _ => false
theorem okWide_agg {P : Program} {w : World} {r : Reach} {base : Nat} {t : TypeId} {v : Value} (ht : isAggT P t = true) (h : Value.okWide P w r base t v) : ∃ cs, v = .agg cs := by
  unfold isAggT at ht
  split at ht
  · rename_i fs hu
    obtain ⟨cs, h1, _⟩ := okWide_struct hu h
    exact ⟨cs, h1⟩
  · rename_i n e hu
    simp only [Value.okWide, hu] at h
    obtain ⟨cs, h1, _⟩ := h
    exact ⟨cs, h1⟩
  · cases ht

theorem i64_bounds {n : Int} (h : (Lit.int .i64 n).wf = true) : -9223372036854775808 ≤ n ∧ n ≤ 9223372036854775807 := by
  simp [Lit.wf, IntKind.min, IntKind.max, IntKind.signed, IntKind.bits] at h
  omega
theorem u8_bounds {n : Int} (h : (Lit.int .u8 n).wf = true) : 0 ≤ n ∧ n ≤ 255 := by
  simp [Lit.wf, IntKind.min, IntKind.max, IntKind.signed, IntKind.bits] at h
  omega
theorem u16_bounds {n : Int} (h : (Lit.int .u16 n).wf = true) : 0 ≤ n ∧ n ≤ 65535 := by
  simp [Lit.wf, IntKind.min, IntKind.max, IntKind.signed, IntKind.bits] at h
  omega
theorem u64_bounds {n : Int} (h : (Lit.int .u64 n).wf = true) : 0 ≤ n ∧ n ≤ 18446744073709551615 := by
  simp [Lit.wf, IntKind.min, IntKind.max, IntKind.signed, IntKind.bits] at h
  omega
end Go.Proofs.Ytoapobhdpgcmbaa
