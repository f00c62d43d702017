/- Frames of a pool as a list, and the contracts of package pool's inner functions. -/
import Derived.Test.YtmhdnafdbgbmfaaBase
import Derived.Lib.Hide
import Derived.Deep.MidRow
namespace Go.Proofs.Ytmhdnafdbgbmfaa
open Go.RowKit

/-- A frame of a pool. -/
structure Fm where
  s : Int
  b : Int
  g : Int
  p : Int
  v : Int
  deriving DecidableEq

def Fm.cells (f : Fm) : List Value := [.int .i64 f.s, .int .i64 f.b, .int .i64 f.g, .int .i64 f.p, .int .u64 f.v]
def fcells : List Fm → List Value
  | [] => []
  | f :: r => .int .i64 f.s :: .int .i64 f.b :: .int .i64 f.g :: .int .i64 f.p :: .int .u64 f.v :: fcells r
theorem fcells_len : ∀ l : List Fm, (fcells l).length = l.length * 5
  | [] => rfl
  | f :: r => by simp [fcells, fcells_len r]; omega
theorem fcells_get : ∀ (l : List Fm) (i j : Nat) (f : Fm), l[i]? = some f → j < 5 → (fcells l)[i * 5 + j]? = f.cells[j]?
  | [], i, j, f, h, _ => by simp at h
  | x :: r, 0, j, f, h, hj => by
    simp at h; subst h
    simp only [fcells, Fm.cells]
    match j, hj with
    | 0, _ => rfl
    | 1, _ => rfl
    | 2, _ => rfl
    | 3, _ => rfl
    | 4, _ => rfl
  | x :: r, i + 1, j, f, h, hj => by
    have := fcells_get r i j f (by simpa using h) hj
    rw [show (i + 1) * 5 + j = (i * 5 + j) + 1 + 1 + 1 + 1 + 1 by omega]
    simpa [fcells] using this
theorem fcells_set : ∀ (l : List Fm) (i j : Nat) (f g : Fm) (v : Value), l[i]? = some f → j < 5 → f.cells.set j v = g.cells → (fcells l).set (i * 5 + j) v = fcells (l.set i g)
  | [], i, j, f, g, v, h, _, _ => by simp at h
  | x :: r, 0, j, f, g, v, h, hj, hs => by
    simp at h; subst h
    simp only [Fm.cells] at hs
    match j, hj with
    | 0, _ => simp at hs; simp [fcells, hs]
    | 1, _ => simp at hs; simp [fcells, hs]
    | 2, _ => simp at hs; simp [fcells, hs]
    | 3, _ => simp at hs; simp [fcells, hs]
    | 4, _ => simp at hs; simp [fcells, hs]
  | x :: r, i + 1, j, f, g, v, h, hj, hs => by
    have := fcells_set r i j f g v (by simpa using h) hj hs
    rw [show (i + 1) * 5 + j = (i * 5 + j) + 1 + 1 + 1 + 1 + 1 by omega]
    simpa [fcells] using this

/-- A pool lies in two blocks: what points to its frames (of the type Tp), and these. -/
structure PoolAt (Tp : TypeId) (w : World) (bp bf : Nat) (l : List Fm) : Prop where
  hp : w.heap[bp]? = some (.cells #[.slice (some ⟨bf, 0, none⟩) l.length l.length] Tp)
  hf : w.heap[bf]? = some (.cells (fcells l).toArray 59)
  ne : bp ≠ bf

theorem PoolAt.fr {Tp : TypeId} {w w' : World} {bp bf : Nat} {l : List Fm} {S : List Nat} (h : PoolAt Tp w bp bf l) (f : Fr S w w') (h1 : bp ∉ S) (h2 : bf ∉ S) : PoolAt Tp w' bp bf l :=
  ⟨f.heap h.hp h1, f.heap h.hf h2, h.ne⟩
theorem PoolAt.lt {Tp : TypeId} {w : World} {bp bf : Nat} {l : List Fm} (h : PoolAt Tp w bp bf l) : bp < w.heap.size ∧ bf < w.heap.size := ⟨lt_of_heap h.hp, lt_of_heap h.hf⟩
theorem PoolAt.cell {Tp : TypeId} {w : World} {bp bf : Nat} {l : List Fm} (h : PoolAt Tp w bp bf l) {i : Nat} {f : Fm} (hi : l[i]? = some f) (j : Nat) (hj : j < 5) : w.cell? ⟨bf, i * 5 + j, none⟩ = f.cells[j]? := by
  rw [blk_cell h.hf]
  simpa using fcells_get l i j f hi hj
theorem PoolAt.set {Tp : TypeId} {w : World} {bp bf : Nat} {l : List Fm} (h : PoolAt Tp w bp bf l) {i : Nat} {f g : Fm} (hi : l[i]? = some f) (j : Nat) (hj : j < 5) (v : Value) (hs : f.cells.set j v = g.cells) :
    PoolAt Tp (w.setCell ⟨bf, i * 5 + j, none⟩ v) bp bf (l.set i g) := by
  refine ⟨?_, ?_, h.ne⟩
  · rw [heap_set_ne _ _ _ h.ne, h.hp]; simp
  · rw [heap_set_eq h.hf]
    simp [fcells_set l i j f g v hi hj hs]

theorem Fr.setCells {S : List Nat} {a : World} {b : Nat} (hb : b ∈ S ∨ a.heap.size ≤ b) : ∀ (vs : List Value) (o : Nat) (w : World), Fr S a w → Fr S a (w.setCells b o vs)
  | [], _, _, h => h
  | v :: r, o, w, h => Fr.setCells hb r (o + 1) _ (h.setCell hb v)
theorem PoolAt.put {Tp : TypeId} {w : World} {bp bf : Nat} {l : List Fm} (h : PoolAt Tp w bp bf l) {i : Nat} {f : Fm} (hi : l[i]? = some f) (g : Fm) : PoolAt Tp (w.setCells bf (i * 5) g.cells) bp bf (l.set i g) := by
  have hl : i < l.length := (List.getElem?_eq_some_iff.1 hi).1
  have q1 := h.set (g := ⟨g.s, f.b, f.g, f.p, f.v⟩) hi 0 (by omega) (.int .i64 g.s) (by simp [Fm.cells])
  have q2 := q1.set (i := i) (f := ⟨g.s, f.b, f.g, f.p, f.v⟩) (g := ⟨g.s, g.b, f.g, f.p, f.v⟩) (by simp [hl]) 1 (by omega) (.int .i64 g.b) (by simp [Fm.cells])
  have q3 := q2.set (i := i) (f := ⟨g.s, g.b, f.g, f.p, f.v⟩) (g := ⟨g.s, g.b, g.g, f.p, f.v⟩) (by simp [hl]) 2 (by omega) (.int .i64 g.g) (by simp [Fm.cells])
  have q4 := q3.set (i := i) (f := ⟨g.s, g.b, g.g, f.p, f.v⟩) (g := ⟨g.s, g.b, g.g, g.p, f.v⟩) (by simp [hl]) 3 (by omega) (.int .i64 g.p) (by simp [Fm.cells])
  have q5 := q4.set (i := i) (f := ⟨g.s, g.b, g.g, g.p, f.v⟩) (g := g) (by simp [hl]) 4 (by omega) (.int .u64 g.v) (by simp [Fm.cells])
  simpa [List.set_set, World.setCells, Fm.cells] using q5
theorem PoolAt.set2 {Tp : TypeId} {w : World} {bp bf : Nat} {l : List Fm} (h : PoolAt Tp w bp bf l) {i : Nat} {f g k : Fm} (hi : l[i]? = some f) (j : Nat) (hj : j < 5) (v : Value) (hs : f.cells.set j v = g.cells)
    (j' : Nat) (hj' : j' < 5) (v' : Value) (hs' : g.cells.set j' v' = k.cells) : PoolAt Tp ((w.setCell ⟨bf, i * 5 + j, none⟩ v).setCell ⟨bf, i * 5 + j', none⟩ v') bp bf (l.set i k) := by
  have hl : i < l.length := (List.getElem?_eq_some_iff.1 hi).1
  have := (h.set hi j hj v hs).set (i := i) (f := g) (g := k) (by simp [hl]) j' hj' v' hs'
  simpa [List.set_set] using this
theorem PoolAt.there {Tp : TypeId} {w : World} {bp bf : Nat} {l : List Fm} (h : PoolAt Tp w bp bf l) {i : Nat} {f : Fm} (hi : l[i]? = some f) : w.there bf (i * 5) 5 := by
  intro j hj
  refine ⟨?_, blk_frozen h.hf _⟩
  rw [h.cell hi j hj]
  simp [Fm.cells]; omega
theorem PoolAt.range {Tp : TypeId} {w : World} {bp bf : Nat} {l : List Fm} (h : PoolAt Tp w bp bf l) {i : Nat} {f : Fm} (hi : l[i]? = some f) : w.rangeAt bf (i * 5) f.cells := by
  intro j v hv
  have hj : j < 5 := by have := (List.getElem?_eq_some_iff.1 hv).1; simpa [Fm.cells] using this
  rw [h.cell hi j hj, hv]

set_option maxHeartbeats 400000 in
theorem pmust_true (c : Int) (w : World) :
    Calls Try.prog 53 #[.bool true, .int .i64 c] w fun e w' => e = .returned (.tuple #[]) ∧ w = w' := by
  go_enter Try.func53, Try.ntmps53
  go_wp2
  go_end0
  exact ⟨rfl, rfl⟩

set_option maxHeartbeats 400000 in
theorem pmust_false (c : Int) (w : World) :
    Calls Try.prog 53 #[.bool false, .int .i64 c] w fun e w' => e = .panicked [{ v := .iface 91 (.agg #[.int .i64 c]), recovered := false }] ∧ w = w' := by
  go_enter Try.func53, Try.ntmps53
  go_wp2
  exact ⟨rfl, rfl, rfl⟩

abbrev pT : TypeId := 81
abbrev pRef (c : Int) : Ending := .panicked [{ v := .iface 91 (.agg #[.int .i64 c]), recovered := false }]

set_option maxHeartbeats 1000000 in
theorem pat_ok (bp bf : Nat) (l : List Fm) (i : Nat) (f : Fm) (hi : l[i]? = some f) (w : World) (hP : PoolAt pT w bp bf l) :
    Calls Try.prog 52 #[.pointer (some ⟨bp, 0, none⟩), .int .i64 i] w fun e w' => e = .returned (.pointer (some ⟨bf, i * 5, none⟩)) ∧ w = w' := by
  have hil : i < l.length := (List.getElem?_eq_some_iff.1 hi).1
  apply blk_use hP.hp; intro hg1 hc1 hz1 _ _ _ _ _
  go_enter Try.func52, Try.ntmps52
  go_wp2_with (go_at_call 53; (with_reducible refine (pmust_true _ _).mono ?_); rintro e w1 ⟨rfl, rfl⟩)
  go_ret
  exact ⟨rfl, rfl⟩

set_option maxHeartbeats 1000000 in
theorem pat_no (bp bf : Nat) (l : List Fm) (i : Int) (hi : i < 0 ∨ (l.length : Int) ≤ i) (w : World) (hP : PoolAt pT w bp bf l) :
    Calls Try.prog 52 #[.pointer (some ⟨bp, 0, none⟩), .int .i64 i] w fun e w' => e = pRef 1 ∧ w = w' := by
  apply blk_use hP.hp; intro hg1 hc1 hz1 _ _ _ _ _
  rcases hi with hi | hi
  all_goals
    try have hi' : decide (i < (l.length : Int)) = false := by simpa using hi
    go_enter Try.func52, Try.ntmps52
    go_wp2_with (go_at_call 53; (with_reducible refine (pmust_false _ _).mono ?_); rintro e w1 ⟨rfl, rfl⟩)
    exact ⟨rfl, rfl, rfl⟩

set_option maxHeartbeats 1000000 in
theorem pheld_ok (bp bf : Nat) (l : List Fm) (i : Nat) (g : Int) (f : Fm) (hi : l[i]? = some f) (h1 : f.s ≠ 0) (h2 : f.g = g) (w : World) (hP : PoolAt pT w bp bf l) :
    Calls Try.prog 56 #[.pointer (some ⟨bp, 0, none⟩), .int .i64 i, .int .i64 g] w fun e w' => e = .returned (.pointer (some ⟨bf, i * 5, none⟩)) ∧ w = w' := by
  have h1' : (f.s != 0) = true := by simpa using h1
  have HP := Lib.hid hP
  have c0 := hP.cell hi 0 (by omega)
  have c2 := hP.cell hi 2 (by omega)
  simp [Fm.cells] at c0 c2
  clear hP
  go_enter Try.func56, Try.ntmps56
  go_wp2_with (first
    | (go_at_call 52; (with_reducible refine (pat_ok bp bf l i f hi _ HP.out).mono ?_); rintro e w1 ⟨rfl, rfl⟩)
    | (go_at_call 53; (with_reducible refine (pmust_true _ _).mono ?_); rintro e w1 ⟨rfl, rfl⟩))
  go_ret
  exact ⟨rfl, rfl⟩

set_option maxHeartbeats 1000000 in
theorem pheld_arg (bp bf : Nat) (l : List Fm) (i g : Int) (hi : i < 0 ∨ (l.length : Int) ≤ i) (w : World) (hP : PoolAt pT w bp bf l) :
    Calls Try.prog 56 #[.pointer (some ⟨bp, 0, none⟩), .int .i64 i, .int .i64 g] w fun e w' => e = pRef 1 ∧ w = w' := by
  have HP := Lib.hid hP
  clear hP
  go_enter Try.func56, Try.ntmps56
  go_wp2_with (go_at_call 52; (with_reducible refine (pat_no bp bf l i hi _ HP.out).mono ?_); rintro e w1 ⟨rfl, rfl⟩)
  exact ⟨rfl, rfl, rfl⟩

set_option maxHeartbeats 1000000 in
theorem pheld_no (bp bf : Nat) (l : List Fm) (i : Nat) (g : Int) (f : Fm) (hi : l[i]? = some f) (hn : f.s = 0 ∨ f.g ≠ g) (w : World) (hP : PoolAt pT w bp bf l) :
    Calls Try.prog 56 #[.pointer (some ⟨bp, 0, none⟩), .int .i64 i, .int .i64 g] w fun e w' => e = pRef 3 ∧ w = w' := by
  have HP := Lib.hid hP
  have c0 := hP.cell hi 0 (by omega)
  have c2 := hP.cell hi 2 (by omega)
  simp [Fm.cells] at c0 c2
  clear hP
  by_cases h0 : f.s = 0
  · rw [h0] at c0
    clear hn
    go_enter Try.func56, Try.ntmps56
    go_wp2_with (first
      | (go_at_call 52; (with_reducible refine (pat_ok bp bf l i f hi _ HP.out).mono ?_); rintro e w1 ⟨rfl, rfl⟩)
      | (go_at_call 53; (with_reducible refine (pmust_false _ _).mono ?_); rintro e w1 ⟨rfl, rfl⟩))
    exact ⟨rfl, rfl, rfl⟩
  · have h1' : (f.s != 0) = true := by simpa using h0
    have h2' : (f.g == g) = false := by simpa [h0] using hn
    clear hn
    go_enter Try.func56, Try.ntmps56
    go_wp2_with (first
      | (go_at_call 52; (with_reducible refine (pat_ok bp bf l i f hi _ HP.out).mono ?_); rintro e w1 ⟨rfl, rfl⟩)
      | (go_at_call 53; (with_reducible refine (pmust_false _ _).mono ?_); rintro e w1 ⟨rfl, rfl⟩))
    exact ⟨rfl, rfl, rfl⟩

/-- A frame that is free. -/
def Fm.freed (f : Fm) : Fm := ⟨0, 0, f.g, 0, 0⟩

set_option maxHeartbeats 1000000 in
theorem pfree_ok (bp bf : Nat) (l : List Fm) (i : Nat) (f : Fm) (hi : l[i]? = some f) (w : World) (hP : PoolAt pT w bp bf l) :
    Calls Try.prog 54 #[.pointer (some ⟨bf, i * 5, none⟩)] w fun e w' => e = .returned (.tuple #[]) ∧ PoolAt pT w' bp bf (l.set i f.freed) ∧ Fr [bf] w w' := by
  have c0 := (hP).cell hi 0 (by omega); have c1 := (hP).cell hi 1 (by omega); have c2 := (hP).cell hi 2 (by omega); have c3 := (hP).cell hi 3 (by omega); have c4 := (hP).cell hi 4 (by omega); simp [Fm.cells] at c0 c1 c2 c3 c4
  have HP := Lib.hid (hP.put hi f.freed)
  simp only [World.setCells, Fm.cells, Fm.freed] at HP
  have hz0 := blk_frozen hP.hf
  clear hP
  go_enter Try.func54, Try.ntmps54
  go_wp2
  go_end0
  exact ⟨rfl, HP.out, (by repeat' (first | (with_reducible exact Fr.refl _ _) | (with_reducible assumption) | (with_reducible refine Fr.drew ?_) | (with_reducible refine Fr.drewN ?_ _) | (with_reducible refine Fr.alloc ?_ _) | ((with_reducible refine Fr.setNew ?_ _ ?_ _); rotate_left; (focus (first | (with_reducible assumption) | exact Nat.le_of_lt (by with_reducible assumption) | (focus (simp +arith; done)) | exact Nat.le_trans (by with_reducible assumption) (by simp +arith; done) | (simp; done)))) | ((with_reducible refine Fr.setOld ?_ _ ?_ _); rotate_left; (focus (simp; done)))))⟩

/-- How a closure ends: well, or refused with a code. -/
def ende (c : Int) : Ending := if c = 0 then .returned (.tuple #[]) else pRef c
theorem ende_0 : ende 0 = .returned (.tuple #[]) := rfl
theorem ende_ne {c : Int} (h : c ≠ 0) : ende c = pRef c := if_neg h
/-- What is done to a frame that there is. -/
def stepAt (l : List Fm) (i : Int) (k : Fm → Int × Fm) : Int × List Fm :=
  if 0 ≤ i then (match l[i.toNat]? with | some f => ((k f).1, l.set i.toNat (k f).2) | none => (1, l)) else (1, l)
theorem stepAt_out {l : List Fm} {i : Int} (k : Fm → Int × Fm) (h : i < 0 ∨ (l.length : Int) ≤ i) : stepAt l i k = (1, l) := by
  unfold stepAt
  split
  · rw [List.getElem?_eq_none (by omega)]
  · rfl
theorem stepAt_in {l : List Fm} {i : Nat} {f : Fm} (k : Fm → Int × Fm) (h : l[i]? = some f) : stepAt l i k = ((k f).1, l.set i (k f).2) := by
  unfold stepAt
  simp [h]
theorem set_same {l : List Fm} {i : Nat} {f : Fm} (h : l[i]? = some f) : l.set i f = l := by
  apply List.ext_getElem?
  intro j
  by_cases hj : i = j
  · subst hj
    obtain ⟨h1, h2⟩ := List.getElem?_eq_some_iff.1 h
    simp [h1, h2]
  · simp [hj]
theorem stepAt_no {l : List Fm} {i : Nat} {f : Fm} {k : Fm → Int × Fm} {c : Int} (h : l[i]? = some f) (hk : k f = (c, f)) : stepAt l i k = (c, l) := by
  rw [stepAt_in k h, hk, set_same h]
def fillK (v : Int) (f : Fm) : Int × Fm := if f.s = 1 ∨ f.s = 2 then (0, { f with s := 2, v := v }) else (5, f)
def pinK (g : Int) (f : Fm) : Int × Fm := if f.s = 0 ∨ f.g ≠ g then (3, f) else if f.s = 3 then (5, f) else (0, { f with p := f.p + 1 })
def unpinK (g : Int) (f : Fm) : Int × Fm := if f.s = 0 ∨ f.g ≠ g then (3, f) else if f.p ≤ 0 then (5, f) else if f.p = 1 ∧ f.s = 3 then (0, f.freed) else (0, { f with p := f.p - 1 })
def doomK (f : Fm) : Int × Fm := if f.s = 1 ∨ f.s = 2 then (if f.p = 0 then (0, f.freed) else (0, { f with s := 3 })) else (5, f)

/-- An index is out of a list, or one of it. -/
theorem idx_cases (l : List Fm) (i : Int) : (i < 0 ∨ (l.length : Int) ≤ i) ∨ ∃ (k : Nat) (f : Fm), i = k ∧ l[k]? = some f := by
  by_cases h : i < 0 ∨ (l.length : Int) ≤ i
  · exact .inl h
  · right
    have h1 : i.toNat < l.length := by omega
    exact ⟨i.toNat, l[i.toNat], by omega, by simp [h1]⟩

set_option maxHeartbeats 4000000 in
theorem pfill1 (bp bf b1 b2 b3 : Nat) (l : List Fm) (i v : Int) (w : World) (hP : PoolAt pT w bp bf l)
    (g1 : w.heap[b1]? = some (.cells #[.pointer (some ⟨bp, 0, none⟩)] 46)) (g2 : w.heap[b2]? = some (.cells #[.int .i64 i] 3)) (g3 : w.heap[b3]? = some (.cells #[.int .u64 v] 52))
    (n1 : b1 ≠ bf) (n2 : b2 ≠ bf) (n3 : b3 ≠ bf) :
    Calls Try.prog 57 #[.pointer (some ⟨b1, 0, none⟩), .pointer (some ⟨b2, 0, none⟩), .pointer (some ⟨b3, 0, none⟩)] w fun e w' =>
      e = ende (stepAt l i (fillK v)).1 ∧ PoolAt pT w' bp bf (stepAt l i (fillK v)).2 ∧ Fr [bf] w w' := by
  have hz0 := blk_frozen hP.hf
  apply blk_use g1; intro hg1 hc1 hz1 _ _ _ _ _; apply blk_use g2; intro hg2 hc2 hz2 _ _ _ _ _; apply blk_use g3; intro hg3 hc3 hz3 _ _ _ _ _
  have HP := Lib.hid hP
  rcases idx_cases l i with hi | ⟨i, f, rfl, hi⟩
  · rw [stepAt_out _ hi]
    clear hP
    go_enter Try.func57, Try.ntmps57
    go_wp2_with (go_at_call 52; (with_reducible refine (pat_no bp bf l i hi _ HP.out).mono ?_); rintro e w1 ⟨rfl, rfl⟩)
    exact ⟨rfl, rfl, HP.out, Fr.refl _ _⟩
  · have c0 := (hP).cell hi 0 (by omega); have c1 := (hP).cell hi 1 (by omega); have c2 := (hP).cell hi 2 (by omega); have c3 := (hP).cell hi 3 (by omega); have c4 := (hP).cell hi 4 (by omega); simp [Fm.cells] at c0 c1 c2 c3 c4
    clear hP
    by_cases ho : f.s = 1 ∨ f.s = 2
    · have hE : stepAt l i (fillK v) = (0, l.set i { f with s := 2, v := v }) := by rw [stepAt_in _ hi, fillK, if_pos ho]
      rw [hE, ende_0]
      clear hE
      rcases ho with h1 | h1
      all_goals
        go_enter Try.func57, Try.ntmps57
        go_wp2_with (first
          | (go_at_call 52; (with_reducible refine (pat_ok bp bf l i f hi _ HP.out).mono ?_); rintro e w1 ⟨rfl, rfl⟩)
          | (go_at_call 53; (with_reducible refine (pmust_true _ _).mono ?_); rintro e w1 ⟨rfl, rfl⟩))
        go_end0
        exact ⟨rfl, HP.out.set2 hi (g := { f with s := 2 }) 0 (by omega) _ (by simp [Fm.cells]) 4 (by omega) _ (by simp [Fm.cells]), (by repeat' (first | (with_reducible exact Fr.refl _ _) | (with_reducible assumption) | (with_reducible refine Fr.drew ?_) | (with_reducible refine Fr.drewN ?_ _) | (with_reducible refine Fr.alloc ?_ _) | ((with_reducible refine Fr.setNew ?_ _ ?_ _); rotate_left; (focus (first | (with_reducible assumption) | exact Nat.le_of_lt (by with_reducible assumption) | (focus (simp +arith; done)) | exact Nat.le_trans (by with_reducible assumption) (by simp +arith; done) | (simp; done)))) | ((with_reducible refine Fr.setOld ?_ _ ?_ _); rotate_left; (focus (simp; done)))))⟩
    · rw [stepAt_no (c := 5) hi (by rw [fillK, if_neg ho])]
      have h1 : (f.s == 1) = false := by simp; omega
      have h2 : (f.s == 2) = false := by simp; omega
      clear ho
      go_enter Try.func57, Try.ntmps57
      go_wp2_with (first
        | (go_at_call 52; (with_reducible refine (pat_ok bp bf l i f hi _ HP.out).mono ?_); rintro e w1 ⟨rfl, rfl⟩)
        | (go_at_call 53; (with_reducible refine (pmust_false _ _).mono ?_); rintro e w1 ⟨rfl, rfl⟩))
      exact ⟨rfl, rfl, HP.out, Fr.refl _ _⟩

set_option maxHeartbeats 4000000 in
theorem ppin1 (bp bf b1 b2 b3 : Nat) (l : List Fm) (i g : Int) (w : World) (hP : PoolAt pT w bp bf l) (hB : ∀ f ∈ l, 0 ≤ f.p ∧ f.p < 1000000)
    (g1 : w.heap[b1]? = some (.cells #[.pointer (some ⟨bp, 0, none⟩)] 46)) (g2 : w.heap[b2]? = some (.cells #[.int .i64 i] 3)) (g3 : w.heap[b3]? = some (.cells #[.int .i64 g] 3)) :
    Calls Try.prog 55 #[.pointer (some ⟨b1, 0, none⟩), .pointer (some ⟨b2, 0, none⟩), .pointer (some ⟨b3, 0, none⟩)] w fun e w' =>
      e = ende (stepAt l i (pinK g)).1 ∧ PoolAt pT w' bp bf (stepAt l i (pinK g)).2 ∧ Fr [bf] w w' := by
  have hz0 := blk_frozen hP.hf
  apply blk_use g1; intro hg1 hc1 hz1 _ _ _ _ _; apply blk_use g2; intro hg2 hc2 hz2 _ _ _ _ _; apply blk_use g3; intro hg3 hc3 hz3 _ _ _ _ _
  have HP := Lib.hid hP
  rcases idx_cases l i with hi | ⟨i, f, rfl, hi⟩
  · rw [stepAt_out _ hi]
    clear hP hB
    go_enter Try.func55, Try.ntmps55
    go_wp2_with (go_at_call 56; (with_reducible refine (pheld_arg bp bf l i g hi _ HP.out).mono ?_); rintro e w1 ⟨rfl, rfl⟩)
    exact ⟨rfl, rfl, HP.out, Fr.refl _ _⟩
  · have c0 := (hP).cell hi 0 (by omega); have c1 := (hP).cell hi 1 (by omega); have c2 := (hP).cell hi 2 (by omega); have c3 := (hP).cell hi 3 (by omega); have c4 := (hP).cell hi 4 (by omega); simp [Fm.cells] at c0 c1 c2 c3 c4
    obtain ⟨B0, B1⟩ := hB f (List.mem_of_getElem? hi)
    clear hP hB
    by_cases hh : f.s = 0 ∨ f.g ≠ g
    · rw [stepAt_no (c := 3) hi (by rw [pinK, if_pos hh])]
      have HH := Lib.hid hh
      clear hh
      go_enter Try.func55, Try.ntmps55
      go_wp2_with (go_at_call 56; (with_reducible refine (pheld_no bp bf l i g f hi HH.out _ HP.out).mono ?_); rintro e w1 ⟨rfl, rfl⟩)
      exact ⟨rfl, rfl, HP.out, Fr.refl _ _⟩
    · have HS : Hid (f.s ≠ 0) := fun h => hh (.inl h)
      have HG : Hid (f.g = g) := Classical.byContradiction fun h => hh (.inr h)
      by_cases h3 : f.s = 3
      · rw [stepAt_no (c := 5) hi (by rw [pinK, if_neg hh, if_pos h3])]
        clear hh
        go_enter Try.func55, Try.ntmps55
        go_wp2_with (first
          | (go_at_call 56; (with_reducible refine (pheld_ok bp bf l i g f hi HS.out HG.out _ HP.out).mono ?_); rintro e w1 ⟨rfl, rfl⟩)
          | (go_at_call 53; (with_reducible refine (pmust_false _ _).mono ?_); rintro e w1 ⟨rfl, rfl⟩))
        exact ⟨rfl, rfl, HP.out, Fr.refl _ _⟩
      · have hE : stepAt l i (pinK g) = (0, l.set i { f with p := f.p + 1 }) := by rw [stepAt_in _ hi, pinK, if_neg hh, if_neg h3]
        rw [hE, ende_0]
        have h3' : (f.s != 3) = true := by simpa using h3
        clear hE hh h3
        go_enter Try.func55, Try.ntmps55
        go_wp2_with (first
          | (go_at_call 56; (with_reducible refine (pheld_ok bp bf l i g f hi HS.out HG.out _ HP.out).mono ?_); rintro e w1 ⟨rfl, rfl⟩)
          | (go_at_call 53; (with_reducible refine (pmust_true _ _).mono ?_); rintro e w1 ⟨rfl, rfl⟩))
        go_end0
        exact ⟨rfl, HP.out.set hi 3 (by omega) _ (by simp [Fm.cells]), (by repeat' (first | (with_reducible exact Fr.refl _ _) | (with_reducible assumption) | (with_reducible refine Fr.drew ?_) | (with_reducible refine Fr.drewN ?_ _) | (with_reducible refine Fr.alloc ?_ _) | ((with_reducible refine Fr.setNew ?_ _ ?_ _); rotate_left; (focus (first | (with_reducible assumption) | exact Nat.le_of_lt (by with_reducible assumption) | (focus (simp +arith; done)) | exact Nat.le_trans (by with_reducible assumption) (by simp +arith; done) | (simp; done)))) | ((with_reducible refine Fr.setOld ?_ _ ?_ _); rotate_left; (focus (simp; done)))))⟩

theorem PoolAt.set' {Tp : TypeId} {w : World} {bp bf : Nat} {l : List Fm} (h : PoolAt Tp w bp bf l) {i : Nat} {f : Fm} (hi : l[i]? = some f) (j : Nat) (hj : j < 5) (v : Value) (g : Fm) (hs : f.cells.set j v = g.cells) :
    PoolAt Tp (w.setCell ⟨bf, i * 5 + j, none⟩ v) bp bf (l.set i g) ∧ (l.set i g)[i]? = some g := ⟨h.set hi j hj v hs, by simp [(List.getElem?_eq_some_iff.1 hi).1]⟩

set_option maxHeartbeats 4000000 in
theorem punpin1 (bp bf b1 b2 b3 : Nat) (l : List Fm) (i g : Int) (w : World) (hP : PoolAt pT w bp bf l) (hB : ∀ f ∈ l, 0 ≤ f.p ∧ f.p < 1000000)
    (g1 : w.heap[b1]? = some (.cells #[.pointer (some ⟨bp, 0, none⟩)] 46)) (g2 : w.heap[b2]? = some (.cells #[.int .i64 i] 3)) (g3 : w.heap[b3]? = some (.cells #[.int .i64 g] 3)) :
    Calls Try.prog 58 #[.pointer (some ⟨b1, 0, none⟩), .pointer (some ⟨b2, 0, none⟩), .pointer (some ⟨b3, 0, none⟩)] w fun e w' =>
      e = ende (stepAt l i (unpinK g)).1 ∧ PoolAt pT w' bp bf (stepAt l i (unpinK g)).2 ∧ Fr [bf] w w' := by
  have hz0 := blk_frozen hP.hf
  apply blk_use g1; intro hg1 hc1 hz1 _ _ _ _ _; apply blk_use g2; intro hg2 hc2 hz2 _ _ _ _ _; apply blk_use g3; intro hg3 hc3 hz3 _ _ _ _ _
  have HP := Lib.hid hP
  rcases idx_cases l i with hi | ⟨i, f, rfl, hi⟩
  · rw [stepAt_out _ hi]
    clear hP hB
    go_enter Try.func58, Try.ntmps58
    go_wp2_with (go_at_call 56; (with_reducible refine (pheld_arg bp bf l i g hi _ HP.out).mono ?_); rintro e w1 ⟨rfl, rfl⟩)
    exact ⟨rfl, rfl, HP.out, Fr.refl _ _⟩
  · have c0 := (hP).cell hi 0 (by omega); have c1 := (hP).cell hi 1 (by omega); have c2 := (hP).cell hi 2 (by omega); have c3 := (hP).cell hi 3 (by omega); have c4 := (hP).cell hi 4 (by omega); simp [Fm.cells] at c0 c1 c2 c3 c4
    obtain ⟨B0, B1⟩ := hB f (List.mem_of_getElem? hi)
    clear hP hB
    by_cases hh : f.s = 0 ∨ f.g ≠ g
    · rw [stepAt_no (c := 3) hi (by rw [unpinK, if_pos hh])]
      have HH := Lib.hid hh
      clear hh
      go_enter Try.func58, Try.ntmps58
      go_wp2_with (go_at_call 56; (with_reducible refine (pheld_no bp bf l i g f hi HH.out _ HP.out).mono ?_); rintro e w1 ⟨rfl, rfl⟩)
      exact ⟨rfl, rfl, HP.out, Fr.refl _ _⟩
    · have HS : Hid (f.s ≠ 0) := fun h => hh (.inl h)
      have HG : Hid (f.g = g) := Classical.byContradiction fun h => hh (.inr h)
      by_cases h3 : f.p ≤ 0
      · rw [stepAt_no (c := 5) hi (by rw [unpinK, if_neg hh, if_pos h3])]
        have h3' : f.p = 0 := by omega
        clear hh h3
        go_enter Try.func58, Try.ntmps58
        go_wp2_with (first
          | (go_at_call 56; (with_reducible refine (pheld_ok bp bf l i g f hi HS.out HG.out _ HP.out).mono ?_); rintro e w1 ⟨rfl, rfl⟩)
          | (go_at_call 53; (with_reducible refine (pmust_false _ _).mono ?_); rintro e w1 ⟨rfl, rfl⟩))
        exact ⟨rfl, rfl, HP.out, Fr.refl _ _⟩
      · have h3' : 0 < f.p := by omega
        obtain ⟨P1, hi1⟩ := HP.out.set' hi 3 (by omega) (.int .i64 (f.p - 1)) { f with p := f.p - 1 } (by simp [Fm.cells])
        have HP1 := Lib.hid P1
        have HI1 := Lib.hid hi1
        clear P1 hi1
        by_cases h4 : f.p = 1 ∧ f.s = 3
        · have hE : stepAt l i (unpinK g) = (0, l.set i f.freed) := by rw [stepAt_in _ hi, unpinK, if_neg hh, if_neg h3, if_pos h4]
          rw [hE, ende_0]
          obtain ⟨h5, h6⟩ := h4
          clear hE hh h3
          go_enter Try.func58, Try.ntmps58
          go_wp2_with (first
          | (go_at_call 56; (with_reducible refine (pheld_ok bp bf l i g f hi HS.out HG.out _ HP.out).mono ?_); rintro e w1 ⟨rfl, rfl⟩)
          | (go_at_call 53; (with_reducible refine (pmust_true _ _).mono ?_); rintro e w1 ⟨rfl, rfl⟩)
          | (go_at_call 54; (refine (pfree_ok bp bf _ i _ HI1.out _ (by simpa [h5] using HP1.out)).mono ?_); rintro e w1 ⟨rfl, k1, k2⟩))
          go_end0
          exact ⟨rfl, by simpa [List.set_set, Fm.freed] using k1, Fr.trans (by repeat' (first | (with_reducible exact Fr.refl _ _) | (with_reducible assumption) | (with_reducible refine Fr.drew ?_) | (with_reducible refine Fr.drewN ?_ _) | (with_reducible refine Fr.alloc ?_ _) | ((with_reducible refine Fr.setNew ?_ _ ?_ _); rotate_left; (focus (first | (with_reducible assumption) | exact Nat.le_of_lt (by with_reducible assumption) | (focus (simp +arith; done)) | exact Nat.le_trans (by with_reducible assumption) (by simp +arith; done) | (simp; done)))) | ((with_reducible refine Fr.setOld ?_ _ ?_ _); rotate_left; (focus (simp; done))))) k2⟩
        · have hE : stepAt l i (unpinK g) = (0, l.set i { f with p := f.p - 1 }) := by rw [stepAt_in _ hi, unpinK, if_neg hh, if_neg h3, if_neg h4]
          rw [hE, ende_0]
          clear hE hh h3
          by_cases h5 : f.p = 1
          · have h6 : (f.s == 3) = false := by simpa [h5] using h4
            clear h4
            go_enter Try.func58, Try.ntmps58
            go_wp2_with (first
          | (go_at_call 56; (with_reducible refine (pheld_ok bp bf l i g f hi HS.out HG.out _ HP.out).mono ?_); rintro e w1 ⟨rfl, rfl⟩)
          | (go_at_call 53; (with_reducible refine (pmust_true _ _).mono ?_); rintro e w1 ⟨rfl, rfl⟩))
            go_end0
            exact ⟨rfl, by simpa [h5] using HP1.out, (by repeat' (first | (with_reducible exact Fr.refl _ _) | (with_reducible assumption) | (with_reducible refine Fr.drew ?_) | (with_reducible refine Fr.drewN ?_ _) | (with_reducible refine Fr.alloc ?_ _) | ((with_reducible refine Fr.setNew ?_ _ ?_ _); rotate_left; (focus (first | (with_reducible assumption) | exact Nat.le_of_lt (by with_reducible assumption) | (focus (simp +arith; done)) | exact Nat.le_trans (by with_reducible assumption) (by simp +arith; done) | (simp; done)))) | ((with_reducible refine Fr.setOld ?_ _ ?_ _); rotate_left; (focus (simp; done)))))⟩
          · clear h4
            go_enter Try.func58, Try.ntmps58
            go_wp2_with (first
          | (go_at_call 56; (with_reducible refine (pheld_ok bp bf l i g f hi HS.out HG.out _ HP.out).mono ?_); rintro e w1 ⟨rfl, rfl⟩)
          | (go_at_call 53; (with_reducible refine (pmust_true _ _).mono ?_); rintro e w1 ⟨rfl, rfl⟩))
            go_end0
            exact ⟨rfl, HP1.out, (by repeat' (first | (with_reducible exact Fr.refl _ _) | (with_reducible assumption) | (with_reducible refine Fr.drew ?_) | (with_reducible refine Fr.drewN ?_ _) | (with_reducible refine Fr.alloc ?_ _) | ((with_reducible refine Fr.setNew ?_ _ ?_ _); rotate_left; (focus (first | (with_reducible assumption) | exact Nat.le_of_lt (by with_reducible assumption) | (focus (simp +arith; done)) | exact Nat.le_trans (by with_reducible assumption) (by simp +arith; done) | (simp; done)))) | ((with_reducible refine Fr.setOld ?_ _ ?_ _); rotate_left; (focus (simp; done)))))⟩

set_option maxHeartbeats 4000000 in
theorem pdoom1 (bp bf b1 b2 : Nat) (l : List Fm) (i : Int) (w : World) (hP : PoolAt pT w bp bf l)
    (g1 : w.heap[b1]? = some (.cells #[.pointer (some ⟨bp, 0, none⟩)] 46)) (g2 : w.heap[b2]? = some (.cells #[.int .i64 i] 3)) :
    Calls Try.prog 51 #[.pointer (some ⟨b1, 0, none⟩), .pointer (some ⟨b2, 0, none⟩)] w fun e w' =>
      e = ende (stepAt l i doomK).1 ∧ PoolAt pT w' bp bf (stepAt l i doomK).2 ∧ Fr [bf] w w' := by
  have hz0 := blk_frozen hP.hf
  apply blk_use g1; intro hg1 hc1 hz1 _ _ _ _ _; apply blk_use g2; intro hg2 hc2 hz2 _ _ _ _ _
  have HP := Lib.hid hP
  rcases idx_cases l i with hi | ⟨i, f, rfl, hi⟩
  · rw [stepAt_out _ hi]
    clear hP
    go_enter Try.func51, Try.ntmps51
    go_wp2_with (go_at_call 52; (with_reducible refine (pat_no bp bf l i hi _ HP.out).mono ?_); rintro e w1 ⟨rfl, rfl⟩)
    exact ⟨rfl, rfl, HP.out, Fr.refl _ _⟩
  · have c0 := (hP).cell hi 0 (by omega); have c1 := (hP).cell hi 1 (by omega); have c2 := (hP).cell hi 2 (by omega); have c3 := (hP).cell hi 3 (by omega); have c4 := (hP).cell hi 4 (by omega); simp [Fm.cells] at c0 c1 c2 c3 c4
    clear hP
    by_cases ho : f.s = 1 ∨ f.s = 2
    · obtain ⟨P1, hi1⟩ := HP.out.set' hi 0 (by omega) (.int .i64 3) { f with s := 3 } (by simp [Fm.cells])
      have HP1 := Lib.hid P1
      have HI1 := Lib.hid hi1
      clear P1 hi1
      by_cases h4 : f.p = 0
      · have hE : stepAt l i doomK = (0, l.set i f.freed) := by rw [stepAt_in _ hi, doomK, if_pos ho, if_pos h4]
        rw [hE, ende_0]
        clear hE
        rcases ho with h1 | h1
        all_goals
          go_enter Try.func51, Try.ntmps51
          go_wp2_with (first
            | (go_at_call 52; (with_reducible refine (pat_ok bp bf l i f hi _ HP.out).mono ?_); rintro e w1 ⟨rfl, rfl⟩)
            | (go_at_call 53; (with_reducible refine (pmust_true _ _).mono ?_); rintro e w1 ⟨rfl, rfl⟩)
            | (go_at_call 54; (refine (pfree_ok bp bf _ i _ HI1.out _ HP1.out).mono ?_); rintro e w1 ⟨rfl, k1, k2⟩))
          go_end0
          exact ⟨rfl, by simpa [List.set_set, Fm.freed] using k1, Fr.trans (by repeat' (first | (with_reducible exact Fr.refl _ _) | (with_reducible assumption) | (with_reducible refine Fr.drew ?_) | (with_reducible refine Fr.drewN ?_ _) | (with_reducible refine Fr.alloc ?_ _) | ((with_reducible refine Fr.setNew ?_ _ ?_ _); rotate_left; (focus (first | (with_reducible assumption) | exact Nat.le_of_lt (by with_reducible assumption) | (focus (simp +arith; done)) | exact Nat.le_trans (by with_reducible assumption) (by simp +arith; done) | (simp; done)))) | ((with_reducible refine Fr.setOld ?_ _ ?_ _); rotate_left; (focus (simp; done))))) k2⟩
      · have hE : stepAt l i doomK = (0, l.set i { f with s := 3 }) := by rw [stepAt_in _ hi, doomK, if_pos ho, if_neg h4]
        rw [hE, ende_0]
        clear hE
        rcases ho with h1 | h1
        all_goals
          go_enter Try.func51, Try.ntmps51
          go_wp2_with (first
            | (go_at_call 52; (with_reducible refine (pat_ok bp bf l i f hi _ HP.out).mono ?_); rintro e w1 ⟨rfl, rfl⟩)
            | (go_at_call 53; (with_reducible refine (pmust_true _ _).mono ?_); rintro e w1 ⟨rfl, rfl⟩))
          go_end0
          exact ⟨rfl, HP1.out, (by repeat' (first | (with_reducible exact Fr.refl _ _) | (with_reducible assumption) | (with_reducible refine Fr.drew ?_) | (with_reducible refine Fr.drewN ?_ _) | (with_reducible refine Fr.alloc ?_ _) | ((with_reducible refine Fr.setNew ?_ _ ?_ _); rotate_left; (focus (first | (with_reducible assumption) | exact Nat.le_of_lt (by with_reducible assumption) | (focus (simp +arith; done)) | exact Nat.le_trans (by with_reducible assumption) (by simp +arith; done) | (simp; done)))) | ((with_reducible refine Fr.setOld ?_ _ ?_ _); rotate_left; (focus (simp; done)))))⟩
    · rw [stepAt_no (c := 5) hi (by rw [doomK, if_neg ho])]
      have h1 : (f.s == 1) = false := by simp; omega
      have h2 : (f.s == 2) = false := by simp; omega
      clear ho
      go_enter Try.func51, Try.ntmps51
      go_wp2_with (first
        | (go_at_call 52; (with_reducible refine (pat_ok bp bf l i f hi _ HP.out).mono ?_); rintro e w1 ⟨rfl, rfl⟩)
        | (go_at_call 53; (with_reducible refine (pmust_false _ _).mono ?_); rintro e w1 ⟨rfl, rfl⟩))
      exact ⟨rfl, rfl, HP.out, Fr.refl _ _⟩

end Go.Proofs.Ytmhdnafdbgbmfaa
