/- Rows of pairs (block, age) of a call's own, and slices.SortFunc on them. -/
import Derived.Test.YtoapobhdpgcmbaaTap
import Derived.Test.YtoapobhdpgcmbaaSort
import Derived.Shelf.SlSortCmp.NoneTotal
import Derived.Maps.AppendAt
import Derived.OwnWalk
namespace Go.Proofs.Ytoapobhdpgcmbaa
open Go.RowKit Go.Sort Go.Lib

theorem ownsRow_fr {S : List Nat} {w w' : World} {base : Nat} {e : TypeId} {size : Nat} {v : Value} {n : Nat} {xs : List Value} (h : w.ownsRow base e size v n xs) (f : Fr S w w') (hS : ∀ x ∈ S, x < base) : w'.ownsRow base e size v n xs := by
  refine ⟨h.1, ?_⟩
  rcases h.2 with q | ⟨g, cap, cur, q1, q2, q3, q4⟩
  · exact Or.inl q
  · exact Or.inr ⟨g, cap, cur, q1, q2, f.heap q3 (fun hx => by have := hS g hx; omega), q4⟩
theorem own_ge {w : World} {base : Nat} {e : TypeId} {size : Nat} {v : Value} {n : Nat} {xs : List Value} (h : w.ownsRow base e size v n xs) : ∀ x ∈ v.ownBlock.toList, base ≤ x := by
  rcases h.2 with ⟨rfl, _⟩ | ⟨g, cap, cur, rfl, q2, _⟩
  · intro x hx; simp [Value.ownBlock] at hx
  · intro x hx; simp [Value.ownBlock] at hx; omega

/-- A pair's two cells. -/
def pc (p : Int × Int) : List Value := [.int .i64 p.1, .int .i64 p.2]
def pcells : List (Int × Int) → List Value
  | [] => []
  | p :: r => .int .i64 p.1 :: .int .i64 p.2 :: pcells r
theorem pcells_len : ∀ l : List (Int × Int), (pcells l).length = l.length * 2
  | [] => rfl
  | f :: r => by simp [pcells, pcells_len r]; omega
theorem pcells_app : ∀ (l m : List (Int × Int)), pcells (l ++ m) = pcells l ++ pcells m
  | [], _ => rfl
  | f :: r, m => by simp [pcells, pcells_app r m]
theorem pcells_get : ∀ (l : List (Int × Int)) (i j : Nat) (p : Int × Int), l[i]? = some p → j < 2 → (pcells l)[i * 2 + j]? = (pc p)[j]?
  | [], i, j, p, h, _ => by simp at h
  | x :: r, 0, j, p, h, hj => by
    simp at h; subst h
    match j, hj with
    | 0, _ => rfl
    | 1, _ => rfl
  | x :: r, i + 1, j, p, h, hj => by
    have := pcells_get r i j p (by simpa using h) hj
    rw [show (i + 1) * 2 + j = (i * 2 + j) + 1 + 1 by omega]
    simpa [pcells] using this

/-- A ROW OF PAIRS OF THE CALL's OWN. -/
def OwnP (w : World) (base : Nat) (v : Value) (xs : List (Int × Int)) : Prop := w.ownsRow base 110 2 v xs.length (pcells xs)
theorem OwnP.fr {S : List Nat} {w w' : World} {base : Nat} {v : Value} {xs : List (Int × Int)} (h : OwnP w base v xs) (f : Fr S w w') (hS : ∀ x ∈ S, x < base) : OwnP w' base v xs := ownsRow_fr h f hS

theorem flat_get (l : List (Int × Int)) (t : Nat) (h : t < l.length * 2) : (pcells l)[t]? = some ((flatK pc 2 l.toArray)[t]!) := by
  rw [get_flatK _ _ _ _ (by simpa using h)]
  have e := pcells_get l (t / 2) (t % 2) l[t / 2] (by simp) (by omega)
  rw [show t / 2 * 2 + t % 2 = t by omega] at e
  rw [e]
  simp only [List.size_toArray, List.getElem!_toArray]
  rw [getElem!_pos l (t / 2) (by omega)]
  have h2 : t % 2 < 2 := by omega
  generalize t % 2 = q at *
  match q, h2 with
  | 0, _ => rfl
  | 1, _ => rfl

theorem put_take (l : List (Int × Int)) (cur : Array Value) (h : l.length * 2 ≤ cur.size) : (putCells id 0 (flatK pc 2 l.toArray) cur).toList.take (l.length * 2) = pcells l := by
  apply List.ext_getElem?
  intro t
  rw [List.getElem?_take]
  by_cases ht : t < l.length * 2
  · rw [if_pos ht, flat_get l t ht]
    simp [putCells, ht, show t < cur.size by omega]
  · rw [if_neg ht, List.getElem?_eq_none (by rw [pcells_len]; omega)]

set_option maxHeartbeats 1000000 in
/-- The order by age. -/
theorem tcmp (x y : Int × Int) (W : World) : Calls Try.prog 83 #[.agg (pc x).toArray, .agg (pc y).toArray] W fun e w' => e = .returned (.int .i64 (Lib.compareInt x.2 y.2)) ∧ ∃ q os', w' = grow (W.drewN q) os' := by
  have hcon := fun W' => AnyG.cmp_Compare_int Try.cmpInt x.2 y.2 W'
  change ∀ W', Calls Try.prog 84 _ _ _ at hcon
  generalize Lib.compareInt x.2 y.2 = r at hcon ⊢
  unfold pc
  go_enter Try.func83, Try.ntmps83
  go_wp2_with (go_at_call 84; refine (hcon _).mono ?_; rintro e w' ⟨rfl, rfl⟩)
  go_ret
  exact ⟨rfl, 0, _, by rw [alloc_eq_grow, alloc_eq_grow, grow_grow]; rfl⟩

theorem ltAge (x y : Int × Int) : Go.Proofs.ltOf (fun x y : Int × Int => Lib.compareInt x.2 y.2) x y = decide (x.2 < y.2) := by
  unfold Go.Proofs.ltOf Lib.compareInt
  by_cases h1 : x.2 < y.2
  · simp [h1]
  · by_cases h2 : y.2 < x.2 <;> simp [h1, h2]
theorem swoAge : SWO (Go.Proofs.ltOf fun x y : Int × Int => Lib.compareInt x.2 y.2) where
  irrefl x := by rw [ltAge]; simp
  trans x y z h1 h2 := by rw [ltAge] at *; simp at *; omega
  ntrans x y z h1 h2 := by rw [ltAge] at *; simp at *; omega

theorem age_eq {l : List (Int × Int)} (h : l.Pairwise (fun p q => p.2 < q.2)) : ∀ {p q}, p ∈ l → q ∈ l → p.2 = q.2 → p = q := by
  induction l with
  | nil => intro p q hp; simp at hp
  | cons x r ih =>
    obtain ⟨h1, h2⟩ := List.pairwise_cons.1 h
    intro p q hp hq e
    rcases List.mem_cons.1 hp with rfl | hp' <;> rcases List.mem_cons.1 hq with rfl | hq'
    · rfl
    · have := h1 _ hq'; omega
    · have := h1 _ hp'; omega
    · exact ih h2 hp' hq' e

set_option maxHeartbeats 1000000 in
/-- slices.SortFunc BY AGE, where no two ages are the same. -/
theorem tsort (base : Nat) (v : Value) (xs ys : List (Int × Int)) (hp : xs.Perm ys) (hs : ys.Pairwise (fun p q => p.2 < q.2)) (hl : xs.length ≤ 1000) (w : World) (H : OwnP w base v xs) :
    Calls Try.prog 82 #[v, .func (.func 83) #[] #[]] w fun e w' => e = .returned (.tuple #[]) ∧ OwnP w' base v ys ∧ Fr v.ownBlock.toList w w' := by
  obtain ⟨h1, ⟨rfl, hn⟩ | ⟨g, cap, cur, rfl, hg, hb, hc, hm, hz, ht⟩⟩ := H
  · have hx : xs = [] := List.length_eq_zero_iff.1 hn
    subst hx
    have hy : ys = [] := List.Perm.nil_eq hp |>.symm
    subst hy
    refine (AnyF.slices_SortFunc_none Try.sortIv none 0 _ w).mono ?_
    rintro e w' ⟨rfl, rfl⟩
    exact ⟨rfl, ⟨rfl, Or.inl ⟨rfl, rfl⟩⟩, Fr.refl _ _⟩
  · have hrow : w.heap[g]? = some (.cells cur 110 (0, 0)) := hb
    have hlen : xs.length * 2 ≤ cur.size := by rw [hz]; exact Nat.mul_le_mul_right 2 hc
    have hH : HoldsK pc 2 w g 0 xs.toArray := by
      intro j hj
      rw [size_flatK] at hj
      have hj' : j < xs.length * 2 := by simpa using hj
      refine ⟨?_, blk_frozen hrow _⟩
      rw [blk_cell hrow, Nat.zero_add]
      have := flat_get xs j hj'
      rw [← ht, List.getElem?_take, if_pos hj'] at this
      simpa using this
    have eg : ∀ args w, (callFunc 83 args).run Try.prog w = .ok (.enter 83 args) w := enters_of Try.func83 (by kernel_rfl) rfl
    have hcon := AnyQ.slices_SortFunc Try.sortIv 2 Try.isAgg110 Try.sizeOf110 pc (fun _ => rfl) (fun x v hv => by simp [pc] at hv; rcases hv with rfl | rfl <;> rfl) (fun x y => Lib.compareInt x.2 y.2) swoAge 83 #[] g 0 cap xs.toArray w eg (fun _ _ _ _ x y => by simpa using tcmp x y _) hH (lt_of_heap hrow) (by simp; omega)
    simp only [List.size_toArray] at hcon
    refine Calls.mono hcon ?_
    rintro e w' ⟨rfl, d', n, os, hq, hso, rfl⟩
    obtain ⟨q1, _, q2⟩ := hq
    have hd : d'.toList = ys := by
      have q3 : d'.toList.Perm xs := by
        have e1 : d'.extract 0 xs.length = d' := by rw [show xs.length = d'.size by simpa using q1.symm]; simp
        have e2 : xs.toArray.extract 0 xs.length = xs.toArray := by simp
        rw [e1, e2] at q2
        simpa using q2
      have q4 := q3.trans hp
      refine List.Perm.eq_of_pairwise (le := fun p q => p.2 ≤ q.2) ?_ ?_ (hs.imp (fun h => Int.le_of_lt h)) q4
      · intro a b ha hb h1 h2
        have ha' := (q4.mem_iff).1 ha
        exact age_eq hs ha' hb (by omega)
      · rw [List.pairwise_iff_getElem]
        intro i j hi hj hij
        have := hso i j (Nat.zero_le _) hij (by rw [Array.length_toList] at hj; simpa [q1] using hj)
        rw [ltAge] at this
        rw [Array.length_toList] at hi hj
        rw [getElem!_pos d' j hj, getElem!_pos d' i hi] at this
        simp at this
        simpa using this
    have hys : ys.length = xs.length := hp.length_eq.symm
    have hsz : d' = ys.toArray := by rw [← hd]
    subst hsz
    refine ⟨rfl, ⟨by rw [pcells_len], Or.inr ⟨g, cap, putCells id 0 (flatK pc 2 ys.toArray) cur, by rw [hys], hg, ?_, by omega, hm, by simp [putCells, hz], put_take ys cur (by omega)⟩⟩, ?_⟩
    · show (grow (putRow id (Sort.ahead w n) g 0 (flatK pc 2 ys.toArray)) os).heap[g]? = _
      rw [heap_grow_old _ _ (by simp [putRow, mapBlock, Sort.ahead]; exact lt_of_heap hrow)]
      simp [putRow, mapBlock, Sort.ahead, Array.getElem?_modify, hrow, onCells]
    · refine ⟨rfl, rfl, rfl, by simp [sortWorldK, putRowK, putRow, mapBlock, Sort.ahead], ?_⟩
      intro k hk hn
      show (grow (putRow id (Sort.ahead w n) g 0 (flatK pc 2 ys.toArray)) os).heap[k]? = _
      rw [heap_grow_old _ _ (by simp [putRow, mapBlock, Sort.ahead]; exact hk)]
      have : g ≠ k := fun e => hn (by simp [Value.ownBlock, e])
      simp [putRow, mapBlock, Sort.ahead, Array.getElem?_modify, this]

end Go.Proofs.Ytoapobhdpgcmbaa
