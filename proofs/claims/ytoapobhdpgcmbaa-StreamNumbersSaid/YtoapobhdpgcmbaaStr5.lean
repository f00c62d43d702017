/- Package stream: the tracker in memory; find, begin. -/
import Derived.Test.YtoapobhdpgcmbaaStr4
namespace Go.Proofs.Ytoapobhdpgcmbaa
open Go.RowKit Go.Lib

/-- A tracker at block t, its table at tb (its map at b), its streams in the row v; what may be: so many streams, degree, blocks. -/
structure TrkAt (w : World) (t tb b base : Nat) (size life most deg blk : Int) (v : Value) (xs : List Str) (us la L : Int) (E : List (Int × Int)) : Prop where
  ht : w.heap[t]? = some (.cells #[v, .pointer (some ⟨tb, 0, none⟩), .int .i64 us, .int .i64 la, .int .i64 most, .int .i64 deg, .int .i64 blk] 97)
  ow : eS.Own w base v xs
  tp : TapAt w tb b size life L E
  lt : t < base ∧ tb < base ∧ b < base
  ne : t ≠ tb ∧ t ≠ b
  bs : base ≤ w.heap.size
section
variable {w w' : World} {t tb b base : Nat} {size life most deg blk us la L : Int} {v : Value} {xs : List Str} {E : List (Int × Int)}
theorem TrkAt.fr {S : List Nat} (h : TrkAt w t tb b base size life most deg blk v xs us la L E) (f : Fr S w w') (h1 : t ∉ S) (h2 : tb ∉ S) (h3 : b ∉ S) (h4 : ∀ x ∈ S, x < base) : TrkAt w' t tb b base size life most deg blk v xs us la L E :=
  ⟨f.heap h.ht h1, h.ow.fr f h4, h.tp.fr f h2 h3, h.lt, h.ne, Nat.le_trans h.bs f.size⟩
theorem TrkAt.fr0 (h : TrkAt w t tb b base size life most deg blk v xs us la L E) (f : Fr [] w w') : TrkAt w' t tb b base size life most deg blk v xs us la L E := h.fr f (by simp) (by simp) (by simp) (by simp)
/-- The stream that reads a block next. -/
def fndS (first : Int) (xs : List Str) : Int := bestF (fun s => decide (s.nx = first)) (fun a b => decide (b.us < a.us)) xs xs.length
/-- The one that was used longest ago. -/
def oldS (xs : List Str) : Int := bestF (fun _ => true) (fun a b => decide (a.us < b.us)) xs xs.length
set_option maxRecDepth 100000 in
set_option maxHeartbeats 2000000 in
theorem sfind (first : Int) (hl : xs.length ≤ 1000) (H : TrkAt w t tb b base size life most deg blk v xs us la L E) :
    Calls Try.prog 49 #[.pointer (some ⟨t, 0, none⟩), .int .i64 first] w fun e w' => e = .returned (.int .i64 (fndS first xs)) ∧ Fr [] w w' := by
  have HX := H.ht
  have hF : Hid (fndS first xs = bestF (fun s => decide (s.nx = first)) (fun a b => decide (b.us < a.us)) xs xs.length) := rfl
  have HS := Lib.hid (H.ow.sl (M := []) (by simp))
  generalize fndS first xs = r at *
  clear H
  apply blk_use HX; intro hg1 hc1 hz1 _ _ _ _ _
  go_enter Try.func49, Try.ntmps49
  go_wp2_with fail
  with_reducible refine (sbest_find w.heap.size first (by (apply heap_eq_of; (focus (repeat (first | (with_reducible assumption) | ((with_reducible refine heap_alloc_at ?_ _); first | (with_reducible rfl) | (focus (simp; done))) | (with_reducible apply heap_alloc_old) | ((with_reducible apply heap_set_other); (case hne => (first | (with_reducible assumption) | exact Nat.ne_of_lt (by with_reducible assumption) | exact Nat.ne_of_gt (by with_reducible assumption) | (focus (simp +arith; done)) | (simp; done)))) | (with_reducible apply heap_set_eq) | (with_reducible apply heap_drew_of) | (with_reducible apply heap_drewN_of)))); (focus (first | (simp; done) | rfl)))) _ xs (by omega) [] (HS.out.fr (S := []) (by repeat' (first | (with_reducible exact Fr.refl _ _) | (with_reducible assumption) | (with_reducible refine Fr.drew ?_) | (with_reducible refine Fr.drewN ?_ _) | (with_reducible refine Fr.alloc ?_ _) | ((with_reducible refine Fr.setNew ?_ _ ?_ _); rotate_left; (focus (first | (with_reducible assumption) | exact Nat.le_of_lt (by with_reducible assumption) | (focus (simp +arith; done)) | exact Nat.le_trans (by with_reducible assumption) (by simp +arith; done) | (simp; done)))) | ((with_reducible refine Fr.setOld ?_ _ ?_ _); rotate_left; (focus (simp; done))))) (by simp))).mono ?_
  rintro e w2 ⟨rfl, f2⟩
  go_wp2_with fail
  go_ret
  exact ⟨ret_int hF.out.symm, Fr.trans (by repeat' (first | (with_reducible exact Fr.refl _ _) | (with_reducible assumption) | (with_reducible refine Fr.drew ?_) | (with_reducible refine Fr.drewN ?_ _) | (with_reducible refine Fr.alloc ?_ _) | ((with_reducible refine Fr.setNew ?_ _ ?_ _); rotate_left; (focus (first | (with_reducible assumption) | exact Nat.le_of_lt (by with_reducible assumption) | (focus (simp +arith; done)) | exact Nat.le_trans (by with_reducible assumption) (by simp +arith; done) | (simp; done)))) | ((with_reducible refine Fr.setOld ?_ _ ?_ _); rotate_left; (focus (simp; done))))) f2⟩

theorem oldS_lt (h : xs ≠ []) : ∃ i : Nat, oldS xs = i ∧ i < xs.length := by
  have h1 : ∀ n : Nat, 0 < n → n ≤ xs.length → 0 ≤ bestF (fun _ => true) (fun a b => decide (a.us < b.us)) xs n := by
    intro n
    induction n with
    | zero => intro h; omega
    | succ n ih =>
      intro _ hn
      have hx : xs[n]? = some xs[n] := List.getElem?_eq_getElem (by omega)
      have hl := bestF_lt (fun _ => true) (fun a b => decide (a.us < b.us)) xs n
      rcases Nat.eq_zero_or_pos n with q | q
      · subst q; rw [bestF_take hx rfl rfl (Or.inl (by simp [bestF]))]; omega
      · have := ih q (by omega)
        by_cases hc : (true = true ∧ (bestF (fun _ => true) (fun a b => decide (a.us < b.us)) xs n < 0 ∨ ∃ y, xs[(bestF (fun _ => true) (fun a b => decide (a.us < b.us)) xs n).toNat]? = some y ∧ (fun a b : Str => decide (a.us < b.us)) xs[n] y = true))
        · rw [bestF_take hx rfl rfl hc.2]; omega
        · rw [bestF_skip hx rfl hc]; exact this
  have hp : 0 < xs.length := List.length_pos_iff.2 h
  have a := h1 xs.length hp (Nat.le_refl _)
  have c := bestF_lt (fun _ => true) (fun a b => decide (a.us < b.us)) xs xs.length
  unfold oldS
  exact ⟨(bestF (fun _ => true) (fun a b => decide (a.us < b.us)) xs xs.length).toNat, by omega, by omega⟩
/-- The streams with a new one. -/
def begS (most first la : Int) (xs : List Str) : List Str := (if (xs.length : Int) = most then xs.eraseIdx (oldS xs).toNat else xs) ++ [⟨la + 1, first, first, 1, 0, 0⟩]
end
/-- A region that appends one literal row (made at kl) to an own row at k, and stores what comes in block t at st; only the row's own block and t are touched. -/
structure ApS (base : Nat) (v : Value) (x : Str) (xs' : List Str) (kl k st t : Nat) (o0 : Obj) (o1 : Value → Obj) (w0 : World) (b : Nat → Bool) (V : Nat → Value) (w : World) : Prop where
  a : b k = false → Fr [] w0 w
  lit : b kl = true → ∃ q, V kl = .slice (some ⟨q, 0, none⟩) 1 1 ∧ w0.heap.size ≤ q ∧ w.heap[q]? = some (.cells (scs x) 59)
  m : b k = true → eS.Own w base (V k) xs' ∧ (∀ y ∈ (V k).ownBlock.toList, y ∈ v.ownBlock.toList ∨ w0.heap.size ≤ y) ∧ Fr (t :: v.ownBlock.toList) w0 w
  c0 : b st = false → w.heap[t]? = some o0
  c1 : b st = true → b k = true ∧ w.heap[t]? = some (o1 (V k))
section
variable {base : Nat} {v : Value} {x : Str} {xs' : List Str} {kl k st t : Nat} {o0 : Obj} {o1 : Value → Obj} {w0 w w' : World} {b : Nat → Bool} {V : Nat → Value}
theorem ApS.start (h : w0.heap[t]? = some o0) : ApS base v x xs' kl k st t o0 o1 w0 (fun _ => false) V w0.drew := ⟨fun _ => (Fr.refl _ _).drew, by simp, by simp, fun _ => h, by simp⟩
theorem ApS.plain (h : ApS base v x xs' kl k st t o0 o1 w0 b V w) {j : Nat} (hj : kl ≠ j ∧ k ≠ j ∧ st ≠ j) (f : Fr [] w w') : ApS base v x xs' kl k st t o0 o1 w0 (updD b j) V w' :=
  ⟨fun q => (h.a (by rwa [dD_ne hj.2.1] at q)).trans f, fun q => by obtain ⟨g, g1, g2, g3⟩ := h.lit (by rwa [dD_ne hj.1] at q); exact ⟨g, g1, g2, f.heap g3 (by simp)⟩,
   fun q => by obtain ⟨m1, m2, m3⟩ := h.m (by rwa [dD_ne hj.2.1] at q); exact ⟨m1.fr f (by simp), m2, m3.trans (f.mono (by simp))⟩,
   fun q => f.heap (h.c0 (by rwa [dD_ne hj.2.2] at q)) (by simp), fun q => by obtain ⟨e1, e2⟩ := h.c1 (by rwa [dD_ne hj.2.2] at q); exact ⟨by rwa [dD_ne hj.2.1], f.heap e2 (by simp)⟩⟩
theorem ApS.made (h : ApS base v x xs' kl k st t o0 o1 w0 b V w) (hn : kl ≠ k ∧ kl ≠ st) (hb : b k = false) (hs : b st = false) {q : Nat} (hq : w.heap.size ≤ q) (f : Fr [] w w') (hc : w'.heap[q]? = some (.cells (scs x) 59)) : ApS base v x xs' kl k st t o0 o1 w0 (updD b kl) (updV V kl (.slice (some ⟨q, 0, none⟩) 1 1)) w' :=
  ⟨fun _ => (h.a hb).trans f, fun _ => ⟨q, by rw [dV_eq], Nat.le_trans (h.a hb).size hq, hc⟩, fun e => (by rw [dD_ne (Ne.symm hn.1), hb] at e; cases e), fun _ => f.heap (h.c0 hs) (by simp), fun e => (by rw [dD_ne (Ne.symm hn.2), hs] at e; cases e)⟩
theorem ApS.app (h : ApS base v x xs' kl k st t o0 o1 w0 b V w) (hn : kl ≠ k ∧ k ≠ st) (hb : b k = false) (hs : b st = false) {u : Value} (ho : eS.Own w' base u xs') (f : Fr v.ownBlock.toList w w') (hu : ∀ y ∈ u.ownBlock.toList, y ∈ v.ownBlock.toList ∨ w.heap.size ≤ y) (ht : t ∉ v.ownBlock.toList) (hv : ∀ y ∈ v.ownBlock.toList, y < w0.heap.size) : ApS base v x xs' kl k st t o0 o1 w0 (updD b k) (updV V k u) w' :=
  ⟨fun e => (by rw [dD_eq] at e; cases e), fun e => by
      rw [dD_ne hn.1] at e
      obtain ⟨q, q1, q2, q3⟩ := h.lit e
      refine ⟨q, by rw [dV_ne hn.1]; exact q1, q2, f.heap q3 (fun hq => ?_)⟩
      have := hv q hq
      omega,
   fun _ => ⟨by rw [dV_eq]; exact ho, by rw [dV_eq]; exact fun y hy => (hu y hy).imp id (fun q => Nat.le_trans (h.a hb).size q), ((h.a hb).mono (by simp)).trans (f.mono (fun y hy => Or.inl (by simp [hy])))⟩,
   fun _ => f.heap (h.c0 hs) ht, fun e => (by rw [dD_ne (Ne.symm hn.2), hs] at e; cases e)⟩
theorem ApS.store (h : ApS base v x xs' kl k st t o0 o1 w0 b V w) (hn : kl ≠ st ∧ k ≠ st) (hb : b k = true) (f : Fr [t] w w') (ht : t < base) (hc : w'.heap[t]? = some (o1 (V k))) (hlq : ∀ q, w0.heap.size ≤ q → q ≠ t) : ApS base v x xs' kl k st t o0 o1 w0 (updD b st) V w' :=
  ⟨fun e => (by rw [dD_ne hn.2, hb] at e; cases e), fun e => by
      rw [dD_ne hn.1] at e
      obtain ⟨q, q1, q2, q3⟩ := h.lit e
      exact ⟨q, q1, q2, f.heap q3 (by simpa using hlq q q2)⟩,
   fun _ => by obtain ⟨m1, m2, m3⟩ := h.m hb; exact ⟨m1.fr f (by simpa using ht), m2, m3.trans (f.mono (by simp))⟩,
   fun e => (by rw [dD_eq] at e; cases e), fun _ => ⟨by rwa [dD_ne hn.2], hc⟩⟩
theorem ApS.done (h : ApS base v x xs' kl k st t o0 o1 w0 b V w) (hb : b st = true) : eS.Own w base (V k) xs' ∧ w.heap[t]? = some (o1 (V k)) ∧ (∀ y ∈ (V k).ownBlock.toList, y ∈ v.ownBlock.toList ∨ w0.heap.size ≤ y) ∧ Fr (t :: v.ownBlock.toList) w0 w := by
  obtain ⟨e1, e2⟩ := h.c1 hb
  obtain ⟨m1, m2, m3⟩ := h.m e1
  exact ⟨m1, e2, m2, m3⟩
end
end Go.Proofs.Ytoapobhdpgcmbaa
