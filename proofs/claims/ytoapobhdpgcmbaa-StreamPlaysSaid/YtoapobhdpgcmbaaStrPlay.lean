/- The reference of layer 10: Access, all ways; both trackers side by side. -/
import Derived.Test.YtoapobhdpgcmbaaStrRef3
import Derived.Test.YtoapobhdpgcmbaaStrSame
namespace Go.Proofs.Ytoapobhdpgcmbaa
open Go.RowKit Go.Lib

section
variable {w w' : World} {M : List Nat} {r rt base : Nat} {P : Prm} {v : Value} {s : TS}
theorem rs_access (hP : P.Ok) (hs : SOk P s) (hu : s.us ≤ 850) (f c : Int) (H : RTrk w M r rt base P v s) :
    Calls Try.prog 18 #[.pointer (some ⟨r, 0, none⟩), .int .i64 f, .int .i64 c] w fun e w' => e = .returned (.tuple #[.agg #[.int .i64 (accR P f c s).id, .int .i64 (accR P f c s).af, .int .i64 (accR P f c s).an], .int .i64 (accR P f c s).cd]) ∧ (∃ v', RTrk w' M r rt base P v' (accR P f c s).s) ∧ Fr (rN r rt v) w w' := by
  by_cases hb : badA P f c
  · have e : accR P f c s = ⟨0, 0, 0, 1, s⟩ := by unfold accR; rw [if_pos hb]
    rw [e]
    refine (rs_acc_no hP f c hb H).mono ?_
    rintro e w' ⟨rfl, F⟩
    exact ⟨rfl, ⟨v, H.fr0 F⟩, F.mono (by simp)⟩
  · exact rs_acc_ok hP hs hu f c hb H
set_option maxHeartbeats 1000000 in
theorem rs_newB (hP : P.Ok) (hM : ∀ m ∈ M, m < w.heap.size) : Calls Try.prog 16 #[.int .i64 P.most, .int .i64 P.size, .int .i64 P.life, .int .i64 P.deg, .int .i64 P.blk] w fun e w' => (∃ r rt base, e = .returned (.pointer (some ⟨r, 0, none⟩)) ∧ RTrk w' M r rt base P (.slice none 0 0) ⟨[], 0, 0, 0, []⟩ ∧ w.heap.size ≤ r ∧ w.heap.size ≤ rt ∧ w.heap.size ≤ base) ∧ Fr [] w w' := by
  have HH := Lib.hid hM
  clear hM
  go_enter Try.func16, Try.ntmps16
  go_wp2_with fail
  with_reducible refine (rt_new P.size P.life w M HH.out).mono ?_
  rintro e w2 ⟨rfl, R2, f2, z2⟩
  have HR := Lib.hid R2
  obtain ⟨q, hq⟩ : ∃ q, q = w.heap.size := ⟨_, rfl⟩
  rw [← hq] at z2 HR ⊢
  have HQ := Lib.hid hq
  have HZ := Lib.hid z2
  clear R2 hq z2
  go_wp2_with fail
  go_ret
  have z2 := HZ.out
  have F3 : Fr [] w2 (w2.alloc (.cells #[.slice none 0 0, .pointer (some ⟨q, 0, none⟩), .int .i64 0, .int .i64 0, .int .i64 P.most, .int .i64 P.deg, .int .i64 P.blk] 48)) := (by repeat' (first | (with_reducible exact Fr.refl _ _) | (with_reducible assumption) | (with_reducible refine Fr.drew ?_) | (with_reducible refine Fr.drewN ?_ _) | (with_reducible refine Fr.alloc ?_ _) | ((with_reducible refine Fr.setNew ?_ _ ?_ _); rotate_left; (focus (first | (with_reducible assumption) | exact Nat.le_of_lt (by with_reducible assumption) | (focus (simp +arith; done)) | exact Nat.le_trans (by with_reducible assumption) (by simp +arith; done) | (simp; done)))) | ((with_reducible refine Fr.setOld ?_ _ ?_ _); rotate_left; (focus (simp; done)))))
  have z3 : (w2.alloc (.cells #[.slice none 0 0, .pointer (some ⟨q, 0, none⟩), .int .i64 0, .int .i64 0, .int .i64 P.most, .int .i64 P.deg, .int .i64 P.blk] 48)).heap.size = w2.heap.size + 1 := by simp
  refine ⟨⟨_, _, w2.heap.size + 1, rfl, ⟨by (apply heap_eq_of; (focus (repeat (first | (with_reducible assumption) | ((with_reducible refine heap_alloc_at ?_ _); first | (with_reducible rfl) | (focus (simp; done))) | (with_reducible apply heap_alloc_old) | ((with_reducible apply heap_set_other); (case hne => (first | (with_reducible assumption) | exact Nat.ne_of_lt (by with_reducible assumption) | exact Nat.ne_of_gt (by with_reducible assumption) | (focus (simp +arith; done)) | (simp; done)))) | (with_reducible apply heap_set_eq) | (with_reducible apply heap_drew_of) | (with_reducible apply heap_drewN_of)))); (focus (first | (simp; done) | rfl))), El.Own.nil _ _ _, HR.out.turn F3 (by simp) (fun x hx => ?_) (fun x hx => ?_) (by simp), ⟨by omega, by omega, by omega, by omega⟩, fun x hx => ?_⟩, by have := HQ.out; omega, by have := HQ.out; omega, by have := HQ.out; omega⟩, f2.trans F3⟩
  · simp [Value.ownBlock] at hx
    rcases hx with rfl | rfl | hx
    · simp
    · simp
    · simp [hx]
  · have h9 := HH.out
    have h8 := HQ.out
    simp [Value.ownBlock] at hx
    rcases hx with rfl | rfl | hx
    · omega
    · omega
    · have := h9 x hx; omega
  · have h9 := HH.out x hx
    have h8 := HQ.out
    simp [Value.ownBlock]
    omega
end
/-- The tracker and the reference's side by side; all their blocks lie behind B, and are none of M. -/
def Mid (w : World) (B : Nat) (M : List Nat) (t r : Nat) (P : Prm) (s1 s2 : TS) : Prop :=
  ∃ tb b base v rt base2 v2, TrkP w t tb b base P v s1 ∧ (∀ x ∈ trkN t tb b v, B ≤ x) ∧ RTrk w (trkN t tb b v ++ M) r rt base2 P v2 s2 ∧ (∀ x ∈ rN r rt v2, B ≤ x) ∧ B ≤ base2 ∧ ∀ x ∈ M, x ∉ trkN t tb b v
section
variable {w w' w0 : World} {B t r : Nat} {M M' : List Nat} {P : Prm} {s s1 s2 : TS}
theorem Mid.turn (h : Mid w B M t r P s1 s2) (f : Fr [] w w') (hM : ∀ x ∈ M', x ∈ M ∨ (w.heap.size ≤ x ∧ x < w'.heap.size)) : Mid w' B M' t r P s1 s2 := by
  obtain ⟨tb, b, base, v, rt, base2, v2, h1, h2, h3, h4, h5, h6⟩ := h
  refine ⟨tb, b, base, v, rt, base2, v2, h1.fr0 f, h2, h3.turn f (by simp) (fun x hx => ?_) (fun x hx => ?_), h4, h5, fun x hx => ?_⟩
  · rcases List.mem_append.1 hx with q | q
    · exact Or.inl (List.mem_append.2 (Or.inl q))
    · exact (hM x q).imp (fun z => List.mem_append.2 (Or.inr z)) And.left
  · rcases List.mem_append.1 hx with q | q
    · exact Nat.lt_of_lt_of_le (h1.lt x q) f.size
    · rcases hM x q with z | z
      · exact Nat.lt_of_lt_of_le (h3.ml x (List.mem_append.2 (Or.inr z))) f.size
      · exact z.2
  · rcases hM x hx with z | z
    · exact h6 x z
    · exact fun q => by have := h1.lt x q; omega
theorem Mid.fr0 (h : Mid w B M t r P s1 s2) (f : Fr [] w w') : Mid w' B M t r P s1 s2 := h.turn f (fun x hx => Or.inl hx)
theorem Mid.ok (h : Mid w B M t r P s1 s2) : SOk P s1 := by obtain ⟨_, _, _, _, _, _, _, h1, _⟩ := h; exact h1.ok
theorem Mid.lt (h : Mid w B M t r P s1 s2) : B ≤ w.heap.size := by
  obtain ⟨tb, b, base, v, rt, base2, v2, h1, h2, h3, h4⟩ := h
  have a := h2 t (by simp)
  have c := h1.lt t (by simp)
  omega
theorem mid_trk {tb b base : Nat} {v : Value} {rt base2 : Nat} {v2 v' : Value} (h1 : TrkP w' t tb b base P v' s1) (h0 : ∀ x ∈ trkN t tb b v, x < w.heap.size) (hv : ∀ y ∈ v'.ownBlock.toList, y ∈ v.ownBlock.toList ∨ w.heap.size ≤ y) (F : Fr (trkN t tb b v) w w') (hB : B ≤ w.heap.size) (h2 : ∀ x ∈ trkN t tb b v, B ≤ x)
    (h3 : RTrk w (trkN t tb b v ++ M) r rt base2 P v2 s2) (h4 : ∀ x ∈ rN r rt v2, B ≤ x) (h5 : B ≤ base2) (h6 : ∀ x ∈ M, x ∉ trkN t tb b v) : Mid w' B M t r P s1 s2 := by
  have hs : ∀ x ∈ trkN t tb b v', x ∈ trkN t tb b v ∨ w.heap.size ≤ x := by
    intro x hx
    rcases List.mem_cons.1 hx with rfl | hx
    · simp
    rcases List.mem_cons.1 hx with rfl | hx
    · simp
    rcases List.mem_cons.1 hx with rfl | hx
    · simp
    · exact (hv x hx).imp (fun q => by simp [q]) id
  refine ⟨tb, b, base, v', rt, base2, v2, h1, fun x hx => (hs x hx).elim (h2 x) (fun q => Nat.le_trans hB q), h3.turn F (fun x hx => Or.inl (List.mem_append.2 (Or.inl hx))) (fun x hx => ?_) (fun x hx => ?_), h4, h5, fun x hx q => (hs x q).elim (h6 x hx) (fun z => by have := h3.ml x (List.mem_append.2 (Or.inr hx)); omega)⟩
  · rcases List.mem_append.1 hx with q | q
    · exact (hs x q).imp (fun z => List.mem_append.2 (Or.inl z)) id
    · exact Or.inl (List.mem_append.2 (Or.inr q))
  · rcases List.mem_append.1 hx with q | q
    · exact h1.lt x q
    · exact Nat.lt_of_lt_of_le (h3.ml x (List.mem_append.2 (Or.inr q))) F.size
theorem bacc1 (hP : P.Ok) (f c : Int) (hu : s.us ≤ 850) (H : Mid w B M t r P s s2) :
    Calls Try.prog 17 #[.pointer (some ⟨t, 0, none⟩), .int .i64 f, .int .i64 c] w fun e w' => e = .returned (.tuple #[.agg #[.int .i64 (accR P f c s).id, .int .i64 (accR P f c s).af, .int .i64 (accR P f c s).an], .int .i64 (accR P f c s).cd]) ∧ Mid w' B M t r P (accR P f c s).s s2 ∧ KeepM B M w w' := by
  have hB := H.lt
  obtain ⟨tb, b, base, v, rt, base2, v2, h1, h2, h3, h4, h5, h6⟩ := H
  refine (saccess hP f c (by omega) h1).mono ?_
  rintro e w' ⟨rfl, ⟨v', T, U⟩, F⟩
  exact ⟨rfl, mid_trk T h1.lt U F hB h2 h3 h4 h5 h6, _, F, fun x hx => ⟨h2 x hx, fun q => h6 x q hx⟩⟩
theorem blate1 (hP : P.Ok) (id : Int) (H : Mid w B M t r P s s2) :
    Calls Try.prog 19 #[.pointer (some ⟨t, 0, none⟩), .int .i64 id] w fun e w' => e = .returned (.bool (decide (0 ≤ idxS id s.xs))) ∧ Mid w' B M t r P (tuneS true id s) s2 ∧ KeepM B M w w' := by
  have hB := H.lt
  obtain ⟨tb, b, base, v, rt, base2, v2, h1, h2, h3, h4, h5, h6⟩ := H
  refine (slateP hP id h1).mono ?_
  rintro e w' ⟨rfl, T, F⟩
  exact ⟨rfl, mid_trk T h1.lt (fun y hy => Or.inl hy) F hB h2 h3 h4 h5 h6, _, F, fun x hx => ⟨h2 x hx, fun q => h6 x q hx⟩⟩
theorem bwaste1 (hP : P.Ok) (id : Int) (H : Mid w B M t r P s s2) :
    Calls Try.prog 21 #[.pointer (some ⟨t, 0, none⟩), .int .i64 id] w fun e w' => e = .returned (.bool (decide (0 ≤ idxS id s.xs))) ∧ Mid w' B M t r P (tuneS false id s) s2 ∧ KeepM B M w w' := by
  have hB := H.lt
  obtain ⟨tb, b, base, v, rt, base2, v2, h1, h2, h3, h4, h5, h6⟩ := H
  refine (swasteP hP id h1).mono ?_
  rintro e w' ⟨rfl, T, F⟩
  exact ⟨rfl, mid_trk T h1.lt (fun y hy => Or.inl hy) F hB h2 h3 h4 h5 h6, _, F, fun x hx => ⟨h2 x hx, fun q => h6 x q hx⟩⟩
theorem mid_ref {tb b base : Nat} {v : Value} {rt base2 : Nat} {v2 v' : Value} (h1 : TrkP w t tb b base P v s1) (h2 : ∀ x ∈ trkN t tb b v, B ≤ x) (h3 : RTrk w (trkN t tb b v ++ M) r rt base2 P v2 s) (h4 : ∀ x ∈ rN r rt v2, B ≤ x) (F : Fr (rN r rt v2) w w') (T : RTrk w' (trkN t tb b v ++ M) r rt base2 P v' s2) (hb : B ≤ base2) (h6 : ∀ x ∈ M, x ∉ trkN t tb b v) : Mid w' B M t r P s1 s2 := by
  refine ⟨tb, b, base, v, rt, base2, v', h1.fr F (fun x hx q => h3.na x hx (List.mem_append.2 (Or.inl q))), h2, T, fun x hx => ?_, hb, h6⟩
  rcases List.mem_cons.1 hx with rfl | hx
  · exact h4 _ (by simp)
  rcases List.mem_cons.1 hx with rfl | hx
  · exact h4 _ (by simp)
  · exact Nat.le_trans hb (T.ow.ge x hx)
theorem bacc2 (hP : P.Ok) (hs : SOk P s) (f c : Int) (hu : s.us ≤ 850) (H : Mid w B M t r P s1 s) :
    Calls Try.prog 18 #[.pointer (some ⟨r, 0, none⟩), .int .i64 f, .int .i64 c] w fun e w' => e = .returned (.tuple #[.agg #[.int .i64 (accR P f c s).id, .int .i64 (accR P f c s).af, .int .i64 (accR P f c s).an], .int .i64 (accR P f c s).cd]) ∧ Mid w' B M t r P s1 (accR P f c s).s ∧ KeepM B M w w' := by
  obtain ⟨tb, b, base, v, rt, base2, v2, h1, h2, h3, h4, h5, h6⟩ := H
  refine (rs_access hP hs hu f c h3).mono ?_
  rintro e w' ⟨rfl, ⟨v', T⟩, F⟩
  exact ⟨rfl, mid_ref h1 h2 h3 h4 F T h5 h6, _, F, fun x hx => ⟨h4 x hx, fun q => h3.na x hx (List.mem_append.2 (Or.inr q))⟩⟩
theorem btune2 (late : Bool) (hP : P.Ok) (hs : SOk P s) (id : Int) (H : Mid w B M t r P s1 s) :
    Calls Try.prog 20 #[.pointer (some ⟨r, 0, none⟩), .int .i64 id, .bool late] w fun e w' => e = .returned (.bool (decide (0 ≤ idxS id s.xs))) ∧ Mid w' B M t r P s1 (tuneS late id s) ∧ KeepM B M w w' := by
  obtain ⟨tb, b, base, v, rt, base2, v2, h1, h2, h3, h4, h5, h6⟩ := H
  cases late
  · refine (rs_waste hP hs id h3).mono ?_
    rintro e w' ⟨rfl, T, F⟩
    exact ⟨rfl, mid_ref h1 h2 h3 h4 F T h5 h6, _, F, fun x hx => ⟨h4 x hx, fun q => h3.na x hx (List.mem_append.2 (Or.inr q))⟩⟩
  · refine (rs_late hP hs id h3).mono ?_
    rintro e w' ⟨rfl, T, F⟩
    exact ⟨rfl, mid_ref h1 h2 h3 h4 F T h5 h6, _, F, fun x hx => ⟨h4 x hx, fun q => h3.na x hx (List.mem_append.2 (Or.inr q))⟩⟩
theorem bstreams (hP : P.Ok) (H : Mid w B M t r P s s2) :
    Calls Try.prog 23 #[.pointer (some ⟨t, 0, none⟩)] w fun e w' => (∃ A c, e = .returned (.slice A s.xs.length c) ∧ eS.Sl [] w' (.slice A s.xs.length c) s.xs) ∧ Fr [] w w' := by
  obtain ⟨tb, b, base, v, rt, base2, v2, h1, h2, h3, h4, h5⟩ := H
  refine (sstreamsP hP h1).mono ?_
  rintro e w' ⟨⟨A, c, rfl, O⟩, F⟩
  exact ⟨⟨_, _, rfl, O.sl (by simp)⟩, F⟩
theorem bexpected (hP : P.Ok) (hu : s.us ≤ 850) (H : Mid w B M t r P s s2) :
    Calls Try.prog 25 #[.pointer (some ⟨t, 0, none⟩)] w fun e w' => (∃ A c, e = .returned (.slice A s.E.length c) ∧ eX.Sl [] w' (.slice A s.E.length c) (s.E.map (ag s.L))) ∧ Fr [] w w' := by
  obtain ⟨tb, b, base, v, rt, base2, v2, h1, h2, h3, h4, h5⟩ := H
  refine (sexpectedP hP (by omega) h1).mono ?_
  rintro e w' ⟨⟨A, c, rfl, O⟩, F⟩
  exact ⟨⟨_, _, rfl, O.sl (by simp)⟩, F⟩
/-- What the reference's tracker reads as. -/
theorem Mid.read (H : Mid w B M t r P s s2) : ∃ (A : Option Addr) (c : Nat) (rt : Nat) (A2 : Option Addr) (c2 : Nat), w.heap[r]? = some (.cells #[.slice A s2.xs.length c, .pointer (some ⟨rt, 0, none⟩), .int .i64 s2.us, .int .i64 s2.la, .int .i64 P.most, .int .i64 P.deg, .int .i64 P.blk] 48) ∧ eS.Sl [] w (.slice A s2.xs.length c) s2.xs ∧
    w.heap[rt]? = some (.cells #[.int .i64 P.size, .int .i64 P.life, .slice A2 s2.E.length c2] 53) ∧ eX.Sl [] w (.slice A2 s2.E.length c2) (s2.E.map (ag s2.L)) := by
  obtain ⟨tb, b, base, v, rt, base2, v2, h1, h2, h3, h4, h5⟩ := H
  obtain ⟨q1, q2, x, q3, q4⟩ := h3.tp
  obtain ⟨A, c, hv⟩ := h3.ow.shape
  subst hv
  obtain ⟨A2, c2, hx, _, _⟩ := id q4
  rw [List.length_map] at hx
  subst hx
  exact ⟨A, c, rt, A2, c2, h3.hr, h3.ow.sl (by simp), q3, q4.mono (by simp)⟩
theorem mid_new (hP : P.Ok) (T : TrkM w B M t P ⟨[], 0, 0, 0, []⟩) :
    Calls Try.prog 16 #[.int .i64 P.most, .int .i64 P.size, .int .i64 P.life, .int .i64 P.deg, .int .i64 P.blk] w fun e w' => (∃ r, e = .returned (.pointer (some ⟨r, 0, none⟩)) ∧ Mid w' B M t r P ⟨[], 0, 0, 0, []⟩ ⟨[], 0, 0, 0, []⟩) ∧ Fr [] w w' := by
  obtain ⟨tb, b, base, v, h1, h2, h3⟩ := T
  refine (rs_newB (M := trkN t tb b v ++ M) hP (fun x hx => (List.mem_append.1 hx).elim (h1.lt x) (fun q => (h3 x q).1))).mono ?_
  rintro e w' ⟨⟨r, rt, base2, rfl, R, b1, b2, b3⟩, F⟩
  have hB : B ≤ w.heap.size := by have a := h2 t (by simp); have c := h1.lt t (by simp); omega
  refine ⟨⟨r, rfl, tb, b, base, v, rt, base2, _, h1.fr0 F, h2, R, fun x hx => ?_, by omega, fun x hx => (h3 x hx).2⟩, F⟩
  simp [Value.ownBlock] at hx
  omega
/-- A region with two calls, each turning one of the two. -/
structure TwM (k1 k2 B : Nat) (M : List Nat) (t r : Nat) (P : Prm) (s s' : TS) (w0 : World) (b : Nat → Bool) (V : Nat → Value) (w : World) : Prop where
  m : Mid w B M t r P (cond (b k1) s' s) (cond (b k2) s' s)
  k : KeepM B M w0 w
variable {k1 k2 : Nat} {s' : TS} {b : Nat → Bool} {V : Nat → Value}
theorem TwM.start (h : Mid w0 B M t r P s s) : TwM k1 k2 B M t r P s s' w0 (fun _ => false) V w0.drew := ⟨h.fr0 (Fr.refl _ _).drew, [], (Fr.refl _ _).drew, by simp⟩
theorem TwM.plain (h : TwM k1 k2 B M t r P s s' w0 b V w) {j : Nat} (hj : k1 ≠ j ∧ k2 ≠ j) (f : Fr [] w w') : TwM k1 k2 B M t r P s s' w0 (updD b j) V w' :=
  ⟨by rw [dD_ne hj.1, dD_ne hj.2]; exact h.m.fr0 f, h.k.then f⟩
theorem KeepM.both {w1 : World} (h : KeepM B M w0 w1) (h2 : KeepM B M w1 w') : KeepM B M w0 w' := by
  obtain ⟨N, F, hN⟩ := h
  obtain ⟨N2, F2, hN2⟩ := h2
  exact ⟨N ++ N2, (F.mono (fun x hx => Or.inl (List.mem_append.2 (Or.inl hx)))).trans (F2.mono (fun x hx => Or.inl (List.mem_append.2 (Or.inr hx)))), fun x hx => (List.mem_append.1 hx).elim (hN x) (hN2 x)⟩
theorem TwM.one (h : TwM k1 k2 B M t r P s s' w0 b V w) (hk : k2 ≠ k1) (m : Mid w' B M t r P s' (cond (b k2) s' s)) (f : KeepM B M w w') : TwM k1 k2 B M t r P s s' w0 (updD b k1) V w' :=
  ⟨by rw [dD_eq, dD_ne hk]; exact m, h.k.both f⟩
theorem TwM.two (h : TwM k1 k2 B M t r P s s' w0 b V w) (hk : k1 ≠ k2) (m : Mid w' B M t r P (cond (b k1) s' s) s') (f : KeepM B M w w') : TwM k1 k2 B M t r P s s' w0 (updD b k2) V w' :=
  ⟨by rw [dD_eq, dD_ne hk]; exact m, h.k.both f⟩
end
end Go.Proofs.Ytoapobhdpgcmbaa
