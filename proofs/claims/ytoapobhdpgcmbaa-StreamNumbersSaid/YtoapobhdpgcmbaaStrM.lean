/- Package stream: each call, of a tracker whose blocks lie behind B, and are none of M. -/
import Derived.Test.YtoapobhdpgcmbaaStr11
import Derived.Test.YtoapobhdpgcmbaaStrEq
namespace Go.Proofs.Ytoapobhdpgcmbaa
open Go.RowKit Go.Lib

def TrkM (w : World) (B : Nat) (M : List Nat) (t : Nat) (P : Prm) (s : TS) : Prop :=
  ∃ tb b base v, TrkP w t tb b base P v s ∧ (∀ x ∈ trkN t tb b v, B ≤ x) ∧ ∀ x ∈ M, x < w.heap.size ∧ x ∉ trkN t tb b v
def KeepM (B : Nat) (M : List Nat) (w w' : World) : Prop := ∃ N, Fr N w w' ∧ ∀ x ∈ N, B ≤ x ∧ x ∉ M
section
variable {w w' w0 : World} {B t : Nat} {M M' S : List Nat} {P : Prm} {s : TS}
theorem KeepM.fr (h : KeepM B M w w') (f : Fr [] w0 w) (hB : w0.heap.size ≤ B) : Fr [] w0 w' := by
  obtain ⟨N, F, hN⟩ := h
  exact f.trans' F (fun x hx => Or.inr (Nat.le_trans hB (hN x hx).1))
theorem KeepM.heap (h : KeepM B M w w') {k : Nat} {o : Obj} (hk : w.heap[k]? = some o) (hM : k ∈ M) : w'.heap[k]? = some o := by
  obtain ⟨N, F, hN⟩ := h
  exact F.heap hk (fun q => (hN k q).2 hM)
theorem KeepM.size (h : KeepM B M w w') : w.heap.size ≤ w'.heap.size := by obtain ⟨N, F, hN⟩ := h; exact F.size
theorem KeepM.sl {α : Type} {E : El α} {v : Value} {xs : List α} {L : List Nat} (h : KeepM B M w w') (hs : E.Sl L w v xs) (hM : ∀ x ∈ v.ownBlock.toList, x ∈ M) : E.Sl L w' v xs := by
  obtain ⟨N, F, hN⟩ := h
  exact hs.apart F (fun x hx q => (hN x q).2 (hM x hx))
theorem TrkM.ok (h : TrkM w B M t P s) : SOk P s := by obtain ⟨_, _, _, _, h, _⟩ := h; exact h.ok
theorem TrkM.turn (h : TrkM w B M t P s) (f : Fr S w w') (hS : ∀ x ∈ S, x ∈ M ∨ w.heap.size ≤ x) (hM : ∀ x ∈ M', x ∈ M ∨ (w.heap.size ≤ x ∧ x < w'.heap.size)) : TrkM w' B M' t P s := by
  obtain ⟨tb, b, base, v, h1, h2, h3⟩ := h
  refine ⟨tb, b, base, v, h1.fr f (fun x hx => (hS x hx).elim (fun q => (h3 x q).2) (fun q z => by have := h1.lt x z; omega)), h2, fun x hx => ?_⟩
  rcases hM x hx with q | ⟨q1, q2⟩
  · exact ⟨Nat.lt_of_lt_of_le (h3 x q).1 f.size, (h3 x q).2⟩
  · exact ⟨q2, fun z => by have := h1.lt x z; omega⟩
theorem TrkM.fr0 (h : TrkM w B M t P s) (f : Fr [] w w') : TrkM w' B M t P s := h.turn f (by simp) (fun x hx => Or.inl hx)
theorem saccessM (hP : P.Ok) (f c : Int) (hu : s.us ≤ 9000) (hB : B ≤ w.heap.size) (H : TrkM w B M t P s) :
    Calls Try.prog 17 #[.pointer (some ⟨t, 0, none⟩), .int .i64 f, .int .i64 c] w fun e w' => e = .returned (.tuple #[.agg #[.int .i64 (accR P f c s).id, .int .i64 (accR P f c s).af, .int .i64 (accR P f c s).an], .int .i64 (accR P f c s).cd]) ∧ TrkM w' B M t P (accR P f c s).s ∧ KeepM B M w w' := by
  obtain ⟨tb, b, base, v, h1, h2, h3⟩ := H
  refine (saccess hP f c hu h1).mono ?_
  rintro e w' ⟨rfl, ⟨v', T, U⟩, F⟩
  have hs : ∀ x ∈ trkN t tb b v', x ∈ trkN t tb b v ∨ w.heap.size ≤ x := by
    intro x hx
    rcases List.mem_cons.1 hx with rfl | hx
    · simp
    rcases List.mem_cons.1 hx with rfl | hx
    · simp
    rcases List.mem_cons.1 hx with rfl | hx
    · simp
    · exact (U x hx).imp (fun q => by simp [q]) id
  exact ⟨rfl, ⟨tb, b, base, v', T, fun x hx => (hs x hx).elim (h2 x) (fun q => Nat.le_trans hB q), fun x hx => ⟨Nat.lt_of_lt_of_le (h3 x hx).1 F.size, fun q => (hs x q).elim (h3 x hx).2 (fun z => by have := (h3 x hx).1; omega)⟩⟩, _, F, fun x hx => ⟨h2 x hx, fun q => (h3 x q).2 hx⟩⟩
theorem slateM (hP : P.Ok) (id : Int) (H : TrkM w B M t P s) :
    Calls Try.prog 19 #[.pointer (some ⟨t, 0, none⟩), .int .i64 id] w fun e w' => e = .returned (.bool (decide (0 ≤ idxS id s.xs))) ∧ TrkM w' B M t P (tuneS true id s) ∧ KeepM B M w w' := by
  obtain ⟨tb, b, base, v, h1, h2, h3⟩ := H
  refine (slateP hP id h1).mono ?_
  rintro e w' ⟨rfl, T, F⟩
  exact ⟨rfl, ⟨tb, b, base, v, T, h2, fun x hx => ⟨Nat.lt_of_lt_of_le (h3 x hx).1 F.size, (h3 x hx).2⟩⟩, _, F, fun x hx => ⟨h2 x hx, fun q => (h3 x q).2 hx⟩⟩
theorem swasteM (hP : P.Ok) (id : Int) (H : TrkM w B M t P s) :
    Calls Try.prog 21 #[.pointer (some ⟨t, 0, none⟩), .int .i64 id] w fun e w' => e = .returned (.bool (decide (0 ≤ idxS id s.xs))) ∧ TrkM w' B M t P (tuneS false id s) ∧ KeepM B M w w' := by
  obtain ⟨tb, b, base, v, h1, h2, h3⟩ := H
  refine (swasteP hP id h1).mono ?_
  rintro e w' ⟨rfl, T, F⟩
  exact ⟨rfl, ⟨tb, b, base, v, T, h2, fun x hx => ⟨Nat.lt_of_lt_of_le (h3 x hx).1 F.size, (h3 x hx).2⟩⟩, _, F, fun x hx => ⟨h2 x hx, fun q => (h3 x q).2 hx⟩⟩
theorem sstreamsM (hP : P.Ok) (H : TrkM w B M t P s) :
    Calls Try.prog 23 #[.pointer (some ⟨t, 0, none⟩)] w fun e w' => (∃ A c, e = .returned (.slice A s.xs.length c) ∧ eS.Own w' w.heap.size (.slice A s.xs.length c) s.xs) ∧ Fr [] w w' := by
  obtain ⟨tb, b, base, v, h1, h2, h3⟩ := H
  exact sstreamsP hP h1
theorem sexpectedM (hP : P.Ok) (hu : s.us ≤ 9000) (H : TrkM w B M t P s) :
    Calls Try.prog 25 #[.pointer (some ⟨t, 0, none⟩)] w fun e w' => (∃ A c, e = .returned (.slice A s.E.length c) ∧ eX.Own w' w.heap.size (.slice A s.E.length c) (s.E.map (ag s.L))) ∧ Fr [] w w' := by
  obtain ⟨tb, b, base, v, h1, h2, h3⟩ := H
  exact sexpectedP hP hu h1
theorem snewM (hP : P.Ok) (w : World) :
    Calls Try.prog 14 #[.int .i64 P.most, .int .i64 P.size, .int .i64 P.life, .int .i64 P.deg, .int .i64 P.blk] w fun e w' => (∃ t, e = .returned (.tuple #[.pointer (some ⟨t, 0, none⟩), .int .i64 0]) ∧ TrkM w' w.heap.size [] t P ⟨[], 0, 0, 0, []⟩) ∧ Fr [] w w' := by
  refine (snewP hP w).mono ?_
  rintro e w' ⟨⟨t, tb, b, base, rfl, T, h1, h2, h3⟩, F⟩
  exact ⟨⟨t, rfl, tb, b, base, _, T, by simp [Value.ownBlock]; omega, by simp⟩, F⟩
theorem TrkM.low {B' : Nat} (h : TrkM w B M t P s) (hB : B' ≤ B) : TrkM w B' M t P s := by
  obtain ⟨tb, b, base, v, h1, h2, h3⟩ := h
  exact ⟨tb, b, base, v, h1, fun x hx => Nat.le_trans hB (h2 x hx), h3⟩
end
set_option maxRecDepth 100000 in
set_option maxHeartbeats 8000000 in
theorem sawake (w : World) : Calls Try.prog 13 #[] w fun e w' => e = .returned (.bool true) ∧ Fr [] w w' := by
  have hP : (⟨2, 4, 9, 4, 100⟩ : Prm).Ok := ⟨by decide, by decide, by decide, by decide, by decide⟩
  have a1 : accR ⟨2, 4, 9, 4, 100⟩ 5 1 ⟨[], 0, 0, 0, []⟩ = ⟨0, 0, 0, 0, ⟨[], 1, 0, 1, [(6, 1)]⟩⟩ := by kernel_rfl
  have a2 : accR ⟨2, 4, 9, 4, 100⟩ 6 1 ⟨[], 1, 0, 1, [(6, 1)]⟩ = ⟨1, 7, 1, 0, ⟨[⟨1, 7, 8, 1, 0, 2⟩], 2, 1, 2, []⟩⟩ := by kernel_rfl
  have a3 : accR ⟨2, 4, 9, 4, 100⟩ 7 1 ⟨[⟨1, 7, 8, 1, 0, 2⟩], 2, 1, 2, []⟩ = ⟨1, 8, 2, 0, ⟨[⟨1, 8, 10, 2, 0, 3⟩], 3, 1, 2, []⟩⟩ := by kernel_rfl
  have a4 : accR ⟨2, 4, 9, 4, 100⟩ 100 1 ⟨[⟨1, 8, 10, 2, 0, 3⟩], 3, 1, 2, []⟩ = ⟨0, 0, 0, 1, ⟨[⟨1, 8, 10, 2, 0, 3⟩], 3, 1, 2, []⟩⟩ := by kernel_rfl
  have HN := Lib.hid (fun w => snewM hP w)
  have C1 := Lib.hid (fun w B M t (h : TrkM w B M t ⟨2, 4, 9, 4, 100⟩ ⟨[], 0, 0, 0, []⟩) hB => saccessM hP 5 1 (by simp) hB h)
  have C2 := Lib.hid (fun w B M t (h : TrkM w B M t ⟨2, 4, 9, 4, 100⟩ ⟨[], 1, 0, 1, [(6, 1)]⟩) hB => saccessM hP 6 1 (by simp) hB h)
  have C3 := Lib.hid (fun w B M t (h : TrkM w B M t ⟨2, 4, 9, 4, 100⟩ ⟨[⟨1, 7, 8, 1, 0, 2⟩], 2, 1, 2, []⟩) hB => saccessM hP 7 1 (by simp) hB h)
  have C4 := Lib.hid (fun w B M t (h : TrkM w B M t ⟨2, 4, 9, 4, 100⟩ ⟨[⟨1, 8, 10, 2, 0, 3⟩], 3, 1, 2, []⟩) hB => saccessM hP 100 1 (by simp) hB h)
  rw [a1] at C1
  rw [a2] at C2
  rw [a3] at C3
  rw [a4] at C4
  have HP := Lib.hid hP
  have heq1 := eq_fnd
  have heq2 := eq_str
  clear a1 a2 a3 a4 hP
  go_enter Try.func13, Try.ntmps13
  go_wp2_with fail
  with_reducible refine (HN.out _).mono ?_
  rintro e w1 ⟨⟨t, rfl, T1⟩, F1⟩
  have T1 := Lib.hid T1
  go_wp2_with fail
  with_reducible refine (snew_no 0 4 9 4 100 (by kernel_rfl) _).mono ?_
  rintro e w2 ⟨rfl, f2⟩
  have F2 := F1.trans f2
  have T2 := Lib.hid (T1.out.fr0 f2)
  clear T1 F1 f2
  go_wp2_with fail
  with_reducible refine (C1.out _ _ _ _ T2.out F2.size).mono ?_
  rintro e w3 ⟨rfl, T3, K3⟩
  have F3 := K3.fr F2 (Nat.le_refl _)
  have T3 := Lib.hid T3
  clear T2 F2 K3
  go_wp2_with fail
  have f9 : Fr [] w3 (w3.alloc (.cells #[.int .i64 0, .int .i64 0, .int .i64 0] 38)) := (by repeat' (first | (with_reducible exact Fr.refl _ _) | (with_reducible assumption) | (with_reducible refine Fr.drew ?_) | (with_reducible refine Fr.drewN ?_ _) | (with_reducible refine Fr.alloc ?_ _) | ((with_reducible refine Fr.setNew ?_ _ ?_ _); rotate_left; (focus (first | (with_reducible assumption) | exact Nat.le_of_lt (by with_reducible assumption) | (focus (simp +arith; done)) | exact Nat.le_trans (by with_reducible assumption) (by simp +arith; done) | (simp; done)))) | ((with_reducible refine Fr.setOld ?_ _ ?_ _); rotate_left; (focus (simp; done)))))
  have Z1 : (w3.alloc (.cells #[.int .i64 0, .int .i64 0, .int .i64 0] 38)).heap[w3.heap.size]? = some (.cells #[.int .i64 0, .int .i64 0, .int .i64 0] 38) := by (apply heap_eq_of; (focus (repeat (first | (with_reducible assumption) | ((with_reducible refine heap_alloc_at ?_ _); first | (with_reducible rfl) | (focus (simp; done))) | (with_reducible apply heap_alloc_old) | ((with_reducible apply heap_set_other); (case hne => (first | (with_reducible assumption) | exact Nat.ne_of_lt (by with_reducible assumption) | exact Nat.ne_of_gt (by with_reducible assumption) | (focus (simp +arith; done)) | (simp; done)))) | (with_reducible apply heap_set_eq) | (with_reducible apply heap_drew_of) | (with_reducible apply heap_drewN_of)))); (focus (first | (simp; done) | rfl)))
  have z9 : (w3.alloc (.cells #[.int .i64 0, .int .i64 0, .int .i64 0] 38)).heap.size = w3.heap.size + 1 := by simp
  have T9 := Lib.hid (T3.out.turn (M' := [w3.heap.size]) f9 (by simp) (fun x hx => by
    rcases List.mem_cons.1 hx with rfl | hx
    · exact Or.inr ⟨Nat.le_refl _, by omega⟩
    · exact Or.inl hx))
  have F9 := F3.trans f9
  clear f9 z9 T3 F3
  generalize (w3.alloc (.cells #[.int .i64 0, .int .i64 0, .int .i64 0] 38)) = x1 at *
  generalize w3.heap.size = q1 at *
  with_reducible refine (C2.out _ _ _ _ T9.out F9.size).mono ?_
  rintro e w4 ⟨rfl, U9, K9⟩
  have F3 := K9.fr F9 (Nat.le_refl _)
  have T3 := Lib.hid U9
  have Z1 := K9.heap Z1 (by simp)
  clear T9 F9 U9 K9
  go_wp2_with fail
  have f9 : Fr [] w4 (w4.alloc (.cells #[.int .i64 1, .int .i64 7, .int .i64 1] 38)) := (by repeat' (first | (with_reducible exact Fr.refl _ _) | (with_reducible assumption) | (with_reducible refine Fr.drew ?_) | (with_reducible refine Fr.drewN ?_ _) | (with_reducible refine Fr.alloc ?_ _) | ((with_reducible refine Fr.setNew ?_ _ ?_ _); rotate_left; (focus (first | (with_reducible assumption) | exact Nat.le_of_lt (by with_reducible assumption) | (focus (simp +arith; done)) | exact Nat.le_trans (by with_reducible assumption) (by simp +arith; done) | (simp; done)))) | ((with_reducible refine Fr.setOld ?_ _ ?_ _); rotate_left; (focus (simp; done)))))
  have Z2 : (w4.alloc (.cells #[.int .i64 1, .int .i64 7, .int .i64 1] 38)).heap[w4.heap.size]? = some (.cells #[.int .i64 1, .int .i64 7, .int .i64 1] 38) := by (apply heap_eq_of; (focus (repeat (first | (with_reducible assumption) | ((with_reducible refine heap_alloc_at ?_ _); first | (with_reducible rfl) | (focus (simp; done))) | (with_reducible apply heap_alloc_old) | ((with_reducible apply heap_set_other); (case hne => (first | (with_reducible assumption) | exact Nat.ne_of_lt (by with_reducible assumption) | exact Nat.ne_of_gt (by with_reducible assumption) | (focus (simp +arith; done)) | (simp; done)))) | (with_reducible apply heap_set_eq) | (with_reducible apply heap_drew_of) | (with_reducible apply heap_drewN_of)))); (focus (first | (simp; done) | rfl)))
  have z9 : (w4.alloc (.cells #[.int .i64 1, .int .i64 7, .int .i64 1] 38)).heap.size = w4.heap.size + 1 := by simp
  have Z1 := f9.heap Z1 (by simp)
  have T9 := Lib.hid (T3.out.turn (M' := [w4.heap.size, q1]) f9 (by simp) (fun x hx => by
    rcases List.mem_cons.1 hx with rfl | hx
    · exact Or.inr ⟨Nat.le_refl _, by omega⟩
    · exact Or.inl hx))
  have F9 := F3.trans f9
  clear f9 z9 T3 F3
  generalize (w4.alloc (.cells #[.int .i64 1, .int .i64 7, .int .i64 1] 38)) = x2 at *
  generalize w4.heap.size = q2 at *
  with_reducible refine (C3.out _ _ _ _ T9.out F9.size).mono ?_
  rintro e w5 ⟨rfl, U9, K9⟩
  have F3 := K9.fr F9 (Nat.le_refl _)
  have T3 := Lib.hid U9
  have Z1 := K9.heap Z1 (by simp)
  have Z2 := K9.heap Z2 (by simp)
  clear T9 F9 U9 K9
  go_wp2_with fail
  have f9 : Fr [] w5 (w5.alloc (.cells #[.int .i64 1, .int .i64 8, .int .i64 2] 38)) := (by repeat' (first | (with_reducible exact Fr.refl _ _) | (with_reducible assumption) | (with_reducible refine Fr.drew ?_) | (with_reducible refine Fr.drewN ?_ _) | (with_reducible refine Fr.alloc ?_ _) | ((with_reducible refine Fr.setNew ?_ _ ?_ _); rotate_left; (focus (first | (with_reducible assumption) | exact Nat.le_of_lt (by with_reducible assumption) | (focus (simp +arith; done)) | exact Nat.le_trans (by with_reducible assumption) (by simp +arith; done) | (simp; done)))) | ((with_reducible refine Fr.setOld ?_ _ ?_ _); rotate_left; (focus (simp; done)))))
  have Z3 : (w5.alloc (.cells #[.int .i64 1, .int .i64 8, .int .i64 2] 38)).heap[w5.heap.size]? = some (.cells #[.int .i64 1, .int .i64 8, .int .i64 2] 38) := by (apply heap_eq_of; (focus (repeat (first | (with_reducible assumption) | ((with_reducible refine heap_alloc_at ?_ _); first | (with_reducible rfl) | (focus (simp; done))) | (with_reducible apply heap_alloc_old) | ((with_reducible apply heap_set_other); (case hne => (first | (with_reducible assumption) | exact Nat.ne_of_lt (by with_reducible assumption) | exact Nat.ne_of_gt (by with_reducible assumption) | (focus (simp +arith; done)) | (simp; done)))) | (with_reducible apply heap_set_eq) | (with_reducible apply heap_drew_of) | (with_reducible apply heap_drewN_of)))); (focus (first | (simp; done) | rfl)))
  have z9 : (w5.alloc (.cells #[.int .i64 1, .int .i64 8, .int .i64 2] 38)).heap.size = w5.heap.size + 1 := by simp
  have Z1 := f9.heap Z1 (by simp)
  have Z2 := f9.heap Z2 (by simp)
  have T9 := Lib.hid (T3.out.turn (M' := [w5.heap.size, q2, q1]) f9 (by simp) (fun x hx => by
    rcases List.mem_cons.1 hx with rfl | hx
    · exact Or.inr ⟨Nat.le_refl _, by omega⟩
    · exact Or.inl hx))
  have F9 := F3.trans f9
  clear f9 z9 T3 F3
  generalize (w5.alloc (.cells #[.int .i64 1, .int .i64 8, .int .i64 2] 38)) = x3 at *
  generalize w5.heap.size = q3 at *
  with_reducible refine (C4.out _ _ _ _ T9.out F9.size).mono ?_
  rintro e w6 ⟨rfl, U9, K9⟩
  have F3 := K9.fr F9 (Nat.le_refl _)
  have T3 := Lib.hid U9
  have Z1 := K9.heap Z1 (by simp)
  have Z2 := K9.heap Z2 (by simp)
  have Z3 := K9.heap Z3 (by simp)
  clear T9 F9 U9 K9
  go_wp2_with fail
  have f9 : Fr [] w6 (w6.alloc (.cells #[.int .i64 0, .int .i64 0, .int .i64 0] 38)) := (by repeat' (first | (with_reducible exact Fr.refl _ _) | (with_reducible assumption) | (with_reducible refine Fr.drew ?_) | (with_reducible refine Fr.drewN ?_ _) | (with_reducible refine Fr.alloc ?_ _) | ((with_reducible refine Fr.setNew ?_ _ ?_ _); rotate_left; (focus (first | (with_reducible assumption) | exact Nat.le_of_lt (by with_reducible assumption) | (focus (simp +arith; done)) | exact Nat.le_trans (by with_reducible assumption) (by simp +arith; done) | (simp; done)))) | ((with_reducible refine Fr.setOld ?_ _ ?_ _); rotate_left; (focus (simp; done)))))
  have Z4 : (w6.alloc (.cells #[.int .i64 0, .int .i64 0, .int .i64 0] 38)).heap[w6.heap.size]? = some (.cells #[.int .i64 0, .int .i64 0, .int .i64 0] 38) := by (apply heap_eq_of; (focus (repeat (first | (with_reducible assumption) | ((with_reducible refine heap_alloc_at ?_ _); first | (with_reducible rfl) | (focus (simp; done))) | (with_reducible apply heap_alloc_old) | ((with_reducible apply heap_set_other); (case hne => (first | (with_reducible assumption) | exact Nat.ne_of_lt (by with_reducible assumption) | exact Nat.ne_of_gt (by with_reducible assumption) | (focus (simp +arith; done)) | (simp; done)))) | (with_reducible apply heap_set_eq) | (with_reducible apply heap_drew_of) | (with_reducible apply heap_drewN_of)))); (focus (first | (simp; done) | rfl)))
  have z9 : (w6.alloc (.cells #[.int .i64 0, .int .i64 0, .int .i64 0] 38)).heap.size = w6.heap.size + 1 := by simp
  have Z1 := f9.heap Z1 (by simp)
  have Z2 := f9.heap Z2 (by simp)
  have Z3 := f9.heap Z3 (by simp)
  have T9 := Lib.hid (T3.out.turn (M' := [w6.heap.size, q3, q2, q1]) f9 (by simp) (fun x hx => by
    rcases List.mem_cons.1 hx with rfl | hx
    · exact Or.inr ⟨Nat.le_refl _, by omega⟩
    · exact Or.inl hx))
  have F9 := F3.trans f9
  clear f9 z9 T3 F3
  generalize (w6.alloc (.cells #[.int .i64 0, .int .i64 0, .int .i64 0] 38)) = x4 at *
  generalize w6.heap.size = q4 at *
  with_reducible refine (sstreamsM HP.out T9.out).mono ?_
  rintro e y1 ⟨⟨A, c, rfl, O1⟩, f9⟩
  have T1 := Lib.hid (T9.out.fr0 f9)
  have F1 := F9.trans f9
  have Z1 := f9.heap Z1 (by simp)
  have Z2 := f9.heap Z2 (by simp)
  have Z3 := f9.heap Z3 (by simp)
  have Z4 := f9.heap Z4 (by simp)
  obtain ⟨_, _, he, _, hx | ⟨bb, off, rfl, hbb, hM, hcl⟩⟩ := O1.sl (M := []) (by simp)
  · simp at hx
  injection he with e1 _ e3
  subst e3
  obtain ⟨c0, c1, c2, c3, c4, c5⟩ := esat (i := 0) hcl rfl
  subst e1
  simp only [Nat.zero_mul, Nat.add_zero] at c0 c1 c2 c3 c4 c5
  clear hcl T9 F9 f9 O1
  apply blk_use Z1; intro hg1 hc1 hz1 _ _ _ _ _
  apply blk_use Z2; intro hg2 hc2 hz2 _ _ _ _ _
  apply blk_use Z3; intro hg3 hc3 hz3 _ _ _ _ _
  go_wp2_with fail
  with_reducible refine (slateM HP.out 1 T1.out).mono ?_
  rintro e y2 ⟨rfl, U9, K9⟩
  have T2 := Lib.hid U9
  have F2 := K9.fr F1 (Nat.le_refl _)
  clear U9 K9 T1 F1 hg1 hc1 hz1 hg2 hc2 hz2 hg3 hc3 hz3 c0 c1 c2 c3 c4 c5
  go_wp2_with fail
  with_reducible refine (swasteM HP.out 2 T2.out).mono ?_
  rintro e y3 ⟨rfl, U9, K9⟩
  have T3 := Lib.hid U9
  have F3 := K9.fr F2 (Nat.le_refl _)
  clear U9 K9 T2 F2
  go_wp2_with fail
  with_reducible refine (sexpectedM HP.out (by simp [tuneS]) T3.out).mono ?_
  rintro e y4 ⟨⟨A2, c2, rfl, O2⟩, f9⟩
  go_wp2_with fail
  go_ret
  exact ⟨rfl, F3.trans f9⟩
end Go.Proofs.Ytoapobhdpgcmbaa
