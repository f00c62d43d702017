/- Package stream: each call as its users need it. -/
import Derived.Test.YtoapobhdpgcmbaaStr10
namespace Go.Proofs.Ytoapobhdpgcmbaa
open Go.RowKit Go.Lib

/-- A tracker at its blocks, of which holds what always holds. -/
def TrkP (w : World) (t tb b base : Nat) (P : Prm) (v : Value) (s : TS) : Prop := TrkS w t tb b base P.size P.life P.most P.deg P.blk v s ∧ SOk P s
/-- A tracker's blocks. -/
abbrev trkN (t tb b : Nat) (v : Value) : List Nat := t :: tb :: b :: v.ownBlock.toList
section
variable {w w' : World} {t tb b base : Nat} {P : Prm} {v : Value} {s : TS}
theorem TrkP.fr {S : List Nat} (h : TrkP w t tb b base P v s) (f : Fr S w w') (hS : ∀ x ∈ S, x ∉ trkN t tb b v) : TrkP w' t tb b base P v s := by
  obtain ⟨h1, h2⟩ := h
  unfold TrkS at h1
  refine ⟨?_, h2⟩
  unfold TrkS
  exact h1.frA f (fun q => hS _ q (by simp)) (fun q => hS _ q (by simp)) (fun q => hS _ q (by simp)) (fun x hx q => hS _ q (by simp [hx]))
theorem TrkP.fr0 (h : TrkP w t tb b base P v s) (f : Fr [] w w') : TrkP w' t tb b base P v s := h.fr f (by simp)
theorem TrkP.lt (h : TrkP w t tb b base P v s) : ∀ x ∈ trkN t tb b v, x < w.heap.size := by
  obtain ⟨h1, h2⟩ := h
  unfold TrkS at h1
  intro x hx
  have l1 := h1.lt
  have l2 := h1.bs
  rcases List.mem_cons.1 hx with rfl | hx
  · omega
  rcases List.mem_cons.1 hx with rfl | hx
  · omega
  rcases List.mem_cons.1 hx with rfl | hx
  · omega
  · exact h1.ow.lt _ hx
theorem TrkP.ok (h : TrkP w t tb b base P v s) : SOk P s := h.2
theorem accV_eq (P : Prm) (f c : Int) (s : TS) : accV P.deg P.blk c (accM P.most P.size P.life f c s) = .agg #[.int .i64 (accQ P c (accM P.most P.size P.life f c s)).id, .int .i64 (accQ P c (accM P.most P.size P.life f c s)).af, .int .i64 (accQ P c (accM P.most P.size P.life f c s)).an] := by
  have h : (accM P.most P.size P.life f c s).1 = true → ∃ x, (accM P.most P.size P.life f c s).2.2.xs[(accM P.most P.size P.life f c s).2.1]? = some x := by
    obtain ⟨f1, f2⟩ := fndS_lt f s.xs
    unfold accM
    split
    · intro _; exact ⟨_, List.getElem?_eq_getElem (by simp only; omega)⟩
    · split
      · intro _; simp
      · simp
  generalize accM P.most P.size P.life f c s = R at *
  by_cases h1 : R.1 = true
  · obtain ⟨x, hx⟩ := h h1
    unfold accV accQ
    simp only [h1, if_true]; rw [hx]
  · unfold accV accQ
    rw [if_neg h1, if_neg h1]
theorem accQ_s (P : Prm) (c : Int) (R : Bool × Nat × TS) : (accQ P c R).s = accT P.deg P.blk c R := by
  unfold accQ; split
  · split <;> rfl
  · rfl
theorem saccess (hP : P.Ok) (f c : Int) (hu : s.us ≤ 9000) (H : TrkP w t tb b base P v s) :
    Calls Try.prog 17 #[.pointer (some ⟨t, 0, none⟩), .int .i64 f, .int .i64 c] w fun e w' => e = .returned (.tuple #[.agg #[.int .i64 (accR P f c s).id, .int .i64 (accR P f c s).af, .int .i64 (accR P f c s).an], .int .i64 (accR P f c s).cd]) ∧ (∃ v', TrkP w' t tb b base P v' (accR P f c s).s ∧ ∀ y ∈ v'.ownBlock.toList, y ∈ v.ownBlock.toList ∨ w.heap.size ≤ y) ∧ Fr (trkN t tb b v) w w' := by
  have hA := H.ok.acc hP f c
  obtain ⟨h1, h2⟩ := H
  unfold TrkS at h1
  by_cases hb : badA P f c
  · have e : accR P f c s = ⟨0, 0, 0, 1, s⟩ := by unfold accR; rw [if_pos hb]
    rw [e]
    refine (sacc_no f c hb hP.bl h1).mono ?_
    rintro e w' ⟨rfl, F⟩
    exact ⟨rfl, ⟨v, ⟨h1.fr0 F, h2⟩, fun y hy => Or.inl hy⟩, F.mono (by simp)⟩
  · have e : accR P f c s = accQ P c (accM P.most P.size P.life f c s) := by unfold accR; rw [if_neg hb]
    have hs := accQ_s P c (accM P.most P.size P.life f c s)
    have hv := accV_eq P f c s
    rw [e] at hA ⊢
    have hcd : (accQ P c (accM P.most P.size P.life f c s)).cd = 0 := by
      unfold accQ; split
      · split <;> rfl
      · rfl
    unfold badA at hb
    have q0 := h2.la0
    have q1 := h2.lau
    have q2 := h2.cl
    refine (sacc_ok (us := s.us) (la := s.la) (L := s.L) (E := s.E) (xs := s.xs) f c (by omega) (by omega) (by omega) (by omega) hP.bl hP.mo h2.len ⟨by omega, by omega⟩ ⟨q0, by omega⟩ (by omega) hP.si.1 hP.si.2 hP.li.1 hP.li.2 h2.tap h2.may hP.dg h1).mono ?_
    rintro e w' ⟨⟨v', rfl, T, U⟩, F⟩
    have hv' : accV P.deg P.blk c (accM P.most P.size P.life f c ⟨s.xs, s.us, s.la, s.L, s.E⟩) = _ := hv
    rw [hv', hcd]
    exact ⟨rfl, ⟨v', ⟨by rw [hs]; exact T, hA⟩, U⟩, F⟩
theorem amay_pp {n a p g d b : Int} (h : amayB n a p g d b = true) (hd : d ≤ 16) : p ≤ 16 := by
  have := (amayB_iff n a p g d b).1 h; omega
theorem slateP (hP : P.Ok) (id : Int) (H : TrkP w t tb b base P v s) :
    Calls Try.prog 19 #[.pointer (some ⟨t, 0, none⟩), .int .i64 id] w fun e w' => e = .returned (.bool (decide (0 ≤ idxS id s.xs))) ∧ TrkP w' t tb b base P v (tuneS true id s) ∧ Fr (trkN t tb b v) w w' := by
  obtain ⟨h1, h2⟩ := H
  unfold TrkS at h1
  refine (slate id (by have := h2.len; have := hP.mo; omega) (fun x hx => amay_pp (h2.may x hx) hP.dg.2) h1).mono ?_
  rintro e w' ⟨rfl, T, F⟩
  exact ⟨rfl, ⟨T, h2.tune true id⟩, F.mono (fun x hx => by simp [hx])⟩
theorem swasteP (hP : P.Ok) (id : Int) (H : TrkP w t tb b base P v s) :
    Calls Try.prog 21 #[.pointer (some ⟨t, 0, none⟩), .int .i64 id] w fun e w' => e = .returned (.bool (decide (0 ≤ idxS id s.xs))) ∧ TrkP w' t tb b base P v (tuneS false id s) ∧ Fr (trkN t tb b v) w w' := by
  obtain ⟨h1, h2⟩ := H
  unfold TrkS at h1
  refine (swaste id (by have := h2.len; have := hP.mo; omega) (fun x hx => amay_pp (h2.may x hx) hP.dg.2) h1).mono ?_
  rintro e w' ⟨rfl, T, F⟩
  exact ⟨rfl, ⟨T, h2.tune false id⟩, F.mono (fun x hx => by simp [hx])⟩
/-- The streams: a row of the call's own. -/
theorem sstreamsP (hP : P.Ok) (H : TrkP w t tb b base P v s) :
    Calls Try.prog 23 #[.pointer (some ⟨t, 0, none⟩)] w fun e w' => (∃ A c, e = .returned (.slice A s.xs.length c) ∧ eS.Own w' w.heap.size (.slice A s.xs.length c) s.xs) ∧ Fr [] w w' := by
  obtain ⟨h1, h2⟩ := H
  unfold TrkS at h1
  refine (sstreams (by have := h2.len; have := hP.mo; omega) h1).mono ?_
  rintro e w' ⟨⟨v', rfl, O⟩, F⟩
  obtain ⟨A, c, rfl⟩ := O.shape
  exact ⟨⟨A, c, rfl, O⟩, F⟩
theorem sexpectedP (hP : P.Ok) (hu : s.us ≤ 9000) (H : TrkP w t tb b base P v s) :
    Calls Try.prog 25 #[.pointer (some ⟨t, 0, none⟩)] w fun e w' => (∃ A c, e = .returned (.slice A s.E.length c) ∧ eX.Own w' w.heap.size (.slice A s.E.length c) (s.E.map (ag s.L))) ∧ Fr [] w w' := by
  obtain ⟨h1, h2⟩ := H
  unfold TrkS at h1
  exact sexpected (by have := h2.cl; omega) hP.si.2 h2.tap h1
theorem Prm.ok_iff (P : Prm) : snewB P.most P.size P.life P.deg P.blk = true ↔ P.Ok := by
  simp only [snewB, Bool.and_eq_true, decide_eq_true_eq]
  constructor
  · rintro ⟨⟨a, b1, b2, b3, b4⟩, c1, c2, c3, c4⟩
    exact ⟨a, ⟨b1, b2⟩, ⟨b3, b4⟩, ⟨c1, c2⟩, c3, c4⟩
  · rintro ⟨a, ⟨b1, b2⟩, ⟨b3, b4⟩, ⟨c1, c2⟩, c3, c4⟩
    exact ⟨⟨a, b1, b2, b3, b4⟩, c1, c2, c3, c4⟩
theorem snewP (hP : P.Ok) (w : World) :
    Calls Try.prog 14 #[.int .i64 P.most, .int .i64 P.size, .int .i64 P.life, .int .i64 P.deg, .int .i64 P.blk] w fun e w' => (∃ t tb b base, e = .returned (.tuple #[.pointer (some ⟨t, 0, none⟩), .int .i64 0]) ∧ TrkP w' t tb b base P (.slice none 0 0) ⟨[], 0, 0, 0, []⟩ ∧ w.heap.size ≤ t ∧ w.heap.size ≤ tb ∧ w.heap.size ≤ b) ∧ Fr [] w w' := by
  refine (snew_ok P.most P.size P.life P.deg P.blk (P.ok_iff.2 hP) w).mono ?_
  rintro e w' ⟨⟨t, tb, b, base, rfl, T, h⟩, F⟩
  exact ⟨⟨t, tb, b, base, rfl, ⟨T, SOk.new P hP⟩, h⟩, F⟩
end
end Go.Proofs.Ytoapobhdpgcmbaa
