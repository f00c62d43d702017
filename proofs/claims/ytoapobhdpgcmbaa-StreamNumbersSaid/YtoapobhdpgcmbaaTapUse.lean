/- tap and its reference, each call as its users need it; awake. -/
import Derived.Test.YtoapobhdpgcmbaaTapLaw
import Derived.Test.YtoapobhdpgcmbaaTapRef3
namespace Go.Proofs.Ytoapobhdpgcmbaa
open Go.RowKit Go.Sort Go.Lib

theorem pcells_cs : ∀ l : List (Int × Int), pcells l = eX.cs l
  | [] => rfl
  | p :: r => by simp [pcells, El.cs, eX, pcells_cs r]
theorem OwnP.el {w : World} {base : Nat} {v : Value} {xs : List (Int × Int)} (h : OwnP w base v xs) : eX.Own w base v xs := by
  unfold OwnP at h; rw [pcells_cs] at h; exact h

section
variable {size life L : Int} {E : List (Int × Int)} {t b : Nat} {w : World}
theorem tlook (f c : Int) (hL2 : L < 10000) (hs1 : 1 ≤ size) (hs2 : size ≤ 32) (hl1 : 1 ≤ life) (hl2 : life ≤ 64) (K : TapOk size (L, E)) (H : TapAt w t b size life L E) :
    Calls Try.prog 50 #[.pointer (some ⟨t, 0, none⟩), .int .i64 f, .int .i64 c] w fun e w' => e = .returned (.tuple #[.bool (lookB life f c (L, E)), .int .i64 (lookC f c)]) ∧ TapAt w' t b size life (lookE size life f c (L, E)).1 (lookE size life f c (L, E)).2 ∧ Fr [t, b] w w' := by
  by_cases h : f < 0 ∨ 1048576 < f ∨ c < 1 ∨ 8 < c
  · have e1 : lookB life f c (L, E) = false := by unfold lookB; rw [if_pos h]
    have e2 : lookC f c = 1 := by unfold lookC; rw [if_pos h]
    have e3 : lookE size life f c (L, E) = (L, E) := by unfold lookE; rw [if_pos h]
    rw [e1, e2, e3]
    exact tlook_arg t b size life L E f c h w H
  · have e2 : lookC f c = 0 := by unfold lookC; rw [if_neg h]
    rw [e2]
    exact tlook_ok t b size life L E f c h hL2 hs1 hs2 hl1 hl2 K w H
theorem tlookc (f c : Int) {L2 κ : Int} {E2 : List (Int × Int)} {β : Bool} (hE : lookE size life f c (L, E) = (L2, E2)) (hB : lookB life f c (L, E) = β) (hC : lookC f c = κ) (hL2 : L < 10000) (hs1 : 1 ≤ size) (hs2 : size ≤ 32) (hl1 : 1 ≤ life) (hl2 : life ≤ 64) (K : TapOk size (L, E)) (H : TapAt w t b size life L E) :
    Calls Try.prog 50 #[.pointer (some ⟨t, 0, none⟩), .int .i64 f, .int .i64 c] w fun e w' => e = .returned (.tuple #[.bool β, .int .i64 κ]) ∧ TapAt w' t b size life L2 E2 ∧ Fr [t, b] w w' := by
  have := tlook f c hL2 hs1 hs2 hl1 hl2 K H
  rw [hE, hB, hC] at this
  exact this
theorem tlistk (hL2 : L < 10000) (hs : size ≤ 32) (K : TapOk size (L, E)) (H : TapAt w t b size life L E) :
    Calls Try.prog 61 #[.pointer (some ⟨t, 0, none⟩)] w fun e w' => (∃ A c, e = .returned (.slice A E.length c) ∧ eX.Own w' w.heap.size (.slice A E.length c) (E.map (ag L))) ∧ Fr [] w w' := by
  refine (tlist t b size life L E K.lo (by omega) K.ages (by have := K.len; simp at this; omega) K.ord w H).mono ?_
  rintro e w' ⟨v, rfl, O, F⟩
  obtain ⟨A, c, rfl⟩ := O.el.shape
  rw [List.length_map] at O ⊢
  exact ⟨⟨A, c, rfl, O.el.mono (by omega)⟩, F⟩
variable {M : List Nat} {r : Nat} {xs : List (Int × Int)}
theorem rt_lookc (f c : Int) (hL2 : L < 900) (hs1 : 1 ≤ size) (hs2 : size ≤ 32) (K : TapOk size (L, E)) (H : RTap M w r size life (E.map (ag L))) :
    Calls Try.prog 53 #[.pointer (some ⟨r, 0, none⟩), .int .i64 f, .int .i64 c] w fun e w' => e = .returned (.tuple #[.bool (lookB life f c (L, E)), .int .i64 (lookC f c)]) ∧ RTap M w' r size life ((lookE size life f c (L, E)).2.map (ag (lookE size life f c (L, E)).1)) ∧ Fr [r] w w' := by
  by_cases h : f < 0 ∨ 1048576 < f ∨ c < 1 ∨ 8 < c
  · have e1 : lookB life f c (L, E) = false := by unfold lookB; rw [if_pos h]
    have e2 : lookC f c = 1 := by unfold lookC; rw [if_pos h]
    have e3 : lookE size life f c (L, E) = (L, E) := by unfold lookE; rw [if_pos h]
    rw [e1, e2, e3]
    refine (rt_look_arg r f c h).mono ?_
    rintro e w' ⟨rfl, F⟩
    exact ⟨rfl, H.fr F (by simp), F.mono (by simp)⟩
  · obtain ⟨q1, q2, q3⟩ := look_rel (life := life) (L := L) (E := E) h K.len
    have e2 : lookC f c = 0 := by unfold lookC; rw [if_neg h]
    have hx : ∀ p ∈ E.map (ag L), 0 ≤ p.2 ∧ p.2 ≤ 1000 := by
      intro p hp
      obtain ⟨x, hx, rfl⟩ := List.mem_map.1 hp
      have := K.ages x hx
      simp only [ag] at this ⊢
      omega
    have nd : (E.map (ag L)).Pairwise (fun p q => p.1 ≠ q.1) := by rw [List.pairwise_map]; exact K.nd
    have := rt_look (M := M) (w := w) r size life f c (E.map (ag L)) h hx nd (by have := K.len; simp at this ⊢; omega) hs1 H
    rw [q1, q2] at this
    rw [e2]
    exact this
end

set_option maxHeartbeats 1000000 in
theorem tnew_no (size life : Int) (h : ¬ (1 ≤ size ∧ size ≤ 32 ∧ 1 ≤ life ∧ life ≤ 64)) (w : World) :
    Calls Try.prog 44 #[.int .i64 size, .int .i64 life] w fun e w' => e = .returned (.tuple #[.pointer none, .int .i64 1]) ∧ w = w' := by
  go_enter Try.func44, Try.ntmps44
  go_wp2
  all_goals first
    | (exfalso; simp at *; omega)
    | (go_ret2; exact ⟨rfl, rfl⟩)

end Go.Proofs.Ytoapobhdpgcmbaa
