/- Package req: Take, Touched. -/
import Derived.Test.YtobekkgaildbgaaReq4
namespace Go.Proofs.Ytobekkgaildbgaa
open Go.RowKit Go.Lib Go.Maps

/-- The blocks of the answers' values. -/
def ansV (xs : List AV) : List Nat := xs.flatMap fun x => if x.n = 0 then [] else x.v.ownBlock.toList
section
variable {w w' : World} {B t b base : Nat} {M M' N L : List Nat} {room : Int} {v : Value} {xs : List AV} {K : List Ans} {S : RS}
theorem Sl_blk {α : Type} {E : El α} {A : Option Addr} {n c : Nat} {l : List α} (h : E.Sl L w (.slice A n c) l) (hn : n ≠ 0) : ∀ y ∈ (Value.slice A n c).ownBlock.toList, y ∉ L ∧ y < w.heap.size := by
  obtain ⟨A', c', he, _, h0 | ⟨b, off, rfl, hb, hM, _⟩⟩ := h
  · injection he with _ e2 _
    rw [h0] at e2; exact absurd e2 hn
  · injection he with e1 _ _
    subst e1
    intro y hy
    simp [Value.ownBlock] at hy
    subst hy; exact ⟨hM, hb⟩
theorem AnsR.blk : ∀ {xs : List AV} {K : List Ans}, AnsR w L xs K → ∀ y ∈ ansV xs, y ∉ L ∧ y < w.heap.size
  | [], [], _, y, hy => by simp [ansV] at hy
  | x :: xs, a :: K, h, y, hy => by
    unfold ansV at hy
    rw [List.flatMap_cons, List.mem_append] at hy
    rcases hy with hy | hy
    · split at hy
      · simp at hy
      · exact Sl_blk h.1.2.2 (by assumption) y hy
    · exact AnsR.blk h.2 y hy
  | [], _ :: _, h, _, _ => h.elim
  | _ :: _, [], h, _, _ => h.elim
theorem AnsR.keep : ∀ {xs : List AV} {K : List Ans}, AnsR w L xs K → KeepM B M w w' → (∀ y ∈ ansV xs, y ∈ M) → AnsR w' L xs K
  | [], [], _, _, _ => trivial
  | x :: xs, a :: K, h, k, hM => by
    have h2 := AnsR.keep h.2 k (fun y hy => hM y (by unfold ansV at hy ⊢; rw [List.flatMap_cons]; exact List.mem_append_right _ hy))
    refine ⟨⟨h.1.1, h.1.2.1, ?_⟩, h2⟩
    by_cases hn : x.n = 0
    · obtain ⟨A', c', he, hc, _⟩ := h.1.2.2
      injection he with e1 e2 e3
      have : a.vs = [] := List.length_eq_zero_iff.1 (by rw [← e2]; exact hn)
      exact ⟨A', c', by unfold AV.v; rw [e1, e2, e3], hc, Or.inl this⟩
    · exact k.sl h.1.2.2 (fun y hy => hM y (by unfold ansV; rw [List.flatMap_cons, if_neg hn]; exact List.mem_append_left _ hy))
  | [], _ :: _, h, _, _ => h.elim
  | _ :: _, [], h, _, _ => h.elim
/-- The blocks of answers that were taken. -/
def ansB (v : Value) (xs : List AV) : List Nat := v.ownBlock.toList ++ ansV xs
set_option maxRecDepth 100000 in
set_option maxHeartbeats 4000000 in
theorem qtake (H : ReqM w B M t room S) :
    Calls Try.prog 42 #[.pointer (some ⟨t, 0, none⟩)] w fun e w' => (∃ A c xs, e = .returned (.slice A xs.length c) ∧ eA.Sl [] w' (.slice A xs.length c) xs ∧ AnsR w' [] xs S.K ∧ ReqM w' B (ansB (.slice A xs.length c) xs ++ M) t room ⟨S.E, []⟩) ∧ KeepM B M w w' := by
  obtain ⟨b, base, v, xs, H⟩ := H
  have HT := H.ht
  obtain ⟨A, c, rfl⟩ := H.ow.shape
  have HH := Lib.hid H
  clear H
  apply blk_use HT; intro hg1 hc1 hz1 _ _ _ _ _
  go_enter Try.func42, Try.ntmps42
  go_wp2
  go_ret
  have f : Fr [t] w (w.setCell ⟨t, 2, none⟩ (.slice none 0 0)) := Fr.setOld (Fr.refl _ _) _ (by simp) _
  have H := HH.out
  have hl := H.lt
  have ho := H.own
  have hz := f.size
  have hb := H.av.blk
  refine ⟨⟨A, c, xs, rfl, ((H.ow.sl (M := [t]) (by simp; omega)).fr f (by simp)).mono (by simp), (H.av.fr f (by simp)).imp (fun _ _ q => q.mono (by simp)), b, base, .slice none 0 0, [], ?_⟩, KeepM.of f (by simpa using ⟨H.bb.1, H.mt.1⟩)⟩
  refine ⟨by (apply heap_eq_of; (focus (repeat (first | (with_reducible assumption) | ((with_reducible refine heap_alloc_at ?_ _); first | (with_reducible rfl) | (focus (simp; done))) | (with_reducible apply heap_alloc_old) | ((with_reducible apply heap_set_other); (case hne => (first | (with_reducible assumption) | exact Nat.ne_of_lt (by with_reducible assumption) | exact Nat.ne_of_gt (by with_reducible assumption) | (focus (simp +arith; done)) | (simp; done)))) | (with_reducible apply heap_set_eq) | (with_reducible apply heap_drew_of) | (with_reducible apply heap_drewN_of)))); (focus (first | (simp; done) | rfl))), H.mp.fr f (by simpa using H.ne.symm), H.e8, El.Own.nil _ _ _, trivial, by omega, H.ne, H.bb, ⟨?_, ?_, by simp [Value.ownBlock]⟩, ?_⟩
  · intro h
    rcases List.mem_append.1 h with h | h
    · rcases List.mem_append.1 h with h | h
      · exact (ho t h).2.2.1 rfl
      · exact (hb t h).1 (by simp)
    · exact H.mt.1 h
  · intro h
    rcases List.mem_append.1 h with h | h
    · rcases List.mem_append.1 h with h | h
      · exact (ho b h).2.2.2 rfl
      · exact (hb b h).1 (by simp)
    · exact H.mt.2.1 h
  · intro y h
    rcases List.mem_append.1 h with h | h
    · rcases List.mem_append.1 h with h | h
      · have := (ho y h).2.1; omega
      · have := (hb y h).2; omega
    · have := H.ms y h; omega
def touchedR (id : Int) (S : RS) : Bool := match getg id S.E with
  | none => false
  | some r => decide (r.ps ≠ freshP (sizeP r.ps))
end
end Go.Proofs.Ytobekkgaildbgaa
