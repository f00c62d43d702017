/- Package req: Pending. -/
import Derived.Test.YtobekkgaildbgaaReq2
import Derived.Test.YtobekkgaildbgaaKeys
import Derived.Shelf.SlIterI.Nil
import Derived.Shelf.SortM.Plain
import Derived.Shelf.SortM.SortNone
namespace Go.Proofs.Ytobekkgaildbgaa
open Go.RowKit Go.Lib Go.Maps Go.Sort Go.Shelf

theorem sortsA (m : Nat) : AnyZI.SortsIn Try.prog Try.sortedA_ren Fence.wide m :=
  ⟨fun blk off cap ss W hH hblk hsz => callsIn_wide.2 (AnyM.slices_Sort_int Try.sortA blk off cap ss W hH hblk hsz),
   fun p cap W => callsIn_wide.2 (AnyM.slices_Sort_int_none Try.sortA p cap W)⟩
theorem qkeys (mb : Option Nat) (W : World) : Calls Try.prog 59 #[.map mb] W fun e w' => e = .returned (.func (.func 71) #[] #[.pointer (some ⟨W.heap.size, 0, none⟩)]) ∧ w' = W.alloc (.cells #[.map mb] 82) :=
  (callsIn_wide (n := 5)).1 (AnyZI.keys_in Try.keysA Fence.wide 5 trivial rfl mb W)
theorem intKeys_perm {l : List (Lit × DataW Value)} {E : List (Int × Rq)} (h : l.Perm (E.map mR.lp)) : (intKeys (.map l)).Perm (E.map Prod.fst) := by
  unfold intKeys
  refine (h.map _).trans ?_
  rw [List.map_map]
  exact List.Perm.of_eq (List.map_congr_left fun p _ => rfl)
theorem qsorted {w : World} {b : Nat} {E : List (Int × Rq)} (h : MapG mR w b E) (hl : E.length ≤ 100000) :
    Calls Try.prog 58 #[.func (.func 71) #[] #[.pointer (some ⟨w.heap.size, 0, none⟩)]] (w.alloc (.cells #[.map (some b)] 82)) fun e w' => (∃ v ks, e = .returned v ∧ eNi.Own w' w.heap.size v ks ∧ ks.Perm (E.map Prod.fst) ∧ ks.Pairwise (fun x y => x ≤ y)) ∧ Fr [] w w' := by
  obtain ⟨l, hown, hp, hk⟩ := h
  have hbl := hown.lt
  have hsz : Maps.size (DataW.map l : DataW Value) = E.length := by show l.length = _; rw [hp.length_eq]; simp
  have hseq : SeqGives Fence.wide 2 Try.prog 71 #[.pointer (some ⟨w.heap.size, 0, none⟩)] encZ (fun ss => ss.Perm (intKeys (DataW.map l : DataW Value))) (Maps.size (DataW.map l : DataW Value)) (w.alloc (.cells #[.map (some b)] 82)) :=
    AnyZI.keys_gives (ρ := Try.keysA_ren) { Try.keysA with } Fence.wide _ trivial rfl (by omega) w.heap.size b E.length _ _ (by simp) (by simp) (by
      obtain ⟨es, clock, hb, Ft, hs, hD⟩ := hown
      exact ⟨es, clock, (Below.heap_alloc _ _ b hbl).trans hb, Ft, hs, hD⟩)
  have cS := AnyZI.sorted_in Try.sortedA Fence.wide 5 trivial trivial trivial trivial rfl (by omega) (sortsA _) (enters_of Try.func54 (by kernel_rfl) rfl) 71 #[.pointer (some ⟨w.heap.size, 0, none⟩)] trivial (enters_of Try.func71 (by kernel_rfl) rfl) _ (Maps.size (DataW.map l : DataW Value)) (by rw [hsz]; unfold maxLen; omega) (by rw [hsz]; omega) _ hseq
  refine ((callsIn_wide (n := 5)).1 cS).mono ?_
  rintro e w' ⟨v, ss, rfl, hS, hrow, _, hb⟩
  have hperm := List.mergeSort_perm ss (fun x y => decide (x ≤ y))
  have hF : Fr [] (w.alloc (.cells #[.map (some b)] 82)) w' := Fr.of_below hb
  refine ⟨⟨v, _, rfl, ?_, hperm.trans (hS.trans (intKeys_perm hp)), ?_⟩, (Fr.alloc (Fr.refl [] w) _).trans hF⟩
  · have : eNi.Own w' (w.alloc (.cells #[.map (some b)] 82)).heap.size v (ss.mergeSort (fun x y => decide (x ≤ y))) := by
      unfold El.Own
      rw [hperm.length_eq, eNi_cs]
      exact hrow
    exact this.mono (by simp)
  · have := List.pairwise_mergeSort (le := fun x y : Int => decide (x ≤ y)) (fun a b c h1 h2 => by simp at *; omega) (fun a b => by simp; omega) ss
    exact this.imp (fun h => by simpa using h)
section
variable {w w' : World} {B t b base : Nat} {M M' N : List Nat} {room : Int} {v : Value} {xs : List AV} {S : RS}
set_option maxRecDepth 100000 in
set_option maxHeartbeats 4000000 in
theorem qpending (H : ReqM w B M t room S) (hE : S.E.length ≤ 1000) :
    Calls Try.prog 35 #[.pointer (some ⟨t, 0, none⟩)] w fun e w' => (∃ v ks, e = .returned v ∧ eNi.Own w' w.heap.size v ks ∧ ks.Perm (S.E.map Prod.fst) ∧ ks.Pairwise (fun x y => x ≤ y)) ∧ Fr [] w w' := by
  obtain ⟨b, base, v, xs, H⟩ := H
  have HT := H.ht
  have HS := Lib.hid (qsorted H.mp (by omega))
  clear H hE
  apply blk_use HT; intro hg1 hc1 hz1 _ _ _ _ _
  go_enter Try.func35, Try.ntmps35
  go_wp2_with fail
  with_reducible refine (qkeys _ _).mono ?_
  rintro e w1 ⟨rfl, rfl⟩
  go_wp2_with fail
  with_reducible refine HS.out.mono ?_
  rintro e w2 ⟨⟨v2, ks, rfl, O2, h1, h2⟩, f2⟩
  go_wp2_with fail
  go_ret
  exact ⟨⟨_, _, rfl, O2, h1, h2⟩, f2⟩
end
end Go.Proofs.Ytobekkgaildbgaa
