/- StreamNumbers: the statement, out of the walk of its code: at every argument it answers true, and each argument reads as before. No conditions beyond the statement's. -/
import Derived.Test.YtoapobhdpgcmbaaRows
import Derived.Test.YtoapobhdpgcmbaaGlue
import Derived.Test.YtoapobhdpgcmbaaStreamNumbersWalk
namespace Go.Proofs.Ytoapobhdpgcmbaa.streamNumbers
open Go.ChangeShapes Go.WideShapes Go.ChangeAt Go.RowKit
set_option linter.unusedVariables false
theorem own : ownKnob Try.prog.godebug = none := by kernel_rfl
theorem laidOut : laidOutB Try.prog = true := by kernel_rfl
set_option maxRecDepth 100000 in
theorem lifted (os : Os) (started : os.Started) (H : Type) (enc : TypeId × Value → H) :
    ReturnsInHanded {} Try.checked os 4 .any (Rows.streamNumbersSpec.pre6 enc Try.prog Try.f4 Rows.streamNumbersRow.domain false) (Rows.streamNumbersSpec.post enc Try.prog Try.f4 false true false false) := by
  refine returnsInHanded_of_change_sized (C := Try.checked) own started (by kernel_rfl) Try.func4
    (ChangeSpec.witness6 (enc := enc) (C := Try.checked) false ⟨#[], #[.agg #[.int .u8 0, .int .u8 0, .int .u8 0], .slice none 0 0], []⟩ 8 (by kernel_rfl) (by kernel_rfl) (by kernel_rfl) (by kernel_rfl)) ?_
  intro W base args ds gs before hval0 hW hcnd hsz0 _
  have hsz : (DataW.weightsEach Try.prog (Try.f4.params.toList ++ Rows.streamNumbersSpec.plain.varTypes Try.prog) (ds ++ gs)).all (· ≤ reachBytes) = true := hsz0
  have hval : ∀ (j : Nat) t v, Try.f4.params[j]? = some t → args[j]? = some v → Value.okWide Try.prog W .any base t v := hval0
  have hW' := hW
  obtain ⟨p, q, hA0, hV, rfl, hfz, hnd⟩ := hW
  have hA : DataW.TrodAll enc Try.prog W 0 (fun _ => true) true Try.f4.params.toList args.toList ds p := hA0
  rw [Try.params4] at hA hval hsz
  obtain ⟨v0, vs0, d0, ds0, p0, q0, hargs, rfl, rfl, h0, r0⟩ := trodAll_cons hA
  obtain ⟨v1, vs1, d1, ds1, p1, q1, rfl, rfl, rfl, h1, r1⟩ := trodAll_cons r0
  obtain ⟨rfl, rfl, rfl⟩ := trodAll_nil r1
  obtain rfl : args = #[v0, v1] := by cases args; simp_all
  obtain ⟨rfl, rfl⟩ := trodVars_none hV
  have k0 := h0
  have lt0 : ∀ x ∈ p0, x.block < W.heap.size := by obtain ⟨m, hm⟩ := k0; exact DataW.trod_lt m _ _ _ hm
  obtain ⟨cs0, e0, hl0, hc0⟩ := agg_cells 6 (l := [5, 5, 5]) (by kernel_rfl) (okWide_agg (by kernel_rfl) (hval 0 55 v0 rfl rfl)) h0
  subst e0
  obtain ⟨c0_0, c0_1, c0_2, e0⟩ := list3 hl0
  subst e0
  obtain ⟨a0_0, e0, w0_0⟩ := (hc0 0 _ rfl).int (k := .u8) (by kernel_rfl)
  simp at e0
  subst e0
  obtain ⟨a0_1, e0, w0_1⟩ := (hc0 1 _ rfl).int (k := .u8) (by kernel_rfl)
  simp at e0
  subst e0
  obtain ⟨a0_2, e0, w0_2⟩ := (hc0 2 _ rfl).int (k := .u8) (by kernel_rfl)
  simp at e0
  subst e0
  have k1 := h1
  have lt1 : ∀ x ∈ p1, x.block < W.heap.size := by obtain ⟨m, hm⟩ := k1; exact DataW.trod_lt m _ _ _ hm
  obtain ⟨A1, len1, cap1, e1, hn1, hA1⟩ := slice_ints (e := 34) (l := [3, 3, 3]) [.i64, .i64, .i64] 6 (by kernel_rfl) (by kernel_rfl) (by kernel_rfl) (by decide) (hval 1 24 v1 rfl rfl) h1
  subst e1
  clear hA0 hval0 hsz0 hsz
  refine (snumbers_walk a0_0 a0_1 a0_2 A1 len1 cap1 w0_0 w0_1 w0_2 hn1 hA1 (w := W)).mono fun e W' ⟨he, fr⟩ => ?_
  subst he
  have bel := fr.below
  exact ⟨_, rfl, _, _, _, [], _, [], hW', trodAll_mk1 (shut_bool Try.underlying4 _), (trodAll_cons_mk (Below.trod laidOut (by kernel_rfl) (of_decide_eq_true (by kernel_rfl)) k0 bel lt0) (trodAll_cons_mk (Below.trod laidOut (by kernel_rfl) (of_decide_eq_true (by kernel_rfl)) k1 bel lt1) trodAll_mk0)), rfl, bel.frame _, fun h => by cases h⟩
theorem over : Rows.streamNumbersRow.holds Try.pinned (OpenSpec.ofChange Rows.streamNumbersSpec) :=
  OpenClaim.holds_of_wide 4 Try.f4 rfl rfl rfl rfl rfl rfl rfl ⟨rfl, rfl, rfl, rfl, rfl⟩ rfl rfl rfl rfl rfl (by kernel_rfl) Try.func4 (by kernel_rfl)
    (of_decide_eq_true (by kernel_rfl)) (by unfold Func.isWrapper; first | (rw [if_pos (by decide +kernel)]; kernel_rfl) | (rw [if_neg (by decide +kernel)]; exact ⟨rfl, rfl⟩))
    (fun os started H enc _ => lifted os started H enc)
theorem proved : Rows.StreamNumbersSaid := over
#print axioms proved
end Go.Proofs.Ytoapobhdpgcmbaa.streamNumbers
namespace Go.Proofs.Ytoapobhdpgcmbaa
/-- The row, under a short name, for the claim. -/
theorem streamNumbers_holds : Rows.StreamNumbersSaid := streamNumbers.proved
end Go.Proofs.Ytoapobhdpgcmbaa
