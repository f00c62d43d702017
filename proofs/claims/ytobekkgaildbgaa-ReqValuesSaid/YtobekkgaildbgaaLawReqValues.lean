/- ReqValues: the statement, out of the walk of its code: at every argument it answers true, and each argument reads as before. No conditions beyond the statement's. -/
import Derived.Test.YtobekkgaildbgaaRows
import Derived.Test.YtobekkgaildbgaaGlue
import Derived.Test.YtobekkgaildbgaaReqValuesWalk
namespace Go.Proofs.Ytobekkgaildbgaa.reqValues
open Go.ChangeShapes Go.WideShapes Go.ChangeAt Go.RowKit
set_option linter.unusedVariables false
theorem own : ownKnob Try.prog.godebug = none := by kernel_rfl
theorem laidOut : laidOutB Try.prog = true := by kernel_rfl
set_option maxRecDepth 100000 in
theorem lifted (os : Os) (started : os.Started) (H : Type) (enc : TypeId × Value → H) :
    ReturnsInHanded {} Try.checked os 12 .any (Rows.reqValuesSpec.pre6 enc Try.prog Try.f12 Rows.reqValuesRow.domain false) (Rows.reqValuesSpec.post enc Try.prog Try.f12 false true false false) := by
  refine returnsInHanded_of_change_sized (C := Try.checked) own started (by kernel_rfl) Try.func12
    (ChangeSpec.witness6 (enc := enc) (C := Try.checked) false ⟨#[], #[.agg #[.int .u64 0, .int .u64 0, .int .u64 0, .int .u64 0, .int .u64 0, .int .u64 0, .int .u64 0, .int .u64 0], .int .u8 0, .int .u8 0], []⟩ 8 (by kernel_rfl) (by kernel_rfl) (by kernel_rfl) (by kernel_rfl)) ?_
  intro W base args ds gs before hval0 hW hcnd hsz0 _
  have hsz : (DataW.weightsEach Try.prog (Try.f12.params.toList ++ Rows.reqValuesSpec.plain.varTypes Try.prog) (ds ++ gs)).all (· ≤ reachBytes) = true := hsz0
  have hval : ∀ (j : Nat) t v, Try.f12.params[j]? = some t → args[j]? = some v → Value.okWide Try.prog W .any base t v := hval0
  have hW' := hW
  obtain ⟨p, q, hA0, hV, rfl, hfz, hnd⟩ := hW
  have hA : DataW.TrodAll enc Try.prog W 0 (fun _ => true) true Try.f12.params.toList args.toList ds p := hA0
  rw [Try.params12] at hA hval hsz
  obtain ⟨v0, vs0, d0, ds0, p0, q0, hargs, rfl, rfl, h0, r0⟩ := trodAll_cons hA
  obtain ⟨v1, vs1, d1, ds1, p1, q1, rfl, rfl, rfl, h1, r1⟩ := trodAll_cons r0
  obtain ⟨v2, vs2, d2, ds2, p2, q2, rfl, rfl, rfl, h2, r2⟩ := trodAll_cons r1
  obtain ⟨rfl, rfl, rfl⟩ := trodAll_nil r2
  obtain rfl : args = #[v0, v1, v2] := by cases args; simp_all
  obtain ⟨rfl, rfl⟩ := trodVars_none hV
  have k0 := h0
  have lt0 : ∀ x ∈ p0, x.block < W.heap.size := by obtain ⟨m, hm⟩ := k0; exact DataW.trod_lt m _ _ _ hm
  obtain ⟨cs0, e0, hl0, hc0⟩ := agg_cells 6 (l := [52, 52, 52, 52, 52, 52, 52, 52]) (by kernel_rfl) (okWide_agg (by kernel_rfl) (hval 0 71 v0 rfl rfl)) h0
  subst e0
  obtain ⟨c0_0, c0_1, c0_2, c0_3, c0_4, c0_5, c0_6, c0_7, e0⟩ := list8 hl0
  subst e0
  obtain ⟨a0_0, e0, w0_0⟩ := (hc0 0 _ rfl).int (k := .u64) (by kernel_rfl)
  simp at e0
  subst e0
  obtain ⟨a0_1, e0, w0_1⟩ := (hc0 1 _ rfl).int (k := .u64) (by kernel_rfl)
  simp at e0
  subst e0
  obtain ⟨a0_2, e0, w0_2⟩ := (hc0 2 _ rfl).int (k := .u64) (by kernel_rfl)
  simp at e0
  subst e0
  obtain ⟨a0_3, e0, w0_3⟩ := (hc0 3 _ rfl).int (k := .u64) (by kernel_rfl)
  simp at e0
  subst e0
  obtain ⟨a0_4, e0, w0_4⟩ := (hc0 4 _ rfl).int (k := .u64) (by kernel_rfl)
  simp at e0
  subst e0
  obtain ⟨a0_5, e0, w0_5⟩ := (hc0 5 _ rfl).int (k := .u64) (by kernel_rfl)
  simp at e0
  subst e0
  obtain ⟨a0_6, e0, w0_6⟩ := (hc0 6 _ rfl).int (k := .u64) (by kernel_rfl)
  simp at e0
  subst e0
  obtain ⟨a0_7, e0, w0_7⟩ := (hc0 7 _ rfl).int (k := .u64) (by kernel_rfl)
  simp at e0
  subst e0
  have k1 := h1
  have lt1 : ∀ x ∈ p1, x.block < W.heap.size := by obtain ⟨m, hm⟩ := k1; exact DataW.trod_lt m _ _ _ hm
  obtain ⟨a1, e1, _, _, w1⟩ := open_int Try.underlying5 (hval 1 5 v1 rfl rfl) h1
  subst e1
  have k2 := h2
  have lt2 : ∀ x ∈ p2, x.block < W.heap.size := by obtain ⟨m, hm⟩ := k2; exact DataW.trod_lt m _ _ _ hm
  obtain ⟨a2, e2, _, _, w2⟩ := open_int Try.underlying5 (hval 2 5 v2 rfl rfl) h2
  subst e2
  clear hA0 hval0 hsz0 hsz
  refine (qvalues_walk a0_0 a0_1 a0_2 a0_3 a0_4 a0_5 a0_6 a0_7 a1 a2 w0_0 w0_1 w0_2 w0_3 w0_4 w0_5 w0_6 w0_7 w1 w2 (w := W)).mono fun e W' ⟨he, fr⟩ => ?_
  subst he
  have bel := fr.below
  exact ⟨_, rfl, _, _, _, [], _, [], hW', trodAll_mk1 (shut_bool Try.underlying4 _), (trodAll_cons_mk (Below.trod laidOut (by kernel_rfl) (of_decide_eq_true (by kernel_rfl)) k0 bel lt0) (trodAll_cons_mk (Below.trod laidOut (by kernel_rfl) (of_decide_eq_true (by kernel_rfl)) k1 bel lt1) (trodAll_cons_mk (Below.trod laidOut (by kernel_rfl) (of_decide_eq_true (by kernel_rfl)) k2 bel lt2) trodAll_mk0))), rfl, bel.frame _, fun h => by cases h⟩
theorem over : Rows.reqValuesRow.holds Try.pinned (OpenSpec.ofChange Rows.reqValuesSpec) :=
  OpenClaim.holds_of_wide 12 Try.f12 rfl rfl rfl rfl rfl rfl rfl ⟨rfl, rfl, rfl, rfl, rfl⟩ rfl rfl rfl rfl rfl (by kernel_rfl) Try.func12 (by kernel_rfl)
    (of_decide_eq_true (by kernel_rfl)) (by unfold Func.isWrapper; first | (rw [if_pos (by decide +kernel)]; kernel_rfl) | (rw [if_neg (by decide +kernel)]; exact ⟨rfl, rfl⟩))
    (fun os started H enc _ => lifted os started H enc)
theorem proved : Rows.ReqValuesSaid := over
#print axioms proved
end Go.Proofs.Ytobekkgaildbgaa.reqValues
namespace Go.Proofs.Ytobekkgaildbgaa
/-- The row, under a short name, for the claim. -/
theorem reqValues_holds : Rows.ReqValuesSaid := reqValues.proved
end Go.Proofs.Ytobekkgaildbgaa
