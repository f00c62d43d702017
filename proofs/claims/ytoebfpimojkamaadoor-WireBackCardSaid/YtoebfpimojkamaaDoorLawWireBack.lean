/- WireBack: the tied card, out of the walk of the law's code: at every argument it answers true, and each argument reads as before. No conditions beyond the statement's. -/
import Derived.Test.YtoebfpimojkamaaDoorRows
import Derived.Test.YtoebfpimojkamaaDoorCards
import Derived.Test.YtoebfpimojkamaaDoorTie
import Derived.Test.YtoebfpimojkamaaDoorGlue
import Derived.Test.YtoebfpimojkamaaDoorWireArg
import Derived.Test.YtoebfpimojkamaaDoorWireBackWalk
import Derived.SevenTiedAt
namespace Go.Proofs.YtoebfpimojkamaaDoor.wireBack
open Go.ChangeShapes Go.WideShapes Go.ChangeAt Go.RowKit
set_option linter.unusedVariables false
theorem own : ownKnob Tryd.prog.godebug = none := by kernel_rfl
theorem laidOut : laidOutB Tryd.prog = true := by kernel_rfl
set_option maxRecDepth 100000 in
theorem lifted (os : Os) (started : os.Started) (H : Type) (enc : TypeId × Value → H) :
    ReturnsInHanded {} Tryd.checked os 8 .any (fun w args => (Rows.wireBackSpec.pre enc Tryd.prog Tryd.f8 [] false w args ∧ laidMetH Tryd.prog laidL w) ∧ sizedMet enc Tryd.prog Tryd.f8 (OpenSpec.ofChange Rows.wireBackSpec) false w args) (Rows.wireBackSpec.post enc Tryd.prog Tryd.f8 false true false false) := by
  refine returnsInHanded_of_change_and (C := Tryd.checked) (X := fun w _ => laidMetH Tryd.prog laidL w) (fun _ _ _ hh h => h.of_heap hh) own started (by kernel_rfl) Tryd.func8
    (ChangeSpec.witness_at (enc := enc) (C := Tryd.checked) (os := os) (X := fun w _ => laidMetH Tryd.prog laidL w) false (laidWorld os) #[.agg #[.int .i64 0, .int .i64 0, .int .i64 0, .int .i64 0, .slice none 0 0, .bool false], .agg #[.int .i64 0, .int .i64 0, .slice none 0 0], .slice none 0 0] 8 rfl (by kernel_rfl) (by kernel_rfl) (by kernel_rfl) (by kernel_rfl) (by kernel_rfl) (laid_met os _)) ?_
  intro W base args ds gs before hval0 hW hcnd hsz0 hL _
  obtain ⟨g, hG⟩ := gl_of_laid hL
  have hval : ∀ (j : Nat) t v, Tryd.f8.params[j]? = some t → args[j]? = some v → Value.okWide Tryd.prog W .any base t v := hval0
  have hW' := hW
  obtain ⟨p, q, hA0, hV, rfl, hfz, hnd⟩ := hW
  have hA : DataW.TrodAll enc Tryd.prog W 0 (fun _ => true) true Tryd.f8.params.toList args.toList ds p := hA0
  rw [Tryd.params8] at hA hval
  obtain ⟨v0, vs0, d0, ds0, p0, q0, hargs, rfl, rfl, h0, r0⟩ := trodAll_cons hA
  obtain ⟨v1, vs1, d1, ds1, p1, q1, rfl, rfl, rfl, h1, r1⟩ := trodAll_cons r0
  obtain ⟨v2, vs2, d2, ds2, p2, q2, rfl, rfl, rfl, h2, r2⟩ := trodAll_cons r1
  obtain ⟨rfl, rfl, rfl⟩ := trodAll_nil r2
  obtain rfl : args = #[v0, v1, v2] := by cases args; simp_all
  obtain ⟨rfl, rfl⟩ := trodVars_none hV
  have k0 := h0
  have lt0 : ∀ x ∈ p0, x.block < W.heap.size := by obtain ⟨m, hm⟩ := k0; exact DataW.trod_lt m _ _ _ hm
  obtain ⟨cs0, e0, hl0, hc0⟩ := agg_cells 6 (l := [3, 3, 3, 3, 22, 4]) (by kernel_rfl) (okWide_agg (by kernel_rfl) (hval 0 24 v0 rfl rfl)) h0
  subst e0
  obtain ⟨c0_0, c0_1, c0_2, c0_3, c0_4, c0_5, e0⟩ := list6 hl0
  subst e0
  obtain ⟨a0_0, e0, w0_0⟩ := (hc0 0 _ rfl).int (k := .i64) (by kernel_rfl)
  simp at e0
  subst e0
  obtain ⟨a0_1, e0, w0_1⟩ := (hc0 1 _ rfl).int (k := .i64) (by kernel_rfl)
  simp at e0
  subst e0
  obtain ⟨a0_2, e0, w0_2⟩ := (hc0 2 _ rfl).int (k := .i64) (by kernel_rfl)
  simp at e0
  subst e0
  obtain ⟨a0_3, e0, w0_3⟩ := (hc0 3 _ rfl).int (k := .i64) (by kernel_rfl)
  simp at e0
  subst e0
  obtain ⟨A0_4, z0_4, cap0_4, e0, m0_4, l0_4, n0_4⟩ := (hc0 4 _ rfl).nums Tryd.underlying22 Tryd.underlying53 (by kernel_rfl) (fun _ h => u64_bounds h)
  simp at e0
  subst e0
  obtain ⟨a0_5, e0⟩ := (hc0 5 _ rfl).bool (by kernel_rfl)
  simp at e0
  subst e0
  have k1 := h1
  have lt1 : ∀ x ∈ p1, x.block < W.heap.size := by obtain ⟨m, hm⟩ := k1; exact DataW.trod_lt m _ _ _ hm
  obtain ⟨cs1, e1, hl1, hc1⟩ := agg_cells 6 (l := [3, 27, 22]) (by kernel_rfl) (okWide_agg (by kernel_rfl) (hval 1 37 v1 rfl rfl)) h1
  subst e1
  obtain ⟨c1_0, c1_1, c1_2, e1⟩ := list3 hl1
  subst e1
  obtain ⟨a1_0, e1, w1_0⟩ := (hc1 0 _ rfl).int (k := .i64) (by kernel_rfl)
  simp at e1
  subst e1
  obtain ⟨a1_1, e1, w1_1⟩ := (hc1 1 _ rfl).int (k := .i64) (by kernel_rfl)
  simp at e1
  subst e1
  obtain ⟨A1_2, z1_2, cap1_2, e1, m1_2, l1_2, n1_2⟩ := (hc1 2 _ rfl).nums Tryd.underlying22 Tryd.underlying53 (by kernel_rfl) (fun _ h => u64_bounds h)
  simp at e1
  subst e1
  have k2 := h2
  have lt2 : ∀ x ∈ p2, x.block < W.heap.size := by obtain ⟨m, hm⟩ := k2; exact DataW.trod_lt m _ _ _ hm
  obtain ⟨A2, z2, cap2, e2, m2, l2, n2⟩ := arg_nums Tryd.underlying26 Tryd.underlying5 (by kernel_rfl) (fun _ h => u8_bounds h) (hval 2 26 v2 rfl rfl) h2
  subst e2
  clear hA0 hval0 hsz0
  refine (wireBack_row g a0_0 a0_1 a0_2 a0_3 A0_4 z0_4 cap0_4 a0_5 a1_0 a1_1 A1_2 z1_2 cap1_2 A2 z2 cap2 w0_0 w0_1 w0_2 w0_3 m0_4 l0_4 w1_0 w1_1 m1_2 l1_2 m2 l2 W n0_4 n1_2 n2 hG).mono fun e W' ⟨he, fr⟩ => ?_
  subst he
  have bel := fr.below
  exact ⟨_, rfl, _, _, _, [], _, [], hW', trodAll_mk1 (shut_bool Tryd.underlying4 _), (trodAll_cons_mk (Below.trod laidOut (by kernel_rfl) (of_decide_eq_true (by kernel_rfl)) k0 bel lt0) (trodAll_cons_mk (Below.trod laidOut (by kernel_rfl) (of_decide_eq_true (by kernel_rfl)) k1 bel lt1) (trodAll_cons_mk (Below.trod laidOut (by kernel_rfl) (of_decide_eq_true (by kernel_rfl)) k2 bel lt2) trodAll_mk0))), rfl, bel.frame _, fun h => by cases h⟩
theorem over : Rows.wireBackRow.holds Tryd.pinned (OpenSpec.ofChange Rows.wireBackSpec) :=
  OpenClaim.holds_of_wide 8 Tryd.f8 rfl rfl rfl rfl rfl rfl rfl ⟨rfl, rfl, rfl, rfl, rfl⟩ rfl rfl rfl rfl rfl (by kernel_rfl) Tryd.func8 (by kernel_rfl)
    (of_decide_eq_true (by kernel_rfl)) (by unfold Func.isWrapper; first | (rw [if_pos (by decide +kernel)]; kernel_rfl) | (rw [if_neg (by decide +kernel)]; exact ⟨rfl, rfl⟩))
    (fun os started H enc _ => lifted os started H enc)
theorem noStandIn : ∀ t ∈ Tryd.f8.params, Tryd.prog.wantsStandIn t = false := by
  rw [Tryd.params8]
  intro t ht
  simp only [List.mem_toArray, List.mem_cons, List.not_mem_nil, or_false] at ht
  rcases ht with rfl | rfl | rfl
  all_goals kernel_rfl
theorem card : Rows.WireBackCardSaid :=
  Claim7.holds_tied_plain_at .later [] [.handle, .sentinel] true (true, "9f42a9e17360a209799e0d6f9f075bdaf305bcfc782e9b540007228c353a24cd") true
    over (fun _ h => by cases h) (by kernel_rfl) (fun _ h => by cases h) wireBack_row_tie rfl ⟨rfl, rfl⟩ (by kernel_rfl) rfl
    (fun f fn hf hfn => by
      obtain rfl : f = 8 := Option.some.inj ((show Tryd.prog.funcNamed "forerunner/forerunnerlaw24.WireBack" = some 8 by kernel_rfl).symm.trans hf) |>.symm
      obtain rfl : fn = Tryd.f8 := (Option.some.inj (Tryd.func8.symm.trans hfn)).symm
      exact ⟨by kernel_rfl, fun j t ht => noStandIn t (Array.mem_of_getElem? ht)⟩)
    (by kernel_rfl)
#print axioms card
end Go.Proofs.YtoebfpimojkamaaDoor.wireBack
namespace Go.Proofs.YtoebfpimojkamaaDoor
/-- The tied card, under a short name, for the claim. -/
theorem wireBack_holds : Rows.WireBackCardSaid := wireBack.card
end Go.Proofs.YtoebfpimojkamaaDoor
