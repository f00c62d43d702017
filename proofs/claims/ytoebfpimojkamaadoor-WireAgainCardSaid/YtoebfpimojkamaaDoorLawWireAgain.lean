/- WireAgain: the tied card, out of the walk of the law's code: at every argument it answers true, and each argument reads as before. No conditions beyond the statement's. -/
import Derived.Test.YtoebfpimojkamaaDoorRows
import Derived.Test.YtoebfpimojkamaaDoorCards
import Derived.Test.YtoebfpimojkamaaDoorTie
import Derived.Test.YtoebfpimojkamaaDoorGlue
import Derived.Test.YtoebfpimojkamaaDoorWireArg
import Derived.Test.YtoebfpimojkamaaDoorWireAgainWalk
import Derived.SevenTiedAt
namespace Go.Proofs.YtoebfpimojkamaaDoor.wireAgain
open Go.ChangeShapes Go.WideShapes Go.ChangeAt Go.RowKit
set_option linter.unusedVariables false
theorem own : ownKnob Tryd.prog.godebug = none := by kernel_rfl
theorem laidOut : laidOutB Tryd.prog = true := by kernel_rfl
set_option maxRecDepth 100000 in
theorem lifted (os : Os) (started : os.Started) (H : Type) (enc : TypeId × Value → H) :
    ReturnsInHanded {} Tryd.checked os 6 .any (fun w args => (Rows.wireAgainSpec.pre enc Tryd.prog Tryd.f6 [] false w args ∧ laidMetH Tryd.prog laidL w) ∧ sizedMet enc Tryd.prog Tryd.f6 (OpenSpec.ofChange Rows.wireAgainSpec) false w args) (Rows.wireAgainSpec.post enc Tryd.prog Tryd.f6 false true false false) := by
  refine returnsInHanded_of_change_and (C := Tryd.checked) (X := fun w _ => laidMetH Tryd.prog laidL w) (fun _ _ _ hh h => h.of_heap hh) own started (by kernel_rfl) Tryd.func6
    (ChangeSpec.witness_at (enc := enc) (C := Tryd.checked) (os := os) (X := fun w _ => laidMetH Tryd.prog laidL w) false (laidWorld os) #[.slice none 0 0, .int .u16 0] 8 rfl (by kernel_rfl) (by kernel_rfl) (by kernel_rfl) (by kernel_rfl) (by kernel_rfl) (laid_met os _)) ?_
  intro W base args ds gs before hval0 hW hcnd hsz0 hL _
  obtain ⟨g, hG⟩ := gl_of_laid hL
  have hval : ∀ (j : Nat) t v, Tryd.f6.params[j]? = some t → args[j]? = some v → Value.okWide Tryd.prog W .any base t v := hval0
  have hW' := hW
  obtain ⟨p, q, hA0, hV, rfl, hfz, hnd⟩ := hW
  have hA : DataW.TrodAll enc Tryd.prog W 0 (fun _ => true) true Tryd.f6.params.toList args.toList ds p := hA0
  rw [Tryd.params6] at hA hval
  obtain ⟨v0, vs0, d0, ds0, p0, q0, hargs, rfl, rfl, h0, r0⟩ := trodAll_cons hA
  obtain ⟨v1, vs1, d1, ds1, p1, q1, rfl, rfl, rfl, h1, r1⟩ := trodAll_cons r0
  obtain ⟨rfl, rfl, rfl⟩ := trodAll_nil r1
  obtain rfl : args = #[v0, v1] := by cases args; simp_all
  obtain ⟨rfl, rfl⟩ := trodVars_none hV
  have k0 := h0
  have lt0 : ∀ x ∈ p0, x.block < W.heap.size := by obtain ⟨m, hm⟩ := k0; exact DataW.trod_lt m _ _ _ hm
  obtain ⟨A0, z0, cap0, e0, m0, l0, n0⟩ := arg_nums Tryd.underlying26 Tryd.underlying5 (by kernel_rfl) (fun _ h => u8_bounds h) (hval 0 26 v0 rfl rfl) h0
  subst e0
  have k1 := h1
  have lt1 : ∀ x ∈ p1, x.block < W.heap.size := by obtain ⟨m, hm⟩ := k1; exact DataW.trod_lt m _ _ _ hm
  obtain ⟨a1, e1, _, _, w1⟩ := open_int Tryd.underlying40 (hval 1 40 v1 rfl rfl) h1
  subst e1
  clear hA0 hval0 hsz0
  refine (wireAgain_row g A0 z0 cap0 a1 m0 l0 w1 W n0 hG).mono fun e W' ⟨he, fr⟩ => ?_
  subst he
  have bel := fr.below
  exact ⟨_, rfl, _, _, _, [], _, [], hW', trodAll_mk1 (shut_bool Tryd.underlying4 _), (trodAll_cons_mk (Below.trod laidOut (by kernel_rfl) (of_decide_eq_true (by kernel_rfl)) k0 bel lt0) (trodAll_cons_mk (Below.trod laidOut (by kernel_rfl) (of_decide_eq_true (by kernel_rfl)) k1 bel lt1) trodAll_mk0)), rfl, bel.frame _, fun h => by cases h⟩
theorem over : Rows.wireAgainRow.holds Tryd.pinned (OpenSpec.ofChange Rows.wireAgainSpec) :=
  OpenClaim.holds_of_wide 6 Tryd.f6 rfl rfl rfl rfl rfl rfl rfl ⟨rfl, rfl, rfl, rfl, rfl⟩ rfl rfl rfl rfl rfl (by kernel_rfl) Tryd.func6 (by kernel_rfl)
    (of_decide_eq_true (by kernel_rfl)) (by unfold Func.isWrapper; first | (rw [if_pos (by decide +kernel)]; kernel_rfl) | (rw [if_neg (by decide +kernel)]; exact ⟨rfl, rfl⟩))
    (fun os started H enc _ => lifted os started H enc)
theorem noStandIn : ∀ t ∈ Tryd.f6.params, Tryd.prog.wantsStandIn t = false := by
  rw [Tryd.params6]
  intro t ht
  simp only [List.mem_toArray, List.mem_cons, List.not_mem_nil, or_false] at ht
  rcases ht with rfl | rfl
  all_goals kernel_rfl
theorem card : Rows.WireAgainCardSaid :=
  Claim7.holds_tied_plain_at .later [] [.handle, .sentinel] true (true, "9f42a9e17360a209799e0d6f9f075bdaf305bcfc782e9b540007228c353a24cd") true
    over (fun _ h => by cases h) (by kernel_rfl) (fun _ h => by cases h) wireAgain_row_tie rfl ⟨rfl, rfl⟩ (by kernel_rfl) rfl
    (fun f fn hf hfn => by
      obtain rfl : f = 6 := Option.some.inj ((show Tryd.prog.funcNamed "forerunner/forerunnerlaw24.WireAgain" = some 6 by kernel_rfl).symm.trans hf) |>.symm
      obtain rfl : fn = Tryd.f6 := (Option.some.inj (Tryd.func6.symm.trans hfn)).symm
      exact ⟨by kernel_rfl, fun j t ht => noStandIn t (Array.mem_of_getElem? ht)⟩)
    (by kernel_rfl)
#print axioms card
end Go.Proofs.YtoebfpimojkamaaDoor.wireAgain
namespace Go.Proofs.YtoebfpimojkamaaDoor
/-- The tied card, under a short name, for the claim. -/
theorem wireAgain_holds : Rows.WireAgainCardSaid := wireAgain.card
end Go.Proofs.YtoebfpimojkamaaDoor
