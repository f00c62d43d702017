/-
  No cell of these rows narrows 'for every input' (looked for: loops, veiled, ifaces, maps, wideKeys, modest, calm, conditions, laid).
  DERIVED. THE GIVEN ROWS OF THIS SEAT. 3 by the template 'for every input the law returns true; each argument reads behind the call as it read before'; 0 by the template 'total and deterministic' (their statements: YtoebfpimojkamaaTotals.lean).
  GIVEN WITH THE SEED: the statements are not yours to turn. If you find one false, say at which input.
  Laid BY PROGRAM, IN A SANDBOX (cutbox-rows.mjs): the forced cells as the released guide's own fill.sh prints them over the translation 8a50caa4fa292461… (all of the seat's roots in one cut). By AI agents, Wed Nov 11 2026. No macro, syntax, notation, axiom, sorry.
-/
import Derived.Test.YtoebfpimojkamaaChecked
import GoSem.Claim
import GoSem.ClaimJoined
import GoSem.ClaimMapViews
import Derived.JoinedTies
import Derived.KernelRfl
namespace Go.Proofs.Ytoebfpimojkamaa
/- THE CELL 'sum', in the pinned program and in every row, IS THE sha256 OF THE DUMP (.gsa) THAT YtoebfpimojkamaaProg.lean LOADS. Nothing in Lean hashes anything: it is a label: what it is worth is what the hold of that sum in a sandbox is worth. -/
noncomputable def Try.pinned : Pinned := { name := "ytoebfpimojkamaa", sum := "8a50caa4fa2924617d5bb258e5f3b8670a7ff72c0a67ead86ccf1218de561b3f", checked := Try.checked }
namespace Rows
def none {H : Type} : Left H := { results := [], args := [] }

/-- 'forerunnerlaw08.TapAges': WHATEVER THE INPUT: true; the input reads as it did. -/
def tapAgesSpec : ChangeSpec := { name := "tapAges", fn := fun _ => fun
  | [d1, d2] => { results := [.lit (.bool true)], args := [d1, d2] }
  | _ => none }
def tapAgesRow : OpenClaim := { program := "ytoebfpimojkamaa", sum := "8a50caa4fa2924617d5bb258e5f3b8670a7ff72c0a67ead86ccf1218de561b3f", func := "forerunner/forerunnerlaw08.TapAges", spec := "tapAges", unfollowed := true, recurses := true, apart := false }
def TapAgesSaid : Prop := tapAgesRow.holds Try.pinned (OpenSpec.ofChange tapAgesSpec)

/-- ITS FALSE NEIGHBOUR: 'it returns false'. Refute it at one input. -/
def tapAgesWrong : ChangeSpec := { name := "tapAges", fn := fun _ => fun
  | [d1, d2] => { results := [.lit (.bool false)], args := [d1, d2] }
  | _ => none }
def TapAgesWrongFalsely : Prop := tapAgesRow.holds Try.pinned (OpenSpec.ofChange tapAgesWrong)

/-- 'forerunnerlaw08.TapPlays': WHATEVER THE INPUT: true; the input reads as it did. -/
def tapPlaysSpec : ChangeSpec := { name := "tapPlays", fn := fun _ => fun
  | [d1, d2, d3] => { results := [.lit (.bool true)], args := [d1, d2, d3] }
  | _ => none }
def tapPlaysRow : OpenClaim := { program := "ytoebfpimojkamaa", sum := "8a50caa4fa2924617d5bb258e5f3b8670a7ff72c0a67ead86ccf1218de561b3f", func := "forerunner/forerunnerlaw08.TapPlays", spec := "tapPlays", unfollowed := true, recurses := true, apart := false }
def TapPlaysSaid : Prop := tapPlaysRow.holds Try.pinned (OpenSpec.ofChange tapPlaysSpec)

/-- ITS FALSE NEIGHBOUR: 'it returns false'. Refute it at one input. -/
def tapPlaysWrong : ChangeSpec := { name := "tapPlays", fn := fun _ => fun
  | [d1, d2, d3] => { results := [.lit (.bool false)], args := [d1, d2, d3] }
  | _ => none }
def TapPlaysWrongFalsely : Prop := tapPlaysRow.holds Try.pinned (OpenSpec.ofChange tapPlaysWrong)

/-- 'forerunnerlaw08.TapForgets': WHATEVER THE INPUT: true; the input reads as it did. -/
def tapForgetsSpec : ChangeSpec := { name := "tapForgets", fn := fun _ => fun
  | [d1, d2, d3] => { results := [.lit (.bool true)], args := [d1, d2, d3] }
  | _ => none }
def tapForgetsRow : OpenClaim := { program := "ytoebfpimojkamaa", sum := "8a50caa4fa2924617d5bb258e5f3b8670a7ff72c0a67ead86ccf1218de561b3f", func := "forerunner/forerunnerlaw08.TapForgets", spec := "tapForgets", unfollowed := true, recurses := true, apart := false }
def TapForgetsSaid : Prop := tapForgetsRow.holds Try.pinned (OpenSpec.ofChange tapForgetsSpec)

/-- ITS FALSE NEIGHBOUR: 'it returns false'. Refute it at one input. -/
def tapForgetsWrong : ChangeSpec := { name := "tapForgets", fn := fun _ => fun
  | [d1, d2, d3] => { results := [.lit (.bool false)], args := [d1, d2, d3] }
  | _ => none }
def TapForgetsWrongFalsely : Prop := tapForgetsRow.holds Try.pinned (OpenSpec.ofChange tapForgetsWrong)

/- THE SECOND FORM. 'bulk': how many values and letters a reading holds, each counted each time it is reached (what is shared counts as often as it is met; a slice's spare places count too). A statement '..UptoSaid' is the law's where the arguments, and the package variables that the reading takes, are together of bulk at most 1048576: NARROWER than '..Said'. Prove '..Said' where nothing that the law and all that it calls make is longer than what came in: it says more and counts as full. Else prove '..UptoSaid'. A law counts once. -/
mutual
def uptoBulk {H : Type} : DataW H → Nat
  | .lit (.string bytes) => bytes.length + 1
  | .lit _ => 1
  | .nil => 1
  | .ptr d => uptoBulk d + 1
  | .slice elems spare => uptoBulkAll elems + uptoBulkAll spare + 1
  | .agg parts => uptoBulkAll parts + 1
  | .iface _ d => uptoBulk d + 1
  | .map entries => uptoBulkEntries entries + 1
  | .held _ => 1
def uptoBulkAll {H : Type} : List (DataW H) → Nat
  | [] => 0
  | d :: r => uptoBulk d + uptoBulkAll r
def uptoBulkEntries {H : Type} : List (Lit × DataW H) → Nat
  | [] => 0
  | x :: r => uptoBulkEntry x + uptoBulkEntries r
def uptoBulkEntry {H : Type} : Lit × DataW H → Nat
  | (.string bytes, d) => bytes.length + uptoBulk d + 1
  | (_, d) => uptoBulk d + 1
 end
def uptoSmall : (H : Type) → List (DataW H) → Bool := fun _ ds => decide (uptoBulkAll ds ≤ 1048576)
def OpenSpec.upto (s : _root_.Go.ChangeSpec) : _root_.Go.OpenSpec := { _root_.Go.OpenSpec.ofChange s with cond := some uptoSmall }

/-- 'forerunnerlaw08.TapAges', WHERE WHAT IT READS IS OF BULK AT MOST 1048576: true; the input reads as it did. -/
def tapAgesUptoRow : OpenClaim := { program := "ytoebfpimojkamaa", sum := "8a50caa4fa2924617d5bb258e5f3b8670a7ff72c0a67ead86ccf1218de561b3f", func := "forerunner/forerunnerlaw08.TapAges", spec := "tapAges", unfollowed := true, recurses := true, apart := false, narrowed := true }
def TapAgesUptoSaid : Prop := tapAgesUptoRow.holds Try.pinned (OpenSpec.upto tapAgesSpec)

/-- 'forerunnerlaw08.TapPlays', WHERE WHAT IT READS IS OF BULK AT MOST 1048576: true; the input reads as it did. -/
def tapPlaysUptoRow : OpenClaim := { program := "ytoebfpimojkamaa", sum := "8a50caa4fa2924617d5bb258e5f3b8670a7ff72c0a67ead86ccf1218de561b3f", func := "forerunner/forerunnerlaw08.TapPlays", spec := "tapPlays", unfollowed := true, recurses := true, apart := false, narrowed := true }
def TapPlaysUptoSaid : Prop := tapPlaysUptoRow.holds Try.pinned (OpenSpec.upto tapPlaysSpec)

/-- 'forerunnerlaw08.TapForgets', WHERE WHAT IT READS IS OF BULK AT MOST 1048576: true; the input reads as it did. -/
def tapForgetsUptoRow : OpenClaim := { program := "ytoebfpimojkamaa", sum := "8a50caa4fa2924617d5bb258e5f3b8670a7ff72c0a67ead86ccf1218de561b3f", func := "forerunner/forerunnerlaw08.TapForgets", spec := "tapForgets", unfollowed := true, recurses := true, apart := false, narrowed := true }
def TapForgetsUptoSaid : Prop := tapForgetsUptoRow.holds Try.pinned (OpenSpec.upto tapForgetsSpec)

end Rows
end Go.Proofs.Ytoebfpimojkamaa
