/-
  No cell of these rows narrows 'for every input' (looked for: loops, veiled, ifaces, maps, wideKeys, modest, calm, conditions, laid).
  DERIVED. THE GIVEN ROWS OF THIS SEAT. 10 by the template 'for every input the law returns true; each argument reads behind the call as it read before'; 0 by the template 'total and deterministic' (their statements: YtobekkgaildbgaaTotals.lean).
  GIVEN WITH THE SEED: the statements are not yours to turn. If you find one false, say at which input.
  Laid BY PROGRAM, IN A SANDBOX (cutbox-rows.mjs): the forced cells as the released guide's own fill.sh prints them over the translation 579ccadf7c714263… (all of the seat's roots in one cut). By AI agents, Wed Nov 11 2026. No macro, syntax, notation, axiom, sorry.
-/
import Derived.Test.YtobekkgaildbgaaChecked
import GoSem.Claim
import GoSem.ClaimJoined
import GoSem.ClaimMapViews
import Derived.JoinedTies
import Derived.KernelRfl
namespace Go.Proofs.Ytobekkgaildbgaa
/- THE CELL 'sum', in the pinned program and in every row, IS THE sha256 OF THE DUMP (.gsa) THAT YtobekkgaildbgaaProg.lean LOADS. Nothing in Lean hashes anything: it is a label: what it is worth is what the hold of that sum in a sandbox is worth. -/
noncomputable def Try.pinned : Pinned := { name := "ytobekkgaildbgaa", sum := "579ccadf7c7142636472b5ee8cdbbe1ebd8dc493196ad6bd8f004ca054353d55", checked := Try.checked }
namespace Rows
def none {H : Type} : Left H := { results := [], args := [] }

/-- 'forerunnerlaw05.IndexPlays': WHATEVER THE INPUT: true; the input reads as it did. -/
def indexPlaysSpec : ChangeSpec := { name := "indexPlays", fn := fun _ => fun
  | [d1, d2] => { results := [.lit (.bool true)], args := [d1, d2] }
  | _ => none }
def indexPlaysRow : OpenClaim := { program := "ytobekkgaildbgaa", sum := "579ccadf7c7142636472b5ee8cdbbe1ebd8dc493196ad6bd8f004ca054353d55", func := "forerunner/forerunnerlaw05.IndexPlays", spec := "indexPlays", recurses := true, apart := false }
def IndexPlaysSaid : Prop := indexPlaysRow.holds Try.pinned (OpenSpec.ofChange indexPlaysSpec)

/-- ITS FALSE NEIGHBOUR: 'it returns false'. Refute it at one input. -/
def indexPlaysWrong : ChangeSpec := { name := "indexPlays", fn := fun _ => fun
  | [d1, d2] => { results := [.lit (.bool false)], args := [d1, d2] }
  | _ => none }
def IndexPlaysWrongFalsely : Prop := indexPlaysRow.holds Try.pinned (OpenSpec.ofChange indexPlaysWrong)

/-- 'forerunnerlaw05.IndexTells': WHATEVER THE INPUT: true; the input reads as it did. -/
def indexTellsSpec : ChangeSpec := { name := "indexTells", fn := fun _ => fun
  | [d1, d2] => { results := [.lit (.bool true)], args := [d1, d2] }
  | _ => none }
def indexTellsRow : OpenClaim := { program := "ytobekkgaildbgaa", sum := "579ccadf7c7142636472b5ee8cdbbe1ebd8dc493196ad6bd8f004ca054353d55", func := "forerunner/forerunnerlaw05.IndexTells", spec := "indexTells", recurses := true, apart := false }
def IndexTellsSaid : Prop := indexTellsRow.holds Try.pinned (OpenSpec.ofChange indexTellsSpec)

/-- ITS FALSE NEIGHBOUR: 'it returns false'. Refute it at one input. -/
def indexTellsWrong : ChangeSpec := { name := "indexTells", fn := fun _ => fun
  | [d1, d2] => { results := [.lit (.bool false)], args := [d1, d2] }
  | _ => none }
def IndexTellsWrongFalsely : Prop := indexTellsRow.holds Try.pinned (OpenSpec.ofChange indexTellsWrong)

/-- 'forerunnerlaw05.IndexFull': WHATEVER THE INPUT: true; the input reads as it did. -/
def indexFullSpec : ChangeSpec := { name := "indexFull", fn := fun _ => fun
  | [d1, d2, d3] => { results := [.lit (.bool true)], args := [d1, d2, d3] }
  | _ => none }
def indexFullRow : OpenClaim := { program := "ytobekkgaildbgaa", sum := "579ccadf7c7142636472b5ee8cdbbe1ebd8dc493196ad6bd8f004ca054353d55", func := "forerunner/forerunnerlaw05.IndexFull", spec := "indexFull", recurses := true, apart := false }
def IndexFullSaid : Prop := indexFullRow.holds Try.pinned (OpenSpec.ofChange indexFullSpec)

/-- ITS FALSE NEIGHBOUR: 'it returns false'. Refute it at one input. -/
def indexFullWrong : ChangeSpec := { name := "indexFull", fn := fun _ => fun
  | [d1, d2, d3] => { results := [.lit (.bool false)], args := [d1, d2, d3] }
  | _ => none }
def IndexFullWrongFalsely : Prop := indexFullRow.holds Try.pinned (OpenSpec.ofChange indexFullWrong)

/-- 'forerunnerlaw05.IndexSorted': WHATEVER THE INPUT: true; the input reads as it did. -/
def indexSortedSpec : ChangeSpec := { name := "indexSorted", fn := fun _ => fun
  | [d1, d2] => { results := [.lit (.bool true)], args := [d1, d2] }
  | _ => none }
def indexSortedRow : OpenClaim := { program := "ytobekkgaildbgaa", sum := "579ccadf7c7142636472b5ee8cdbbe1ebd8dc493196ad6bd8f004ca054353d55", func := "forerunner/forerunnerlaw05.IndexSorted", spec := "indexSorted", recurses := true, apart := false }
def IndexSortedSaid : Prop := indexSortedRow.holds Try.pinned (OpenSpec.ofChange indexSortedSpec)

/-- ITS FALSE NEIGHBOUR: 'it returns false'. Refute it at one input. -/
def indexSortedWrong : ChangeSpec := { name := "indexSorted", fn := fun _ => fun
  | [d1, d2] => { results := [.lit (.bool false)], args := [d1, d2] }
  | _ => none }
def IndexSortedWrongFalsely : Prop := indexSortedRow.holds Try.pinned (OpenSpec.ofChange indexSortedWrong)

/-- 'forerunnerlaw05.IndexHome': WHATEVER THE INPUT: true; the input reads as it did. -/
def indexHomeSpec : ChangeSpec := { name := "indexHome", fn := fun _ => fun
  | [d1, d2, d3] => { results := [.lit (.bool true)], args := [d1, d2, d3] }
  | _ => none }
def indexHomeRow : OpenClaim := { program := "ytobekkgaildbgaa", sum := "579ccadf7c7142636472b5ee8cdbbe1ebd8dc493196ad6bd8f004ca054353d55", func := "forerunner/forerunnerlaw05.IndexHome", spec := "indexHome", recurses := true, apart := false }
def IndexHomeSaid : Prop := indexHomeRow.holds Try.pinned (OpenSpec.ofChange indexHomeSpec)

/-- ITS FALSE NEIGHBOUR: 'it returns false'. Refute it at one input. -/
def indexHomeWrong : ChangeSpec := { name := "indexHome", fn := fun _ => fun
  | [d1, d2, d3] => { results := [.lit (.bool false)], args := [d1, d2, d3] }
  | _ => none }
def IndexHomeWrongFalsely : Prop := indexHomeRow.holds Try.pinned (OpenSpec.ofChange indexHomeWrong)

/-- 'forerunnerlaw17.ReqPlays': WHATEVER THE INPUT: true; the input reads as it did. -/
def reqPlaysSpec : ChangeSpec := { name := "reqPlays", fn := fun _ => fun
  | [d1, d2] => { results := [.lit (.bool true)], args := [d1, d2] }
  | _ => none }
def reqPlaysRow : OpenClaim := { program := "ytobekkgaildbgaa", sum := "579ccadf7c7142636472b5ee8cdbbe1ebd8dc493196ad6bd8f004ca054353d55", func := "forerunner/forerunnerlaw17.ReqPlays", spec := "reqPlays", unfollowed := true, recurses := true, apart := false }
def ReqPlaysSaid : Prop := reqPlaysRow.holds Try.pinned (OpenSpec.ofChange reqPlaysSpec)

/-- ITS FALSE NEIGHBOUR: 'it returns false'. Refute it at one input. -/
def reqPlaysWrong : ChangeSpec := { name := "reqPlays", fn := fun _ => fun
  | [d1, d2] => { results := [.lit (.bool false)], args := [d1, d2] }
  | _ => none }
def ReqPlaysWrongFalsely : Prop := reqPlaysRow.holds Try.pinned (OpenSpec.ofChange reqPlaysWrong)

/-- 'forerunnerlaw17.ReqOnce': WHATEVER THE INPUT: true; the input reads as it did. -/
def reqOnceSpec : ChangeSpec := { name := "reqOnce", fn := fun _ => fun
  | [d] => { results := [.lit (.bool true)], args := [d] }
  | _ => none }
def reqOnceRow : OpenClaim := { program := "ytobekkgaildbgaa", sum := "579ccadf7c7142636472b5ee8cdbbe1ebd8dc493196ad6bd8f004ca054353d55", func := "forerunner/forerunnerlaw17.ReqOnce", spec := "reqOnce", unfollowed := true, recurses := true, apart := false }
def ReqOnceSaid : Prop := reqOnceRow.holds Try.pinned (OpenSpec.ofChange reqOnceSpec)

/-- ITS FALSE NEIGHBOUR: 'it returns false'. Refute it at one input. -/
def reqOnceWrong : ChangeSpec := { name := "reqOnce", fn := fun _ => fun
  | [d] => { results := [.lit (.bool false)], args := [d] }
  | _ => none }
def ReqOnceWrongFalsely : Prop := reqOnceRow.holds Try.pinned (OpenSpec.ofChange reqOnceWrong)

/-- 'forerunnerlaw17.ReqOthers': WHATEVER THE INPUT: true; the input reads as it did. -/
def reqOthersSpec : ChangeSpec := { name := "reqOthers", fn := fun _ => fun
  | [d1, d2] => { results := [.lit (.bool true)], args := [d1, d2] }
  | _ => none }
def reqOthersRow : OpenClaim := { program := "ytobekkgaildbgaa", sum := "579ccadf7c7142636472b5ee8cdbbe1ebd8dc493196ad6bd8f004ca054353d55", func := "forerunner/forerunnerlaw17.ReqOthers", spec := "reqOthers", unfollowed := true, recurses := true, apart := false }
def ReqOthersSaid : Prop := reqOthersRow.holds Try.pinned (OpenSpec.ofChange reqOthersSpec)

/-- ITS FALSE NEIGHBOUR: 'it returns false'. Refute it at one input. -/
def reqOthersWrong : ChangeSpec := { name := "reqOthers", fn := fun _ => fun
  | [d1, d2] => { results := [.lit (.bool false)], args := [d1, d2] }
  | _ => none }
def ReqOthersWrongFalsely : Prop := reqOthersRow.holds Try.pinned (OpenSpec.ofChange reqOthersWrong)

/-- 'forerunnerlaw17.ReqOrder': WHATEVER THE INPUT: true; the input reads as it did. -/
def reqOrderSpec : ChangeSpec := { name := "reqOrder", fn := fun _ => fun
  | [d1, d2] => { results := [.lit (.bool true)], args := [d1, d2] }
  | _ => none }
def reqOrderRow : OpenClaim := { program := "ytobekkgaildbgaa", sum := "579ccadf7c7142636472b5ee8cdbbe1ebd8dc493196ad6bd8f004ca054353d55", func := "forerunner/forerunnerlaw17.ReqOrder", spec := "reqOrder", unfollowed := true, recurses := true, apart := false }
def ReqOrderSaid : Prop := reqOrderRow.holds Try.pinned (OpenSpec.ofChange reqOrderSpec)

/-- ITS FALSE NEIGHBOUR: 'it returns false'. Refute it at one input. -/
def reqOrderWrong : ChangeSpec := { name := "reqOrder", fn := fun _ => fun
  | [d1, d2] => { results := [.lit (.bool false)], args := [d1, d2] }
  | _ => none }
def ReqOrderWrongFalsely : Prop := reqOrderRow.holds Try.pinned (OpenSpec.ofChange reqOrderWrong)

/-- 'forerunnerlaw17.ReqValues': WHATEVER THE INPUT: true; the input reads as it did. -/
def reqValuesSpec : ChangeSpec := { name := "reqValues", fn := fun _ => fun
  | [d1, d2, d3] => { results := [.lit (.bool true)], args := [d1, d2, d3] }
  | _ => none }
def reqValuesRow : OpenClaim := { program := "ytobekkgaildbgaa", sum := "579ccadf7c7142636472b5ee8cdbbe1ebd8dc493196ad6bd8f004ca054353d55", func := "forerunner/forerunnerlaw17.ReqValues", spec := "reqValues", unfollowed := true, recurses := true, apart := false }
def ReqValuesSaid : Prop := reqValuesRow.holds Try.pinned (OpenSpec.ofChange reqValuesSpec)

/-- ITS FALSE NEIGHBOUR: 'it returns false'. Refute it at one input. -/
def reqValuesWrong : ChangeSpec := { name := "reqValues", fn := fun _ => fun
  | [d1, d2, d3] => { results := [.lit (.bool false)], args := [d1, d2, d3] }
  | _ => none }
def ReqValuesWrongFalsely : Prop := reqValuesRow.holds Try.pinned (OpenSpec.ofChange reqValuesWrong)

/- THE SECOND FORM. 'bulk': how many values and letters a reading holds, each counted each time it is reached (what is shared counts as often as it is met; a slice's spare places count too). A statement '..UptoSaid' is the law's where the arguments, and the package variables that the reading takes, are together of bulk at most 1048576: NARROWER than '..Said'. Prove '..Said' where nothing that the law and all that it calls make is longer than what came in: it says more and counts as full. Else prove '..UptoSaid'. A law counts once. -/
mutual
def uptoBulk {H : Type} : DataW H → Nat
  | .lit (.string bytes) => bytes.length + 1
  | .lit _ => 1
  | .nil => 1
  | .ptr d => uptoBulk d + 1
  | .slice elems spare => uptoBulkAll elems + uptoBulkAll spare + 1
  | .agg parts => uptoBulkAll parts + 1
  | .iface _ d => uptoBulk d + 1
  | .map entries => uptoBulkEntries entries + 1
  | .held _ => 1
def uptoBulkAll {H : Type} : List (DataW H) → Nat
  | [] => 0
  | d :: r => uptoBulk d + uptoBulkAll r
def uptoBulkEntries {H : Type} : List (Lit × DataW H) → Nat
  | [] => 0
  | x :: r => uptoBulkEntry x + uptoBulkEntries r
def uptoBulkEntry {H : Type} : Lit × DataW H → Nat
  | (.string bytes, d) => bytes.length + uptoBulk d + 1
  | (_, d) => uptoBulk d + 1
 end
def uptoSmall : (H : Type) → List (DataW H) → Bool := fun _ ds => decide (uptoBulkAll ds ≤ 1048576)
def OpenSpec.upto (s : _root_.Go.ChangeSpec) : _root_.Go.OpenSpec := { _root_.Go.OpenSpec.ofChange s with cond := some uptoSmall }

/-- 'forerunnerlaw05.IndexPlays', WHERE WHAT IT READS IS OF BULK AT MOST 1048576: true; the input reads as it did. -/
def indexPlaysUptoRow : OpenClaim := { program := "ytobekkgaildbgaa", sum := "579ccadf7c7142636472b5ee8cdbbe1ebd8dc493196ad6bd8f004ca054353d55", func := "forerunner/forerunnerlaw05.IndexPlays", spec := "indexPlays", recurses := true, apart := false, narrowed := true }
def IndexPlaysUptoSaid : Prop := indexPlaysUptoRow.holds Try.pinned (OpenSpec.upto indexPlaysSpec)

/-- 'forerunnerlaw05.IndexTells', WHERE WHAT IT READS IS OF BULK AT MOST 1048576: true; the input reads as it did. -/
def indexTellsUptoRow : OpenClaim := { program := "ytobekkgaildbgaa", sum := "579ccadf7c7142636472b5ee8cdbbe1ebd8dc493196ad6bd8f004ca054353d55", func := "forerunner/forerunnerlaw05.IndexTells", spec := "indexTells", recurses := true, apart := false, narrowed := true }
def IndexTellsUptoSaid : Prop := indexTellsUptoRow.holds Try.pinned (OpenSpec.upto indexTellsSpec)

/-- 'forerunnerlaw05.IndexFull', WHERE WHAT IT READS IS OF BULK AT MOST 1048576: true; the input reads as it did. -/
def indexFullUptoRow : OpenClaim := { program := "ytobekkgaildbgaa", sum := "579ccadf7c7142636472b5ee8cdbbe1ebd8dc493196ad6bd8f004ca054353d55", func := "forerunner/forerunnerlaw05.IndexFull", spec := "indexFull", recurses := true, apart := false, narrowed := true }
def IndexFullUptoSaid : Prop := indexFullUptoRow.holds Try.pinned (OpenSpec.upto indexFullSpec)

/-- 'forerunnerlaw05.IndexSorted', WHERE WHAT IT READS IS OF BULK AT MOST 1048576: true; the input reads as it did. -/
def indexSortedUptoRow : OpenClaim := { program := "ytobekkgaildbgaa", sum := "579ccadf7c7142636472b5ee8cdbbe1ebd8dc493196ad6bd8f004ca054353d55", func := "forerunner/forerunnerlaw05.IndexSorted", spec := "indexSorted", recurses := true, apart := false, narrowed := true }
def IndexSortedUptoSaid : Prop := indexSortedUptoRow.holds Try.pinned (OpenSpec.upto indexSortedSpec)

/-- 'forerunnerlaw05.IndexHome', WHERE WHAT IT READS IS OF BULK AT MOST 1048576: true; the input reads as it did. -/
def indexHomeUptoRow : OpenClaim := { program := "ytobekkgaildbgaa", sum := "579ccadf7c7142636472b5ee8cdbbe1ebd8dc493196ad6bd8f004ca054353d55", func := "forerunner/forerunnerlaw05.IndexHome", spec := "indexHome", recurses := true, apart := false, narrowed := true }
def IndexHomeUptoSaid : Prop := indexHomeUptoRow.holds Try.pinned (OpenSpec.upto indexHomeSpec)

/-- 'forerunnerlaw17.ReqPlays', WHERE WHAT IT READS IS OF BULK AT MOST 1048576: true; the input reads as it did. -/
def reqPlaysUptoRow : OpenClaim := { program := "ytobekkgaildbgaa", sum := "579ccadf7c7142636472b5ee8cdbbe1ebd8dc493196ad6bd8f004ca054353d55", func := "forerunner/forerunnerlaw17.ReqPlays", spec := "reqPlays", unfollowed := true, recurses := true, apart := false, narrowed := true }
def ReqPlaysUptoSaid : Prop := reqPlaysUptoRow.holds Try.pinned (OpenSpec.upto reqPlaysSpec)

/-- 'forerunnerlaw17.ReqOnce', WHERE WHAT IT READS IS OF BULK AT MOST 1048576: true; the input reads as it did. -/
def reqOnceUptoRow : OpenClaim := { program := "ytobekkgaildbgaa", sum := "579ccadf7c7142636472b5ee8cdbbe1ebd8dc493196ad6bd8f004ca054353d55", func := "forerunner/forerunnerlaw17.ReqOnce", spec := "reqOnce", unfollowed := true, recurses := true, apart := false, narrowed := true }
def ReqOnceUptoSaid : Prop := reqOnceUptoRow.holds Try.pinned (OpenSpec.upto reqOnceSpec)

/-- 'forerunnerlaw17.ReqOthers', WHERE WHAT IT READS IS OF BULK AT MOST 1048576: true; the input reads as it did. -/
def reqOthersUptoRow : OpenClaim := { program := "ytobekkgaildbgaa", sum := "579ccadf7c7142636472b5ee8cdbbe1ebd8dc493196ad6bd8f004ca054353d55", func := "forerunner/forerunnerlaw17.ReqOthers", spec := "reqOthers", unfollowed := true, recurses := true, apart := false, narrowed := true }
def ReqOthersUptoSaid : Prop := reqOthersUptoRow.holds Try.pinned (OpenSpec.upto reqOthersSpec)

/-- 'forerunnerlaw17.ReqOrder', WHERE WHAT IT READS IS OF BULK AT MOST 1048576: true; the input reads as it did. -/
def reqOrderUptoRow : OpenClaim := { program := "ytobekkgaildbgaa", sum := "579ccadf7c7142636472b5ee8cdbbe1ebd8dc493196ad6bd8f004ca054353d55", func := "forerunner/forerunnerlaw17.ReqOrder", spec := "reqOrder", unfollowed := true, recurses := true, apart := false, narrowed := true }
def ReqOrderUptoSaid : Prop := reqOrderUptoRow.holds Try.pinned (OpenSpec.upto reqOrderSpec)

/-- 'forerunnerlaw17.ReqValues', WHERE WHAT IT READS IS OF BULK AT MOST 1048576: true; the input reads as it did. -/
def reqValuesUptoRow : OpenClaim := { program := "ytobekkgaildbgaa", sum := "579ccadf7c7142636472b5ee8cdbbe1ebd8dc493196ad6bd8f004ca054353d55", func := "forerunner/forerunnerlaw17.ReqValues", spec := "reqValues", unfollowed := true, recurses := true, apart := false, narrowed := true }
def ReqValuesUptoSaid : Prop := reqValuesUptoRow.holds Try.pinned (OpenSpec.upto reqValuesSpec)

end Rows
end Go.Proofs.Ytobekkgaildbgaa
