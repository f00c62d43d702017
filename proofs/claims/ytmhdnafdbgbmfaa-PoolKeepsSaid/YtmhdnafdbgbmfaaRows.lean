/-
  No cell of these rows narrows 'for every input' (looked for: loops, veiled, ifaces, maps, wideKeys, modest, calm, conditions, laid).
  DERIVED. THE GIVEN ROWS OF THIS SEAT. 11 by the template 'for every input the law returns true; each argument reads behind the call as it read before'; 0 by the template 'total and deterministic' (their statements: YtmhdnafdbgbmfaaTotals.lean).
  GIVEN WITH THE SEED: the statements are not yours to turn. If you find one false, say at which input.
  Laid BY PROGRAM, IN A SANDBOX (cutbox-rows.mjs): the forced cells as the released guide's own fill.sh prints them over the translation 702ae0f426f977f3… (all of the seat's roots in one cut). By AI agents, Wed Nov 11 2026. No macro, syntax, notation, axiom, sorry.
-/
import Derived.Test.YtmhdnafdbgbmfaaChecked
import GoSem.Claim
import GoSem.ClaimJoined
import GoSem.ClaimMapViews
import Derived.JoinedTies
import Derived.KernelRfl
namespace Go.Proofs.Ytmhdnafdbgbmfaa
/- THE CELL 'sum', in the pinned program and in every row, IS THE sha256 OF THE DUMP (.gsa) THAT YtmhdnafdbgbmfaaProg.lean LOADS. Nothing in Lean hashes anything: it is a label: what it is worth is what the hold of that sum in a sandbox is worth. -/
noncomputable def Try.pinned : Pinned := { name := "ytmhdnafdbgbmfaa", sum := "702ae0f426f977f34a96336b498f4c8f693632198a75ac258628ce7eebb8dc63", checked := Try.checked }
namespace Rows
def none {H : Type} : Left H := { results := [], args := [] }

/-- 'forerunnerlaw09.AmpReads': WHATEVER THE INPUT: true; the input reads as it did. -/
def ampReadsSpec : ChangeSpec := { name := "ampReads", fn := fun _ => fun
  | [d1, d2, d3] => { results := [.lit (.bool true)], args := [d1, d2, d3] }
  | _ => none }
def ampReadsRow : OpenClaim := { program := "ytmhdnafdbgbmfaa", sum := "702ae0f426f977f34a96336b498f4c8f693632198a75ac258628ce7eebb8dc63", func := "forerunner/forerunnerlaw09.AmpReads", spec := "ampReads", unfollowed := true, recurses := true, apart := false }
def AmpReadsSaid : Prop := ampReadsRow.holds Try.pinned (OpenSpec.ofChange ampReadsSpec)

/-- ITS FALSE NEIGHBOUR: 'it returns false'. Refute it at one input. -/
def ampReadsWrong : ChangeSpec := { name := "ampReads", fn := fun _ => fun
  | [d1, d2, d3] => { results := [.lit (.bool false)], args := [d1, d2, d3] }
  | _ => none }
def AmpReadsWrongFalsely : Prop := ampReadsRow.holds Try.pinned (OpenSpec.ofChange ampReadsWrong)

/-- 'forerunnerlaw09.AmpTunes': WHATEVER THE INPUT: true; the input reads as it did. -/
def ampTunesSpec : ChangeSpec := { name := "ampTunes", fn := fun _ => fun
  | [d] => { results := [.lit (.bool true)], args := [d] }
  | _ => none }
def ampTunesRow : OpenClaim := { program := "ytmhdnafdbgbmfaa", sum := "702ae0f426f977f34a96336b498f4c8f693632198a75ac258628ce7eebb8dc63", func := "forerunner/forerunnerlaw09.AmpTunes", spec := "ampTunes", unfollowed := true, recurses := true, apart := false }
def AmpTunesSaid : Prop := ampTunesRow.holds Try.pinned (OpenSpec.ofChange ampTunesSpec)

/-- ITS FALSE NEIGHBOUR: 'it returns false'. Refute it at one input. -/
def ampTunesWrong : ChangeSpec := { name := "ampTunes", fn := fun _ => fun
  | [d] => { results := [.lit (.bool false)], args := [d] }
  | _ => none }
def AmpTunesWrongFalsely : Prop := ampTunesRow.holds Try.pinned (OpenSpec.ofChange ampTunesWrong)

/-- 'forerunnerlaw09.AmpKeeps': WHATEVER THE INPUT: true; the input reads as it did. -/
def ampKeepsSpec : ChangeSpec := { name := "ampKeeps", fn := fun _ => fun
  | [d1, d2, d3] => { results := [.lit (.bool true)], args := [d1, d2, d3] }
  | _ => none }
def ampKeepsRow : OpenClaim := { program := "ytmhdnafdbgbmfaa", sum := "702ae0f426f977f34a96336b498f4c8f693632198a75ac258628ce7eebb8dc63", func := "forerunner/forerunnerlaw09.AmpKeeps", spec := "ampKeeps", unfollowed := true, recurses := true, apart := false }
def AmpKeepsSaid : Prop := ampKeepsRow.holds Try.pinned (OpenSpec.ofChange ampKeepsSpec)

/-- ITS FALSE NEIGHBOUR: 'it returns false'. Refute it at one input. -/
def ampKeepsWrong : ChangeSpec := { name := "ampKeeps", fn := fun _ => fun
  | [d1, d2, d3] => { results := [.lit (.bool false)], args := [d1, d2, d3] }
  | _ => none }
def AmpKeepsWrongFalsely : Prop := ampKeepsRow.holds Try.pinned (OpenSpec.ofChange ampKeepsWrong)

/-- 'forerunnerlaw09.AmpAsks': WHATEVER THE INPUT: true; the input reads as it did. -/
def ampAsksSpec : ChangeSpec := { name := "ampAsks", fn := fun _ => fun
  | [d1, d2, d3] => { results := [.lit (.bool true)], args := [d1, d2, d3] }
  | _ => none }
def ampAsksRow : OpenClaim := { program := "ytmhdnafdbgbmfaa", sum := "702ae0f426f977f34a96336b498f4c8f693632198a75ac258628ce7eebb8dc63", func := "forerunner/forerunnerlaw09.AmpAsks", spec := "ampAsks", unfollowed := true, recurses := true, apart := false }
def AmpAsksSaid : Prop := ampAsksRow.holds Try.pinned (OpenSpec.ofChange ampAsksSpec)

/-- ITS FALSE NEIGHBOUR: 'it returns false'. Refute it at one input. -/
def ampAsksWrong : ChangeSpec := { name := "ampAsks", fn := fun _ => fun
  | [d1, d2, d3] => { results := [.lit (.bool false)], args := [d1, d2, d3] }
  | _ => none }
def AmpAsksWrongFalsely : Prop := ampAsksRow.holds Try.pinned (OpenSpec.ofChange ampAsksWrong)

/-- 'forerunnerlaw09.AmpSteady': WHATEVER THE INPUT: true; the input reads as it did. -/
def ampSteadySpec : ChangeSpec := { name := "ampSteady", fn := fun _ => fun
  | [d] => { results := [.lit (.bool true)], args := [d] }
  | _ => none }
def ampSteadyRow : OpenClaim := { program := "ytmhdnafdbgbmfaa", sum := "702ae0f426f977f34a96336b498f4c8f693632198a75ac258628ce7eebb8dc63", func := "forerunner/forerunnerlaw09.AmpSteady", spec := "ampSteady", unfollowed := true, recurses := true, apart := false }
def AmpSteadySaid : Prop := ampSteadyRow.holds Try.pinned (OpenSpec.ofChange ampSteadySpec)

/-- ITS FALSE NEIGHBOUR: 'it returns false'. Refute it at one input. -/
def ampSteadyWrong : ChangeSpec := { name := "ampSteady", fn := fun _ => fun
  | [d] => { results := [.lit (.bool false)], args := [d] }
  | _ => none }
def AmpSteadyWrongFalsely : Prop := ampSteadyRow.holds Try.pinned (OpenSpec.ofChange ampSteadyWrong)

/-- 'forerunnerlaw09.AmpTurns': WHATEVER THE INPUT: true; the input reads as it did. -/
def ampTurnsSpec : ChangeSpec := { name := "ampTurns", fn := fun _ => fun
  | [d1, d2] => { results := [.lit (.bool true)], args := [d1, d2] }
  | _ => none }
def ampTurnsRow : OpenClaim := { program := "ytmhdnafdbgbmfaa", sum := "702ae0f426f977f34a96336b498f4c8f693632198a75ac258628ce7eebb8dc63", func := "forerunner/forerunnerlaw09.AmpTurns", spec := "ampTurns", unfollowed := true, recurses := true, apart := false }
def AmpTurnsSaid : Prop := ampTurnsRow.holds Try.pinned (OpenSpec.ofChange ampTurnsSpec)

/-- ITS FALSE NEIGHBOUR: 'it returns false'. Refute it at one input. -/
def ampTurnsWrong : ChangeSpec := { name := "ampTurns", fn := fun _ => fun
  | [d1, d2] => { results := [.lit (.bool false)], args := [d1, d2] }
  | _ => none }
def AmpTurnsWrongFalsely : Prop := ampTurnsRow.holds Try.pinned (OpenSpec.ofChange ampTurnsWrong)

/-- 'forerunnerlaw04.PoolPlays': WHATEVER THE INPUT: true; the input reads as it did. -/
def poolPlaysSpec : ChangeSpec := { name := "poolPlays", fn := fun _ => fun
  | [d1, d2] => { results := [.lit (.bool true)], args := [d1, d2] }
  | _ => none }
def poolPlaysRow : OpenClaim := { program := "ytmhdnafdbgbmfaa", sum := "702ae0f426f977f34a96336b498f4c8f693632198a75ac258628ce7eebb8dc63", func := "forerunner/forerunnerlaw04.PoolPlays", spec := "poolPlays", unfollowed := true, recurses := true, apart := false }
def PoolPlaysSaid : Prop := poolPlaysRow.holds Try.pinned (OpenSpec.ofChange poolPlaysSpec)

/-- ITS FALSE NEIGHBOUR: 'it returns false'. Refute it at one input. -/
def poolPlaysWrong : ChangeSpec := { name := "poolPlays", fn := fun _ => fun
  | [d1, d2] => { results := [.lit (.bool false)], args := [d1, d2] }
  | _ => none }
def PoolPlaysWrongFalsely : Prop := poolPlaysRow.holds Try.pinned (OpenSpec.ofChange poolPlaysWrong)

/-- 'forerunnerlaw04.PoolKeeps': WHATEVER THE INPUT: true; the input reads as it did. -/
def poolKeepsSpec : ChangeSpec := { name := "poolKeeps", fn := fun _ => fun
  | [d1, d2] => { results := [.lit (.bool true)], args := [d1, d2] }
  | _ => none }
def poolKeepsRow : OpenClaim := { program := "ytmhdnafdbgbmfaa", sum := "702ae0f426f977f34a96336b498f4c8f693632198a75ac258628ce7eebb8dc63", func := "forerunner/forerunnerlaw04.PoolKeeps", spec := "poolKeeps", unfollowed := true, recurses := true, apart := false }
def PoolKeepsSaid : Prop := poolKeepsRow.holds Try.pinned (OpenSpec.ofChange poolKeepsSpec)

/-- ITS FALSE NEIGHBOUR: 'it returns false'. Refute it at one input. -/
def poolKeepsWrong : ChangeSpec := { name := "poolKeeps", fn := fun _ => fun
  | [d1, d2] => { results := [.lit (.bool false)], args := [d1, d2] }
  | _ => none }
def PoolKeepsWrongFalsely : Prop := poolKeepsRow.holds Try.pinned (OpenSpec.ofChange poolKeepsWrong)

/-- 'forerunnerlaw04.PoolLeast': WHATEVER THE INPUT: true; the input reads as it did. -/
def poolLeastSpec : ChangeSpec := { name := "poolLeast", fn := fun _ => fun
  | [d1, d2, d3] => { results := [.lit (.bool true)], args := [d1, d2, d3] }
  | _ => none }
def poolLeastRow : OpenClaim := { program := "ytmhdnafdbgbmfaa", sum := "702ae0f426f977f34a96336b498f4c8f693632198a75ac258628ce7eebb8dc63", func := "forerunner/forerunnerlaw04.PoolLeast", spec := "poolLeast", unfollowed := true, recurses := true, apart := false }
def PoolLeastSaid : Prop := poolLeastRow.holds Try.pinned (OpenSpec.ofChange poolLeastSpec)

/-- ITS FALSE NEIGHBOUR: 'it returns false'. Refute it at one input. -/
def poolLeastWrong : ChangeSpec := { name := "poolLeast", fn := fun _ => fun
  | [d1, d2, d3] => { results := [.lit (.bool false)], args := [d1, d2, d3] }
  | _ => none }
def PoolLeastWrongFalsely : Prop := poolLeastRow.holds Try.pinned (OpenSpec.ofChange poolLeastWrong)

/-- 'forerunnerlaw04.PoolFull': WHATEVER THE INPUT: true; the input reads as it did. -/
def poolFullSpec : ChangeSpec := { name := "poolFull", fn := fun _ => fun
  | [d1, d2] => { results := [.lit (.bool true)], args := [d1, d2] }
  | _ => none }
def poolFullRow : OpenClaim := { program := "ytmhdnafdbgbmfaa", sum := "702ae0f426f977f34a96336b498f4c8f693632198a75ac258628ce7eebb8dc63", func := "forerunner/forerunnerlaw04.PoolFull", spec := "poolFull", unfollowed := true, recurses := true, apart := false }
def PoolFullSaid : Prop := poolFullRow.holds Try.pinned (OpenSpec.ofChange poolFullSpec)

/-- ITS FALSE NEIGHBOUR: 'it returns false'. Refute it at one input. -/
def poolFullWrong : ChangeSpec := { name := "poolFull", fn := fun _ => fun
  | [d1, d2] => { results := [.lit (.bool false)], args := [d1, d2] }
  | _ => none }
def PoolFullWrongFalsely : Prop := poolFullRow.holds Try.pinned (OpenSpec.ofChange poolFullWrong)

/-- 'forerunnerlaw04.PoolPins': WHATEVER THE INPUT: true; the input reads as it did. -/
def poolPinsSpec : ChangeSpec := { name := "poolPins", fn := fun _ => fun
  | [d1, d2, d3] => { results := [.lit (.bool true)], args := [d1, d2, d3] }
  | _ => none }
def poolPinsRow : OpenClaim := { program := "ytmhdnafdbgbmfaa", sum := "702ae0f426f977f34a96336b498f4c8f693632198a75ac258628ce7eebb8dc63", func := "forerunner/forerunnerlaw04.PoolPins", spec := "poolPins", unfollowed := true, recurses := true, apart := false }
def PoolPinsSaid : Prop := poolPinsRow.holds Try.pinned (OpenSpec.ofChange poolPinsSpec)

/-- ITS FALSE NEIGHBOUR: 'it returns false'. Refute it at one input. -/
def poolPinsWrong : ChangeSpec := { name := "poolPins", fn := fun _ => fun
  | [d1, d2, d3] => { results := [.lit (.bool false)], args := [d1, d2, d3] }
  | _ => none }
def PoolPinsWrongFalsely : Prop := poolPinsRow.holds Try.pinned (OpenSpec.ofChange poolPinsWrong)

/- THE SECOND FORM. 'bulk': how many values and letters a reading holds, each counted each time it is reached (what is shared counts as often as it is met; a slice's spare places count too). A statement '..UptoSaid' is the law's where the arguments, and the package variables that the reading takes, are together of bulk at most 1048576: NARROWER than '..Said'. Prove '..Said' where nothing that the law and all that it calls make is longer than what came in: it says more and counts as full. Else prove '..UptoSaid'. A law counts once. -/
mutual
def uptoBulk {H : Type} : DataW H → Nat
  | .lit (.string bytes) => bytes.length + 1
  | .lit _ => 1
  | .nil => 1
  | .ptr d => uptoBulk d + 1
  | .slice elems spare => uptoBulkAll elems + uptoBulkAll spare + 1
  | .agg parts => uptoBulkAll parts + 1
  | .iface _ d => uptoBulk d + 1
  | .map entries => uptoBulkEntries entries + 1
  | .held _ => 1
def uptoBulkAll {H : Type} : List (DataW H) → Nat
  | [] => 0
  | d :: r => uptoBulk d + uptoBulkAll r
def uptoBulkEntries {H : Type} : List (Lit × DataW H) → Nat
  | [] => 0
  | x :: r => uptoBulkEntry x + uptoBulkEntries r
def uptoBulkEntry {H : Type} : Lit × DataW H → Nat
  | (.string bytes, d) => bytes.length + uptoBulk d + 1
  | (_, d) => uptoBulk d + 1
 end
def uptoSmall : (H : Type) → List (DataW H) → Bool := fun _ ds => decide (uptoBulkAll ds ≤ 1048576)
def OpenSpec.upto (s : _root_.Go.ChangeSpec) : _root_.Go.OpenSpec := { _root_.Go.OpenSpec.ofChange s with cond := some uptoSmall }

/-- 'forerunnerlaw09.AmpReads', WHERE WHAT IT READS IS OF BULK AT MOST 1048576: true; the input reads as it did. -/
def ampReadsUptoRow : OpenClaim := { program := "ytmhdnafdbgbmfaa", sum := "702ae0f426f977f34a96336b498f4c8f693632198a75ac258628ce7eebb8dc63", func := "forerunner/forerunnerlaw09.AmpReads", spec := "ampReads", unfollowed := true, recurses := true, apart := false, narrowed := true }
def AmpReadsUptoSaid : Prop := ampReadsUptoRow.holds Try.pinned (OpenSpec.upto ampReadsSpec)

/-- 'forerunnerlaw09.AmpTunes', WHERE WHAT IT READS IS OF BULK AT MOST 1048576: true; the input reads as it did. -/
def ampTunesUptoRow : OpenClaim := { program := "ytmhdnafdbgbmfaa", sum := "702ae0f426f977f34a96336b498f4c8f693632198a75ac258628ce7eebb8dc63", func := "forerunner/forerunnerlaw09.AmpTunes", spec := "ampTunes", unfollowed := true, recurses := true, apart := false, narrowed := true }
def AmpTunesUptoSaid : Prop := ampTunesUptoRow.holds Try.pinned (OpenSpec.upto ampTunesSpec)

/-- 'forerunnerlaw09.AmpKeeps', WHERE WHAT IT READS IS OF BULK AT MOST 1048576: true; the input reads as it did. -/
def ampKeepsUptoRow : OpenClaim := { program := "ytmhdnafdbgbmfaa", sum := "702ae0f426f977f34a96336b498f4c8f693632198a75ac258628ce7eebb8dc63", func := "forerunner/forerunnerlaw09.AmpKeeps", spec := "ampKeeps", unfollowed := true, recurses := true, apart := false, narrowed := true }
def AmpKeepsUptoSaid : Prop := ampKeepsUptoRow.holds Try.pinned (OpenSpec.upto ampKeepsSpec)

/-- 'forerunnerlaw09.AmpAsks', WHERE WHAT IT READS IS OF BULK AT MOST 1048576: true; the input reads as it did. -/
def ampAsksUptoRow : OpenClaim := { program := "ytmhdnafdbgbmfaa", sum := "702ae0f426f977f34a96336b498f4c8f693632198a75ac258628ce7eebb8dc63", func := "forerunner/forerunnerlaw09.AmpAsks", spec := "ampAsks", unfollowed := true, recurses := true, apart := false, narrowed := true }
def AmpAsksUptoSaid : Prop := ampAsksUptoRow.holds Try.pinned (OpenSpec.upto ampAsksSpec)

/-- 'forerunnerlaw09.AmpSteady', WHERE WHAT IT READS IS OF BULK AT MOST 1048576: true; the input reads as it did. -/
def ampSteadyUptoRow : OpenClaim := { program := "ytmhdnafdbgbmfaa", sum := "702ae0f426f977f34a96336b498f4c8f693632198a75ac258628ce7eebb8dc63", func := "forerunner/forerunnerlaw09.AmpSteady", spec := "ampSteady", unfollowed := true, recurses := true, apart := false, narrowed := true }
def AmpSteadyUptoSaid : Prop := ampSteadyUptoRow.holds Try.pinned (OpenSpec.upto ampSteadySpec)

/-- 'forerunnerlaw09.AmpTurns', WHERE WHAT IT READS IS OF BULK AT MOST 1048576: true; the input reads as it did. -/
def ampTurnsUptoRow : OpenClaim := { program := "ytmhdnafdbgbmfaa", sum := "702ae0f426f977f34a96336b498f4c8f693632198a75ac258628ce7eebb8dc63", func := "forerunner/forerunnerlaw09.AmpTurns", spec := "ampTurns", unfollowed := true, recurses := true, apart := false, narrowed := true }
def AmpTurnsUptoSaid : Prop := ampTurnsUptoRow.holds Try.pinned (OpenSpec.upto ampTurnsSpec)

/-- 'forerunnerlaw04.PoolPlays', WHERE WHAT IT READS IS OF BULK AT MOST 1048576: true; the input reads as it did. -/
def poolPlaysUptoRow : OpenClaim := { program := "ytmhdnafdbgbmfaa", sum := "702ae0f426f977f34a96336b498f4c8f693632198a75ac258628ce7eebb8dc63", func := "forerunner/forerunnerlaw04.PoolPlays", spec := "poolPlays", unfollowed := true, recurses := true, apart := false, narrowed := true }
def PoolPlaysUptoSaid : Prop := poolPlaysUptoRow.holds Try.pinned (OpenSpec.upto poolPlaysSpec)

/-- 'forerunnerlaw04.PoolKeeps', WHERE WHAT IT READS IS OF BULK AT MOST 1048576: true; the input reads as it did. -/
def poolKeepsUptoRow : OpenClaim := { program := "ytmhdnafdbgbmfaa", sum := "702ae0f426f977f34a96336b498f4c8f693632198a75ac258628ce7eebb8dc63", func := "forerunner/forerunnerlaw04.PoolKeeps", spec := "poolKeeps", unfollowed := true, recurses := true, apart := false, narrowed := true }
def PoolKeepsUptoSaid : Prop := poolKeepsUptoRow.holds Try.pinned (OpenSpec.upto poolKeepsSpec)

/-- 'forerunnerlaw04.PoolLeast', WHERE WHAT IT READS IS OF BULK AT MOST 1048576: true; the input reads as it did. -/
def poolLeastUptoRow : OpenClaim := { program := "ytmhdnafdbgbmfaa", sum := "702ae0f426f977f34a96336b498f4c8f693632198a75ac258628ce7eebb8dc63", func := "forerunner/forerunnerlaw04.PoolLeast", spec := "poolLeast", unfollowed := true, recurses := true, apart := false, narrowed := true }
def PoolLeastUptoSaid : Prop := poolLeastUptoRow.holds Try.pinned (OpenSpec.upto poolLeastSpec)

/-- 'forerunnerlaw04.PoolFull', WHERE WHAT IT READS IS OF BULK AT MOST 1048576: true; the input reads as it did. -/
def poolFullUptoRow : OpenClaim := { program := "ytmhdnafdbgbmfaa", sum := "702ae0f426f977f34a96336b498f4c8f693632198a75ac258628ce7eebb8dc63", func := "forerunner/forerunnerlaw04.PoolFull", spec := "poolFull", unfollowed := true, recurses := true, apart := false, narrowed := true }
def PoolFullUptoSaid : Prop := poolFullUptoRow.holds Try.pinned (OpenSpec.upto poolFullSpec)

/-- 'forerunnerlaw04.PoolPins', WHERE WHAT IT READS IS OF BULK AT MOST 1048576: true; the input reads as it did. -/
def poolPinsUptoRow : OpenClaim := { program := "ytmhdnafdbgbmfaa", sum := "702ae0f426f977f34a96336b498f4c8f693632198a75ac258628ce7eebb8dc63", func := "forerunner/forerunnerlaw04.PoolPins", spec := "poolPins", unfollowed := true, recurses := true, apart := false, narrowed := true }
def PoolPinsUptoSaid : Prop := poolPinsUptoRow.holds Try.pinned (OpenSpec.upto poolPinsSpec)

end Rows
end Go.Proofs.Ytmhdnafdbgbmfaa
