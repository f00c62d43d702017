/-
  No cell of these rows narrows 'for every input' (looked for: loops, veiled, ifaces, maps, wideKeys, modest, calm, conditions, laid).
  DERIVED. THE GIVEN ROWS OF THIS SEAT. 10 by the template 'for every input the law returns true; each argument reads behind the call as it read before'; 0 by the template 'total and deterministic' (their statements: YtoapobhdpgcmbaaTotals.lean).
  GIVEN WITH THE SEED: the statements are not yours to turn. If you find one false, say at which input.
  Laid BY PROGRAM, IN A SANDBOX (cutbox-rows.mjs): the forced cells as the released guide's own fill.sh prints them over the translation 6aad414e6bc4ba12… (all of the seat's roots in one cut). By AI agents, Wed Nov 11 2026. No macro, syntax, notation, axiom, sorry.
-/
import Derived.Test.YtoapobhdpgcmbaaChecked
import GoSem.Claim
import GoSem.ClaimJoined
import GoSem.ClaimMapViews
import Derived.JoinedTies
import Derived.KernelRfl
namespace Go.Proofs.Ytoapobhdpgcmbaa
/- THE CELL 'sum', in the pinned program and in every row, IS THE sha256 OF THE DUMP (.gsa) THAT YtoapobhdpgcmbaaProg.lean LOADS. Nothing in Lean hashes anything: it is a label: what it is worth is what the hold of that sum in a sandbox is worth. -/
noncomputable def Try.pinned : Pinned := { name := "ytoapobhdpgcmbaa", sum := "6aad414e6bc4ba12a18019f28c8e8fdf3b64c7a934064ac24b7d0c6b0ad97b1c", checked := Try.checked }
namespace Rows
def none {H : Type} : Left H := { results := [], args := [] }

/-- 'forerunnerlaw10.StreamPlays': WHATEVER THE INPUT: true; the input reads as it did. -/
def streamPlaysSpec : ChangeSpec := { name := "streamPlays", fn := fun _ => fun
  | [d1, d2] => { results := [.lit (.bool true)], args := [d1, d2] }
  | _ => none }
def streamPlaysRow : OpenClaim := { program := "ytoapobhdpgcmbaa", sum := "6aad414e6bc4ba12a18019f28c8e8fdf3b64c7a934064ac24b7d0c6b0ad97b1c", func := "forerunner/forerunnerlaw10.StreamPlays", spec := "streamPlays", unfollowed := true, recurses := true, plainKeys := false, apart := false }
def StreamPlaysSaid : Prop := streamPlaysRow.holds Try.pinned (OpenSpec.ofChange streamPlaysSpec)

/-- ITS FALSE NEIGHBOUR: 'it returns false'. Refute it at one input. -/
def streamPlaysWrong : ChangeSpec := { name := "streamPlays", fn := fun _ => fun
  | [d1, d2] => { results := [.lit (.bool false)], args := [d1, d2] }
  | _ => none }
def StreamPlaysWrongFalsely : Prop := streamPlaysRow.holds Try.pinned (OpenSpec.ofChange streamPlaysWrong)

/-- 'forerunnerlaw10.StreamNumbers': WHATEVER THE INPUT: true; the input reads as it did. -/
def streamNumbersSpec : ChangeSpec := { name := "streamNumbers", fn := fun _ => fun
  | [d1, d2] => { results := [.lit (.bool true)], args := [d1, d2] }
  | _ => none }
def streamNumbersRow : OpenClaim := { program := "ytoapobhdpgcmbaa", sum := "6aad414e6bc4ba12a18019f28c8e8fdf3b64c7a934064ac24b7d0c6b0ad97b1c", func := "forerunner/forerunnerlaw10.StreamNumbers", spec := "streamNumbers", unfollowed := true, recurses := true, plainKeys := false, apart := false }
def StreamNumbersSaid : Prop := streamNumbersRow.holds Try.pinned (OpenSpec.ofChange streamNumbersSpec)

/-- ITS FALSE NEIGHBOUR: 'it returns false'. Refute it at one input. -/
def streamNumbersWrong : ChangeSpec := { name := "streamNumbers", fn := fun _ => fun
  | [d1, d2] => { results := [.lit (.bool false)], args := [d1, d2] }
  | _ => none }
def StreamNumbersWrongFalsely : Prop := streamNumbersRow.holds Try.pinned (OpenSpec.ofChange streamNumbersWrong)

/-- 'forerunnerlaw10.StreamReads': WHATEVER THE INPUT: true; the input reads as it did. -/
def streamReadsSpec : ChangeSpec := { name := "streamReads", fn := fun _ => fun
  | [d1, d2, d3] => { results := [.lit (.bool true)], args := [d1, d2, d3] }
  | _ => none }
def streamReadsRow : OpenClaim := { program := "ytoapobhdpgcmbaa", sum := "6aad414e6bc4ba12a18019f28c8e8fdf3b64c7a934064ac24b7d0c6b0ad97b1c", func := "forerunner/forerunnerlaw10.StreamReads", spec := "streamReads", unfollowed := true, recurses := true, plainKeys := false, apart := false }
def StreamReadsSaid : Prop := streamReadsRow.holds Try.pinned (OpenSpec.ofChange streamReadsSpec)

/-- ITS FALSE NEIGHBOUR: 'it returns false'. Refute it at one input. -/
def streamReadsWrong : ChangeSpec := { name := "streamReads", fn := fun _ => fun
  | [d1, d2, d3] => { results := [.lit (.bool false)], args := [d1, d2, d3] }
  | _ => none }
def StreamReadsWrongFalsely : Prop := streamReadsRow.holds Try.pinned (OpenSpec.ofChange streamReadsWrong)

/-- 'forerunnerlaw10.StreamOldest': WHATEVER THE INPUT: true; the input reads as it did. -/
def streamOldestSpec : ChangeSpec := { name := "streamOldest", fn := fun _ => fun
  | [d1, d2] => { results := [.lit (.bool true)], args := [d1, d2] }
  | _ => none }
def streamOldestRow : OpenClaim := { program := "ytoapobhdpgcmbaa", sum := "6aad414e6bc4ba12a18019f28c8e8fdf3b64c7a934064ac24b7d0c6b0ad97b1c", func := "forerunner/forerunnerlaw10.StreamOldest", spec := "streamOldest", unfollowed := true, recurses := true, plainKeys := false, apart := false }
def StreamOldestSaid : Prop := streamOldestRow.holds Try.pinned (OpenSpec.ofChange streamOldestSpec)

/-- ITS FALSE NEIGHBOUR: 'it returns false'. Refute it at one input. -/
def streamOldestWrong : ChangeSpec := { name := "streamOldest", fn := fun _ => fun
  | [d1, d2] => { results := [.lit (.bool false)], args := [d1, d2] }
  | _ => none }
def StreamOldestWrongFalsely : Prop := streamOldestRow.holds Try.pinned (OpenSpec.ofChange streamOldestWrong)

/-- 'forerunnerlaw10.StreamRefuses': WHATEVER THE INPUT: true; the input reads as it did. -/
def streamRefusesSpec : ChangeSpec := { name := "streamRefuses", fn := fun _ => fun
  | [d1, d2, d3] => { results := [.lit (.bool true)], args := [d1, d2, d3] }
  | _ => none }
def streamRefusesRow : OpenClaim := { program := "ytoapobhdpgcmbaa", sum := "6aad414e6bc4ba12a18019f28c8e8fdf3b64c7a934064ac24b7d0c6b0ad97b1c", func := "forerunner/forerunnerlaw10.StreamRefuses", spec := "streamRefuses", unfollowed := true, recurses := true, plainKeys := false, apart := false }
def StreamRefusesSaid : Prop := streamRefusesRow.holds Try.pinned (OpenSpec.ofChange streamRefusesSpec)

/-- ITS FALSE NEIGHBOUR: 'it returns false'. Refute it at one input. -/
def streamRefusesWrong : ChangeSpec := { name := "streamRefuses", fn := fun _ => fun
  | [d1, d2, d3] => { results := [.lit (.bool false)], args := [d1, d2, d3] }
  | _ => none }
def StreamRefusesWrongFalsely : Prop := streamRefusesRow.holds Try.pinned (OpenSpec.ofChange streamRefusesWrong)

/-- 'forerunnerlaw14.WaitOthers': WHATEVER THE INPUT: true; the input reads as it did. -/
def waitOthersSpec : ChangeSpec := { name := "waitOthers", fn := fun _ => fun
  | [d1, d2, d3] => { results := [.lit (.bool true)], args := [d1, d2, d3] }
  | _ => none }
def waitOthersRow : OpenClaim := { program := "ytoapobhdpgcmbaa", sum := "6aad414e6bc4ba12a18019f28c8e8fdf3b64c7a934064ac24b7d0c6b0ad97b1c", func := "forerunner/forerunnerlaw14.WaitOthers", spec := "waitOthers", unfollowed := true, recurses := true, plainKeys := false, apart := false }
def WaitOthersSaid : Prop := waitOthersRow.holds Try.pinned (OpenSpec.ofChange waitOthersSpec)

/-- ITS FALSE NEIGHBOUR: 'it returns false'. Refute it at one input. -/
def waitOthersWrong : ChangeSpec := { name := "waitOthers", fn := fun _ => fun
  | [d1, d2, d3] => { results := [.lit (.bool false)], args := [d1, d2, d3] }
  | _ => none }
def WaitOthersWrongFalsely : Prop := waitOthersRow.holds Try.pinned (OpenSpec.ofChange waitOthersWrong)

/-- 'forerunnerlaw14.WaitPlays': WHATEVER THE INPUT: true; the input reads as it did. -/
def waitPlaysSpec : ChangeSpec := { name := "waitPlays", fn := fun _ => fun
  | [d1, d2] => { results := [.lit (.bool true)], args := [d1, d2] }
  | _ => none }
def waitPlaysRow : OpenClaim := { program := "ytoapobhdpgcmbaa", sum := "6aad414e6bc4ba12a18019f28c8e8fdf3b64c7a934064ac24b7d0c6b0ad97b1c", func := "forerunner/forerunnerlaw14.WaitPlays", spec := "waitPlays", unfollowed := true, recurses := true, plainKeys := false, apart := false }
def WaitPlaysSaid : Prop := waitPlaysRow.holds Try.pinned (OpenSpec.ofChange waitPlaysSpec)

/-- ITS FALSE NEIGHBOUR: 'it returns false'. Refute it at one input. -/
def waitPlaysWrong : ChangeSpec := { name := "waitPlays", fn := fun _ => fun
  | [d1, d2] => { results := [.lit (.bool false)], args := [d1, d2] }
  | _ => none }
def WaitPlaysWrongFalsely : Prop := waitPlaysRow.holds Try.pinned (OpenSpec.ofChange waitPlaysWrong)

/-- 'forerunnerlaw14.WaitTakes': WHATEVER THE INPUT: true; the input reads as it did. -/
def waitTakesSpec : ChangeSpec := { name := "waitTakes", fn := fun _ => fun
  | [d1, d2, d3] => { results := [.lit (.bool true)], args := [d1, d2, d3] }
  | _ => none }
def waitTakesRow : OpenClaim := { program := "ytoapobhdpgcmbaa", sum := "6aad414e6bc4ba12a18019f28c8e8fdf3b64c7a934064ac24b7d0c6b0ad97b1c", func := "forerunner/forerunnerlaw14.WaitTakes", spec := "waitTakes", unfollowed := true, recurses := true, plainKeys := false, apart := false }
def WaitTakesSaid : Prop := waitTakesRow.holds Try.pinned (OpenSpec.ofChange waitTakesSpec)

/-- ITS FALSE NEIGHBOUR: 'it returns false'. Refute it at one input. -/
def waitTakesWrong : ChangeSpec := { name := "waitTakes", fn := fun _ => fun
  | [d1, d2, d3] => { results := [.lit (.bool false)], args := [d1, d2, d3] }
  | _ => none }
def WaitTakesWrongFalsely : Prop := waitTakesRow.holds Try.pinned (OpenSpec.ofChange waitTakesWrong)

/-- 'forerunnerlaw14.WaitRoom': WHATEVER THE INPUT: true; the input reads as it did. -/
def waitRoomSpec : ChangeSpec := { name := "waitRoom", fn := fun _ => fun
  | [d1, d2, d3] => { results := [.lit (.bool true)], args := [d1, d2, d3] }
  | _ => none }
def waitRoomRow : OpenClaim := { program := "ytoapobhdpgcmbaa", sum := "6aad414e6bc4ba12a18019f28c8e8fdf3b64c7a934064ac24b7d0c6b0ad97b1c", func := "forerunner/forerunnerlaw14.WaitRoom", spec := "waitRoom", unfollowed := true, recurses := true, plainKeys := false, apart := false }
def WaitRoomSaid : Prop := waitRoomRow.holds Try.pinned (OpenSpec.ofChange waitRoomSpec)

/-- ITS FALSE NEIGHBOUR: 'it returns false'. Refute it at one input. -/
def waitRoomWrong : ChangeSpec := { name := "waitRoom", fn := fun _ => fun
  | [d1, d2, d3] => { results := [.lit (.bool false)], args := [d1, d2, d3] }
  | _ => none }
def WaitRoomWrongFalsely : Prop := waitRoomRow.holds Try.pinned (OpenSpec.ofChange waitRoomWrong)

/-- 'forerunnerlaw14.WaitOrder': WHATEVER THE INPUT: true; the input reads as it did. -/
def waitOrderSpec : ChangeSpec := { name := "waitOrder", fn := fun _ => fun
  | [d] => { results := [.lit (.bool true)], args := [d] }
  | _ => none }
def waitOrderRow : OpenClaim := { program := "ytoapobhdpgcmbaa", sum := "6aad414e6bc4ba12a18019f28c8e8fdf3b64c7a934064ac24b7d0c6b0ad97b1c", func := "forerunner/forerunnerlaw14.WaitOrder", spec := "waitOrder", unfollowed := true, recurses := true, plainKeys := false, apart := false }
def WaitOrderSaid : Prop := waitOrderRow.holds Try.pinned (OpenSpec.ofChange waitOrderSpec)

/-- ITS FALSE NEIGHBOUR: 'it returns false'. Refute it at one input. -/
def waitOrderWrong : ChangeSpec := { name := "waitOrder", fn := fun _ => fun
  | [d] => { results := [.lit (.bool false)], args := [d] }
  | _ => none }
def WaitOrderWrongFalsely : Prop := waitOrderRow.holds Try.pinned (OpenSpec.ofChange waitOrderWrong)

/- THE SECOND FORM. 'bulk': how many values and letters a reading holds, each counted each time it is reached (what is shared counts as often as it is met; a slice's spare places count too). A statement '..UptoSaid' is the law's where the arguments, and the package variables that the reading takes, are together of bulk at most 1048576: NARROWER than '..Said'. Prove '..Said' where nothing that the law and all that it calls make is longer than what came in: it says more and counts as full. Else prove '..UptoSaid'. A law counts once. -/
mutual
def uptoBulk {H : Type} : DataW H → Nat
  | .lit (.string bytes) => bytes.length + 1
  | .lit _ => 1
  | .nil => 1
  | .ptr d => uptoBulk d + 1
  | .slice elems spare => uptoBulkAll elems + uptoBulkAll spare + 1
  | .agg parts => uptoBulkAll parts + 1
  | .iface _ d => uptoBulk d + 1
  | .map entries => uptoBulkEntries entries + 1
  | .held _ => 1
def uptoBulkAll {H : Type} : List (DataW H) → Nat
  | [] => 0
  | d :: r => uptoBulk d + uptoBulkAll r
def uptoBulkEntries {H : Type} : List (Lit × DataW H) → Nat
  | [] => 0
  | x :: r => uptoBulkEntry x + uptoBulkEntries r
def uptoBulkEntry {H : Type} : Lit × DataW H → Nat
  | (.string bytes, d) => bytes.length + uptoBulk d + 1
  | (_, d) => uptoBulk d + 1
 end
def uptoSmall : (H : Type) → List (DataW H) → Bool := fun _ ds => decide (uptoBulkAll ds ≤ 1048576)
def OpenSpec.upto (s : _root_.Go.ChangeSpec) : _root_.Go.OpenSpec := { _root_.Go.OpenSpec.ofChange s with cond := some uptoSmall }

/-- 'forerunnerlaw10.StreamPlays', WHERE WHAT IT READS IS OF BULK AT MOST 1048576: true; the input reads as it did. -/
def streamPlaysUptoRow : OpenClaim := { program := "ytoapobhdpgcmbaa", sum := "6aad414e6bc4ba12a18019f28c8e8fdf3b64c7a934064ac24b7d0c6b0ad97b1c", func := "forerunner/forerunnerlaw10.StreamPlays", spec := "streamPlays", unfollowed := true, recurses := true, plainKeys := false, apart := false, narrowed := true }
def StreamPlaysUptoSaid : Prop := streamPlaysUptoRow.holds Try.pinned (OpenSpec.upto streamPlaysSpec)

/-- 'forerunnerlaw10.StreamNumbers', WHERE WHAT IT READS IS OF BULK AT MOST 1048576: true; the input reads as it did. -/
def streamNumbersUptoRow : OpenClaim := { program := "ytoapobhdpgcmbaa", sum := "6aad414e6bc4ba12a18019f28c8e8fdf3b64c7a934064ac24b7d0c6b0ad97b1c", func := "forerunner/forerunnerlaw10.StreamNumbers", spec := "streamNumbers", unfollowed := true, recurses := true, plainKeys := false, apart := false, narrowed := true }
def StreamNumbersUptoSaid : Prop := streamNumbersUptoRow.holds Try.pinned (OpenSpec.upto streamNumbersSpec)

/-- 'forerunnerlaw10.StreamReads', WHERE WHAT IT READS IS OF BULK AT MOST 1048576: true; the input reads as it did. -/
def streamReadsUptoRow : OpenClaim := { program := "ytoapobhdpgcmbaa", sum := "6aad414e6bc4ba12a18019f28c8e8fdf3b64c7a934064ac24b7d0c6b0ad97b1c", func := "forerunner/forerunnerlaw10.StreamReads", spec := "streamReads", unfollowed := true, recurses := true, plainKeys := false, apart := false, narrowed := true }
def StreamReadsUptoSaid : Prop := streamReadsUptoRow.holds Try.pinned (OpenSpec.upto streamReadsSpec)

/-- 'forerunnerlaw10.StreamOldest', WHERE WHAT IT READS IS OF BULK AT MOST 1048576: true; the input reads as it did. -/
def streamOldestUptoRow : OpenClaim := { program := "ytoapobhdpgcmbaa", sum := "6aad414e6bc4ba12a18019f28c8e8fdf3b64c7a934064ac24b7d0c6b0ad97b1c", func := "forerunner/forerunnerlaw10.StreamOldest", spec := "streamOldest", unfollowed := true, recurses := true, plainKeys := false, apart := false, narrowed := true }
def StreamOldestUptoSaid : Prop := streamOldestUptoRow.holds Try.pinned (OpenSpec.upto streamOldestSpec)

/-- 'forerunnerlaw10.StreamRefuses', WHERE WHAT IT READS IS OF BULK AT MOST 1048576: true; the input reads as it did. -/
def streamRefusesUptoRow : OpenClaim := { program := "ytoapobhdpgcmbaa", sum := "6aad414e6bc4ba12a18019f28c8e8fdf3b64c7a934064ac24b7d0c6b0ad97b1c", func := "forerunner/forerunnerlaw10.StreamRefuses", spec := "streamRefuses", unfollowed := true, recurses := true, plainKeys := false, apart := false, narrowed := true }
def StreamRefusesUptoSaid : Prop := streamRefusesUptoRow.holds Try.pinned (OpenSpec.upto streamRefusesSpec)

/-- 'forerunnerlaw14.WaitOthers', WHERE WHAT IT READS IS OF BULK AT MOST 1048576: true; the input reads as it did. -/
def waitOthersUptoRow : OpenClaim := { program := "ytoapobhdpgcmbaa", sum := "6aad414e6bc4ba12a18019f28c8e8fdf3b64c7a934064ac24b7d0c6b0ad97b1c", func := "forerunner/forerunnerlaw14.WaitOthers", spec := "waitOthers", unfollowed := true, recurses := true, plainKeys := false, apart := false, narrowed := true }
def WaitOthersUptoSaid : Prop := waitOthersUptoRow.holds Try.pinned (OpenSpec.upto waitOthersSpec)

/-- 'forerunnerlaw14.WaitPlays', WHERE WHAT IT READS IS OF BULK AT MOST 1048576: true; the input reads as it did. -/
def waitPlaysUptoRow : OpenClaim := { program := "ytoapobhdpgcmbaa", sum := "6aad414e6bc4ba12a18019f28c8e8fdf3b64c7a934064ac24b7d0c6b0ad97b1c", func := "forerunner/forerunnerlaw14.WaitPlays", spec := "waitPlays", unfollowed := true, recurses := true, plainKeys := false, apart := false, narrowed := true }
def WaitPlaysUptoSaid : Prop := waitPlaysUptoRow.holds Try.pinned (OpenSpec.upto waitPlaysSpec)

/-- 'forerunnerlaw14.WaitTakes', WHERE WHAT IT READS IS OF BULK AT MOST 1048576: true; the input reads as it did. -/
def waitTakesUptoRow : OpenClaim := { program := "ytoapobhdpgcmbaa", sum := "6aad414e6bc4ba12a18019f28c8e8fdf3b64c7a934064ac24b7d0c6b0ad97b1c", func := "forerunner/forerunnerlaw14.WaitTakes", spec := "waitTakes", unfollowed := true, recurses := true, plainKeys := false, apart := false, narrowed := true }
def WaitTakesUptoSaid : Prop := waitTakesUptoRow.holds Try.pinned (OpenSpec.upto waitTakesSpec)

/-- 'forerunnerlaw14.WaitRoom', WHERE WHAT IT READS IS OF BULK AT MOST 1048576: true; the input reads as it did. -/
def waitRoomUptoRow : OpenClaim := { program := "ytoapobhdpgcmbaa", sum := "6aad414e6bc4ba12a18019f28c8e8fdf3b64c7a934064ac24b7d0c6b0ad97b1c", func := "forerunner/forerunnerlaw14.WaitRoom", spec := "waitRoom", unfollowed := true, recurses := true, plainKeys := false, apart := false, narrowed := true }
def WaitRoomUptoSaid : Prop := waitRoomUptoRow.holds Try.pinned (OpenSpec.upto waitRoomSpec)

/-- 'forerunnerlaw14.WaitOrder', WHERE WHAT IT READS IS OF BULK AT MOST 1048576: true; the input reads as it did. -/
def waitOrderUptoRow : OpenClaim := { program := "ytoapobhdpgcmbaa", sum := "6aad414e6bc4ba12a18019f28c8e8fdf3b64c7a934064ac24b7d0c6b0ad97b1c", func := "forerunner/forerunnerlaw14.WaitOrder", spec := "waitOrder", unfollowed := true, recurses := true, plainKeys := false, apart := false, narrowed := true }
def WaitOrderUptoSaid : Prop := waitOrderUptoRow.holds Try.pinned (OpenSpec.upto waitOrderSpec)

end Rows
end Go.Proofs.Ytoapobhdpgcmbaa
