/-
  DERIVED. GIVEN WITH THE SEED: THE CARDS: each row of YtoebfpimojkamaaDoorRows.lean that lists a variable, with what it lists TIED to the program's text (the seventh form; the later family's looks); each row that meets fmt, with fmt's text TOLD by the authors' own Lean function (tested against real Go, not proved from fmt's source: count such statements apart). THE CARD IS WHAT COUNTS. Prove the row's statement (the work); the ties are given (YtoebfpimojkamaaDoorTie.lean); close each card by the builder's one call (the guide's Derived/Test/ToyasCard.lean, 'card_holds'). Laid BY PROGRAM, IN A SANDBOX (cutbox-door.mjs). By AI agents, Wed Nov 11 2026. No macro, syntax, notation, axiom, sorry.
-/
import Derived.Test.YtoebfpimojkamaaDoorRows
import GoSem.ClaimSeven
namespace Go.Proofs.YtoebfpimojkamaaDoor
namespace Rows

/-- THE TIED CARD OF 'forerunnerlaw24.WireApart'. -/
def wireApartCard : Claim7 := { stood := { row := wireApartRow, standIns := [], harness := (true, "9f42a9e17360a209799e0d6f9f075bdaf305bcfc782e9b540007228c353a24cd"), looks := true }, kinds := [], alts := [], laidByText := true, laidKinds := [.handle, .sentinel], laidTests := true, laidLooks := .later }
def WireApartCardSaid : Prop := Claim7.holds Tryd.pinned (.plain (OpenSpec.ofChange wireApartSpec)) wireApartCard

/-- THE TIED CARD OF 'forerunnerlaw24.WireShort'. -/
def wireShortCard : Claim7 := { stood := { row := wireShortRow, standIns := [], harness := (true, "9f42a9e17360a209799e0d6f9f075bdaf305bcfc782e9b540007228c353a24cd"), looks := true }, kinds := [], alts := [], laidByText := true, laidKinds := [.handle, .sentinel], laidTests := true, laidLooks := .later }
def WireShortCardSaid : Prop := Claim7.holds Tryd.pinned (.plain (OpenSpec.ofChange wireShortSpec)) wireShortCard

/-- THE TIED CARD OF 'forerunnerlaw24.WirePuts'. -/
def wirePutsCard : Claim7 := { stood := { row := wirePutsRow, standIns := [], harness := (true, "9f42a9e17360a209799e0d6f9f075bdaf305bcfc782e9b540007228c353a24cd"), looks := true }, kinds := [], alts := [], laidByText := true, laidKinds := [.handle, .sentinel], laidTests := true, laidLooks := .later }
def WirePutsCardSaid : Prop := Claim7.holds Tryd.pinned (.plain (OpenSpec.ofChange wirePutsSpec)) wirePutsCard

/-- THE TIED CARD OF 'forerunnerlaw24.WireAgain'. -/
def wireAgainCard : Claim7 := { stood := { row := wireAgainRow, standIns := [], harness := (true, "9f42a9e17360a209799e0d6f9f075bdaf305bcfc782e9b540007228c353a24cd"), looks := true }, kinds := [], alts := [], laidByText := true, laidKinds := [.handle, .sentinel], laidTests := true, laidLooks := .later }
def WireAgainCardSaid : Prop := Claim7.holds Tryd.pinned (.plain (OpenSpec.ofChange wireAgainSpec)) wireAgainCard

/-- THE TIED CARD OF 'forerunnerlaw24.WireReads'. -/
def wireReadsCard : Claim7 := { stood := { row := wireReadsRow, standIns := [], harness := (true, "9f42a9e17360a209799e0d6f9f075bdaf305bcfc782e9b540007228c353a24cd"), looks := true }, kinds := [], alts := [], laidByText := true, laidKinds := [.handle, .sentinel], laidTests := true, laidLooks := .later }
def WireReadsCardSaid : Prop := Claim7.holds Tryd.pinned (.plain (OpenSpec.ofChange wireReadsSpec)) wireReadsCard

/-- THE TIED CARD OF 'forerunnerlaw24.WireBack'. -/
def wireBackCard : Claim7 := { stood := { row := wireBackRow, standIns := [], harness := (true, "9f42a9e17360a209799e0d6f9f075bdaf305bcfc782e9b540007228c353a24cd"), looks := true }, kinds := [], alts := [], laidByText := true, laidKinds := [.handle, .sentinel], laidTests := true, laidLooks := .later }
def WireBackCardSaid : Prop := Claim7.holds Tryd.pinned (.plain (OpenSpec.ofChange wireBackSpec)) wireBackCard

/-- THE SECOND FORM's CARD OF 'forerunnerlaw24.WireApart'. -/
def wireApartUptoCard : Claim7 := { stood := { row := wireApartUptoRow, standIns := [], harness := (true, "9f42a9e17360a209799e0d6f9f075bdaf305bcfc782e9b540007228c353a24cd"), looks := true }, kinds := [], alts := [], laidByText := true, laidKinds := [.handle, .sentinel], laidTests := true, laidLooks := .later }
def WireApartUptoCardSaid : Prop := Claim7.holds Tryd.pinned (.plain (OpenSpec.upto wireApartSpec)) wireApartUptoCard

/-- THE SECOND FORM's CARD OF 'forerunnerlaw24.WireShort'. -/
def wireShortUptoCard : Claim7 := { stood := { row := wireShortUptoRow, standIns := [], harness := (true, "9f42a9e17360a209799e0d6f9f075bdaf305bcfc782e9b540007228c353a24cd"), looks := true }, kinds := [], alts := [], laidByText := true, laidKinds := [.handle, .sentinel], laidTests := true, laidLooks := .later }
def WireShortUptoCardSaid : Prop := Claim7.holds Tryd.pinned (.plain (OpenSpec.upto wireShortSpec)) wireShortUptoCard

/-- THE SECOND FORM's CARD OF 'forerunnerlaw24.WirePuts'. -/
def wirePutsUptoCard : Claim7 := { stood := { row := wirePutsUptoRow, standIns := [], harness := (true, "9f42a9e17360a209799e0d6f9f075bdaf305bcfc782e9b540007228c353a24cd"), looks := true }, kinds := [], alts := [], laidByText := true, laidKinds := [.handle, .sentinel], laidTests := true, laidLooks := .later }
def WirePutsUptoCardSaid : Prop := Claim7.holds Tryd.pinned (.plain (OpenSpec.upto wirePutsSpec)) wirePutsUptoCard

/-- THE SECOND FORM's CARD OF 'forerunnerlaw24.WireAgain'. -/
def wireAgainUptoCard : Claim7 := { stood := { row := wireAgainUptoRow, standIns := [], harness := (true, "9f42a9e17360a209799e0d6f9f075bdaf305bcfc782e9b540007228c353a24cd"), looks := true }, kinds := [], alts := [], laidByText := true, laidKinds := [.handle, .sentinel], laidTests := true, laidLooks := .later }
def WireAgainUptoCardSaid : Prop := Claim7.holds Tryd.pinned (.plain (OpenSpec.upto wireAgainSpec)) wireAgainUptoCard

/-- THE SECOND FORM's CARD OF 'forerunnerlaw24.WireReads'. -/
def wireReadsUptoCard : Claim7 := { stood := { row := wireReadsUptoRow, standIns := [], harness := (true, "9f42a9e17360a209799e0d6f9f075bdaf305bcfc782e9b540007228c353a24cd"), looks := true }, kinds := [], alts := [], laidByText := true, laidKinds := [.handle, .sentinel], laidTests := true, laidLooks := .later }
def WireReadsUptoCardSaid : Prop := Claim7.holds Tryd.pinned (.plain (OpenSpec.upto wireReadsSpec)) wireReadsUptoCard

/-- THE SECOND FORM's CARD OF 'forerunnerlaw24.WireBack'. -/
def wireBackUptoCard : Claim7 := { stood := { row := wireBackUptoRow, standIns := [], harness := (true, "9f42a9e17360a209799e0d6f9f075bdaf305bcfc782e9b540007228c353a24cd"), looks := true }, kinds := [], alts := [], laidByText := true, laidKinds := [.handle, .sentinel], laidTests := true, laidLooks := .later }
def WireBackUptoCardSaid : Prop := Claim7.holds Tryd.pinned (.plain (OpenSpec.upto wireBackSpec)) wireBackUptoCard
end Rows
end Go.Proofs.YtoebfpimojkamaaDoor
