/-
  DERIVED. GIVEN WITH THE SEED: THE CARDS: each row of YtljnbbdhmlfhjaaGreatDoorRows.lean that lists a variable, with what it lists TIED to the program's text (the seventh form; the later family's looks); each row that meets fmt, with fmt's text TOLD by the authors' own Lean function (tested against real Go, not proved from fmt's source: count such statements apart). THE CARD IS WHAT COUNTS. Prove the row's statement (the work); the ties are given (YtljnbbdhmlfhjaaGreatDoorTie.lean); close each card by the builder's one call (the guide's Derived/Test/ToyasCard.lean, 'card_holds'). Laid BY PROGRAM, IN A SANDBOX (cutbox-door.mjs). By AI agents, Wed Nov 11 2026. No macro, syntax, notation, axiom, sorry.
-/
import Derived.Test.YtljnbbdhmlfhjaaGreatDoorRows
import GoSem.ClaimSeven
namespace Go.Proofs.YtljnbbdhmlfhjaaGreatDoor
namespace Rows

/-- THE TIED CARD OF 'garnerlaw23.WirePush'. -/
def wirePushCard : Claim7 := { stood := { row := wirePushRow, standIns := [], harness := (true, "3e4b2eb0d8439022e23f293ad8bff460d0f0035c951a6135c626762ffb3ff126"), looks := true }, kinds := [], alts := [], laidByText := true, laidKinds := [.data, .data, .data, .data, .sentinel, .sentinel, .pinned], laidTests := true, laidLooks := .later }
def WirePushCardSaid : Prop := Claim7.holds Tryz.pinned (.plain (OpenSpec.ofChange wirePushSpec)) wirePushCard

/-- THE TIED CARD OF 'garnerlaw23.WireBack'. -/
def wireBackCard : Claim7 := { stood := { row := wireBackRow, standIns := [], harness := (true, "3e4b2eb0d8439022e23f293ad8bff460d0f0035c951a6135c626762ffb3ff126"), looks := true }, kinds := [], alts := [], laidByText := true, laidKinds := [.data, .data, .data, .data, .sentinel, .sentinel, .pinned], laidTests := true, laidLooks := .later }
def WireBackCardSaid : Prop := Claim7.holds Tryz.pinned (.plain (OpenSpec.ofChange wireBackSpec)) wireBackCard

/-- THE TIED CARD OF 'garnerlaw23.WireReads'. -/
def wireReadsCard : Claim7 := { stood := { row := wireReadsRow, standIns := [], harness := (true, "3e4b2eb0d8439022e23f293ad8bff460d0f0035c951a6135c626762ffb3ff126"), looks := true }, kinds := [], alts := [], laidByText := true, laidKinds := [.data, .data, .data, .data, .sentinel, .sentinel, .pinned], laidTests := true, laidLooks := .later }
def WireReadsCardSaid : Prop := Claim7.holds Tryz.pinned (.plain (OpenSpec.ofChange wireReadsSpec)) wireReadsCard

/-- THE TIED CARD OF 'garnerlaw23.WireSpaces'. -/
def wireSpacesCard : Claim7 := { stood := { row := wireSpacesRow, standIns := [], harness := (true, "3e4b2eb0d8439022e23f293ad8bff460d0f0035c951a6135c626762ffb3ff126"), looks := true }, kinds := [], alts := [], laidByText := true, laidKinds := [.data, .data, .data, .data, .sentinel, .sentinel, .pinned], laidTests := true, laidLooks := .later }
def WireSpacesCardSaid : Prop := Claim7.holds Tryz.pinned (.plain (OpenSpec.ofChange wireSpacesSpec)) wireSpacesCard

/-- THE TIED CARD OF 'garnerlaw23.WireWrites'. -/
def wireWritesCard : Claim7 := { stood := { row := wireWritesRow, standIns := [], harness := (true, "3e4b2eb0d8439022e23f293ad8bff460d0f0035c951a6135c626762ffb3ff126"), looks := true }, kinds := [], alts := [], laidByText := true, laidKinds := [.data, .data, .data, .data, .sentinel, .sentinel, .pinned], laidTests := true, laidLooks := .later }
def WireWritesCardSaid : Prop := Claim7.holds Tryz.pinned (.plain (OpenSpec.ofChange wireWritesSpec)) wireWritesCard

/-- THE SECOND FORM's CARD OF 'garnerlaw23.WirePush'. -/
def wirePushUptoCard : Claim7 := { stood := { row := wirePushUptoRow, standIns := [], harness := (true, "3e4b2eb0d8439022e23f293ad8bff460d0f0035c951a6135c626762ffb3ff126"), looks := true }, kinds := [], alts := [], laidByText := true, laidKinds := [.data, .data, .data, .data, .sentinel, .sentinel, .pinned], laidTests := true, laidLooks := .later }
def WirePushUptoCardSaid : Prop := Claim7.holds Tryz.pinned (.plain (OpenSpec.upto wirePushSpec)) wirePushUptoCard

/-- THE SECOND FORM's CARD OF 'garnerlaw23.WireBack'. -/
def wireBackUptoCard : Claim7 := { stood := { row := wireBackUptoRow, standIns := [], harness := (true, "3e4b2eb0d8439022e23f293ad8bff460d0f0035c951a6135c626762ffb3ff126"), looks := true }, kinds := [], alts := [], laidByText := true, laidKinds := [.data, .data, .data, .data, .sentinel, .sentinel, .pinned], laidTests := true, laidLooks := .later }
def WireBackUptoCardSaid : Prop := Claim7.holds Tryz.pinned (.plain (OpenSpec.upto wireBackSpec)) wireBackUptoCard

/-- THE SECOND FORM's CARD OF 'garnerlaw23.WireReads'. -/
def wireReadsUptoCard : Claim7 := { stood := { row := wireReadsUptoRow, standIns := [], harness := (true, "3e4b2eb0d8439022e23f293ad8bff460d0f0035c951a6135c626762ffb3ff126"), looks := true }, kinds := [], alts := [], laidByText := true, laidKinds := [.data, .data, .data, .data, .sentinel, .sentinel, .pinned], laidTests := true, laidLooks := .later }
def WireReadsUptoCardSaid : Prop := Claim7.holds Tryz.pinned (.plain (OpenSpec.upto wireReadsSpec)) wireReadsUptoCard

/-- THE SECOND FORM's CARD OF 'garnerlaw23.WireSpaces'. -/
def wireSpacesUptoCard : Claim7 := { stood := { row := wireSpacesUptoRow, standIns := [], harness := (true, "3e4b2eb0d8439022e23f293ad8bff460d0f0035c951a6135c626762ffb3ff126"), looks := true }, kinds := [], alts := [], laidByText := true, laidKinds := [.data, .data, .data, .data, .sentinel, .sentinel, .pinned], laidTests := true, laidLooks := .later }
def WireSpacesUptoCardSaid : Prop := Claim7.holds Tryz.pinned (.plain (OpenSpec.upto wireSpacesSpec)) wireSpacesUptoCard

/-- THE SECOND FORM's CARD OF 'garnerlaw23.WireWrites'. -/
def wireWritesUptoCard : Claim7 := { stood := { row := wireWritesUptoRow, standIns := [], harness := (true, "3e4b2eb0d8439022e23f293ad8bff460d0f0035c951a6135c626762ffb3ff126"), looks := true }, kinds := [], alts := [], laidByText := true, laidKinds := [.data, .data, .data, .data, .sentinel, .sentinel, .pinned], laidTests := true, laidLooks := .later }
def WireWritesUptoCardSaid : Prop := Claim7.holds Tryz.pinned (.plain (OpenSpec.upto wireWritesSpec)) wireWritesUptoCard
end Rows
end Go.Proofs.YtljnbbdhmlfhjaaGreatDoor
