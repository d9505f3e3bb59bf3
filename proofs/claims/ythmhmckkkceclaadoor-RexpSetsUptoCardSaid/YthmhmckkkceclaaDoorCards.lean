/-
  DERIVED. GIVEN WITH THE SEED: THE CARDS: each row of YthmhmckkkceclaaDoorRows.lean that lists a variable, with what it lists TIED to the program's text (the seventh form; the later family's looks); each row that meets fmt, with fmt's text TOLD by the authors' own Lean function (tested against real Go, not proved from fmt's source: count such statements apart). THE CARD IS WHAT COUNTS. Prove the row's statement (the work); the ties are given (YthmhmckkkceclaaDoorTie.lean); close each card by the builder's one call (the guide's Derived/Test/ToyasCard.lean, 'card_holds'). Laid BY PROGRAM, IN A SANDBOX (cutbox-door.mjs). By AI agents, Wed Nov 11 2026. No macro, syntax, notation, axiom, sorry.
-/
import Derived.Test.YthmhmckkkceclaaDoorRows
import GoSem.ClaimSeven
namespace Go.Proofs.YthmhmckkkceclaaDoor
namespace Rows

/-- THE TIED CARD OF 'garnerlaw18.RexpParses'. -/
def rexpParsesCard : Claim7 := { stood := { row := rexpParsesRow, standIns := [], harness := (true, "da4ad175c1703c9ac3d5056529e03e4f6788ba227a2e025f880b8d331733ef06"), looks := true }, kinds := [], alts := [], laidByText := true, laidKinds := [.data, .pinned], laidTests := true, laidLooks := .later }
def RexpParsesCardSaid : Prop := Claim7.holds Tryd.pinned (.plain (OpenSpec.ofChange rexpParsesSpec)) rexpParsesCard

/-- THE TIED CARD OF 'garnerlaw18.RexpJoins'. -/
def rexpJoinsCard : Claim7 := { stood := { row := rexpJoinsRow, standIns := [], harness := (true, "da4ad175c1703c9ac3d5056529e03e4f6788ba227a2e025f880b8d331733ef06"), looks := true }, kinds := [], alts := [], laidByText := true, laidKinds := [.data, .pinned], laidTests := true, laidLooks := .later }
def RexpJoinsCardSaid : Prop := Claim7.holds Tryd.pinned (.plain (OpenSpec.ofChange rexpJoinsSpec)) rexpJoinsCard

/-- THE TIED CARD OF 'garnerlaw18.RexpSets'. -/
def rexpSetsCard : Claim7 := { stood := { row := rexpSetsRow, standIns := [], harness := (true, "da4ad175c1703c9ac3d5056529e03e4f6788ba227a2e025f880b8d331733ef06"), looks := true }, kinds := [], alts := [], laidByText := true, laidKinds := [.data, .pinned], laidTests := true, laidLooks := .later }
def RexpSetsCardSaid : Prop := Claim7.holds Tryd.pinned (.plain (OpenSpec.ofChange rexpSetsSpec)) rexpSetsCard

/-- THE TIED CARD OF 'garnerlaw18.RexpLimits'. -/
def rexpLimitsCard : Claim7 := { stood := { row := rexpLimitsRow, standIns := [], harness := (true, "da4ad175c1703c9ac3d5056529e03e4f6788ba227a2e025f880b8d331733ef06"), looks := true }, kinds := [], alts := [], laidByText := true, laidKinds := [.data, .pinned], laidTests := true, laidLooks := .later }
def RexpLimitsCardSaid : Prop := Claim7.holds Tryd.pinned (.plain (OpenSpec.ofChange rexpLimitsSpec)) rexpLimitsCard

/-- THE TIED CARD OF 'garnerlaw18.RexpRepeats'. -/
def rexpRepeatsCard : Claim7 := { stood := { row := rexpRepeatsRow, standIns := [], harness := (true, "da4ad175c1703c9ac3d5056529e03e4f6788ba227a2e025f880b8d331733ef06"), looks := true }, kinds := [], alts := [], laidByText := true, laidKinds := [.data, .pinned], laidTests := true, laidLooks := .later }
def RexpRepeatsCardSaid : Prop := Claim7.holds Tryd.pinned (.plain (OpenSpec.ofChange rexpRepeatsSpec)) rexpRepeatsCard

/-- THE SECOND FORM's CARD OF 'garnerlaw18.RexpParses'. -/
def rexpParsesUptoCard : Claim7 := { stood := { row := rexpParsesUptoRow, standIns := [], harness := (true, "da4ad175c1703c9ac3d5056529e03e4f6788ba227a2e025f880b8d331733ef06"), looks := true }, kinds := [], alts := [], laidByText := true, laidKinds := [.data, .pinned], laidTests := true, laidLooks := .later }
def RexpParsesUptoCardSaid : Prop := Claim7.holds Tryd.pinned (.plain (OpenSpec.upto rexpParsesSpec)) rexpParsesUptoCard

/-- THE SECOND FORM's CARD OF 'garnerlaw18.RexpJoins'. -/
def rexpJoinsUptoCard : Claim7 := { stood := { row := rexpJoinsUptoRow, standIns := [], harness := (true, "da4ad175c1703c9ac3d5056529e03e4f6788ba227a2e025f880b8d331733ef06"), looks := true }, kinds := [], alts := [], laidByText := true, laidKinds := [.data, .pinned], laidTests := true, laidLooks := .later }
def RexpJoinsUptoCardSaid : Prop := Claim7.holds Tryd.pinned (.plain (OpenSpec.upto rexpJoinsSpec)) rexpJoinsUptoCard

/-- THE SECOND FORM's CARD OF 'garnerlaw18.RexpSets'. -/
def rexpSetsUptoCard : Claim7 := { stood := { row := rexpSetsUptoRow, standIns := [], harness := (true, "da4ad175c1703c9ac3d5056529e03e4f6788ba227a2e025f880b8d331733ef06"), looks := true }, kinds := [], alts := [], laidByText := true, laidKinds := [.data, .pinned], laidTests := true, laidLooks := .later }
def RexpSetsUptoCardSaid : Prop := Claim7.holds Tryd.pinned (.plain (OpenSpec.upto rexpSetsSpec)) rexpSetsUptoCard

/-- THE SECOND FORM's CARD OF 'garnerlaw18.RexpLimits'. -/
def rexpLimitsUptoCard : Claim7 := { stood := { row := rexpLimitsUptoRow, standIns := [], harness := (true, "da4ad175c1703c9ac3d5056529e03e4f6788ba227a2e025f880b8d331733ef06"), looks := true }, kinds := [], alts := [], laidByText := true, laidKinds := [.data, .pinned], laidTests := true, laidLooks := .later }
def RexpLimitsUptoCardSaid : Prop := Claim7.holds Tryd.pinned (.plain (OpenSpec.upto rexpLimitsSpec)) rexpLimitsUptoCard

/-- THE SECOND FORM's CARD OF 'garnerlaw18.RexpRepeats'. -/
def rexpRepeatsUptoCard : Claim7 := { stood := { row := rexpRepeatsUptoRow, standIns := [], harness := (true, "da4ad175c1703c9ac3d5056529e03e4f6788ba227a2e025f880b8d331733ef06"), looks := true }, kinds := [], alts := [], laidByText := true, laidKinds := [.data, .pinned], laidTests := true, laidLooks := .later }
def RexpRepeatsUptoCardSaid : Prop := Claim7.holds Tryd.pinned (.plain (OpenSpec.upto rexpRepeatsSpec)) rexpRepeatsUptoCard
end Rows
end Go.Proofs.YthmhmckkkceclaaDoor
