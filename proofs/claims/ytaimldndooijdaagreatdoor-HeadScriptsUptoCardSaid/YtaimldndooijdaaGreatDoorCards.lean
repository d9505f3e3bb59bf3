/-
  DERIVED. GIVEN WITH THE SEED: THE CARDS: each row of YtaimldndooijdaaGreatDoorRows.lean that lists a variable, with what it lists TIED to the program's text (the seventh form; the later family's looks); each row that meets fmt, with fmt's text TOLD by the authors' own Lean function (tested against real Go, not proved from fmt's source: count such statements apart). THE CARD IS WHAT COUNTS. Prove the row's statement (the work); the ties are given (YtaimldndooijdaaGreatDoorTie.lean); close each card by the builder's one call (the guide's Derived/Test/ToyasCard.lean, 'card_holds'). Laid BY PROGRAM, IN A SANDBOX (cutbox-door.mjs). By AI agents, Wed Nov 11 2026. No macro, syntax, notation, axiom, sorry.
-/
import Derived.Test.YtaimldndooijdaaGreatDoorRows
import GoSem.ClaimSeven
namespace Go.Proofs.YtaimldndooijdaaGreatDoor
namespace Rows

/-- THE TIED CARD OF 'garnerlaw13.HeadScripts'. -/
def headScriptsCard : Claim7 := { stood := { row := headScriptsRow, standIns := [], harness := (true, "7a48356291822fad05cd2b7da87bd16482acde35c4d3ed034ef78bbded650601"), looks := false }, kinds := [], alts := [], laidByText := true, laidKinds := [.data, .pinned], laidTests := true, laidLooks := .later }
def HeadScriptsCardSaid : Prop := Claim7.holds Tryz.pinned (.plain (OpenSpec.ofChange headScriptsSpec)) headScriptsCard

/-- THE SECOND FORM's CARD OF 'garnerlaw13.HeadScripts'. -/
def headScriptsUptoCard : Claim7 := { stood := { row := headScriptsUptoRow, standIns := [], harness := (true, "7a48356291822fad05cd2b7da87bd16482acde35c4d3ed034ef78bbded650601"), looks := false }, kinds := [], alts := [], laidByText := true, laidKinds := [.data, .pinned], laidTests := true, laidLooks := .later }
def HeadScriptsUptoCardSaid : Prop := Claim7.holds Tryz.pinned (.plain (OpenSpec.upto headScriptsSpec)) headScriptsUptoCard
end Rows
end Go.Proofs.YtaimldndooijdaaGreatDoor
