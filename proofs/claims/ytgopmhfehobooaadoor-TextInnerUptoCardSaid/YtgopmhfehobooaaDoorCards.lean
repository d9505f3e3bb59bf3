/-
  DERIVED. GIVEN WITH THE SEED: THE CARDS: each row of YtgopmhfehobooaaDoorRows.lean that lists a variable, with what it lists TIED to the program's text (the seventh form; the later family's looks); each row that meets fmt, with fmt's text TOLD by the authors' own Lean function (tested against real Go, not proved from fmt's source: count such statements apart). THE CARD IS WHAT COUNTS. Prove the row's statement (the work); the ties are given (YtgopmhfehobooaaDoorTie.lean); close each card by the builder's one call (the guide's Derived/Test/ToyasCard.lean, 'card_holds'). Laid BY PROGRAM, IN A SANDBOX (cutbox-door.mjs). By AI agents, Wed Nov 11 2026. No macro, syntax, notation, axiom, sorry.
-/
import Derived.Test.YtgopmhfehobooaaDoorRows
import GoSem.ClaimSeven
namespace Go.Proofs.YtgopmhfehobooaaDoor
namespace Rows

/-- THE TIED CARD OF 'garnerlaw07.TextInner'. -/
def textInnerCard : Claim7 := { stood := { row := textInnerRow, standIns := [], harness := (true, "42ce9ff52a15d569a1b3e7d7e8b1364405e8cbd93f73de4ca9fb472a7c1a6e7c"), looks := false }, kinds := [], alts := [], laidByText := true, laidKinds := [.data, .pinned], laidTests := true, laidLooks := .later }
def TextInnerCardSaid : Prop := Claim7.holds Tryd.pinned (.plain (OpenSpec.ofChange textInnerSpec)) textInnerCard

/-- THE SECOND FORM's CARD OF 'garnerlaw07.TextInner'. -/
def textInnerUptoCard : Claim7 := { stood := { row := textInnerUptoRow, standIns := [], harness := (true, "42ce9ff52a15d569a1b3e7d7e8b1364405e8cbd93f73de4ca9fb472a7c1a6e7c"), looks := false }, kinds := [], alts := [], laidByText := true, laidKinds := [.data, .pinned], laidTests := true, laidLooks := .later }
def TextInnerUptoCardSaid : Prop := Claim7.holds Tryd.pinned (.plain (OpenSpec.upto textInnerSpec)) textInnerUptoCard
end Rows
end Go.Proofs.YtgopmhfehobooaaDoor
