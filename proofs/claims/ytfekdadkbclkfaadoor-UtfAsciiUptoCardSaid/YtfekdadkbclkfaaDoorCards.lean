/-
  DERIVED. GIVEN WITH THE SEED: THE CARDS: each row of YtfekdadkbclkfaaDoorRows.lean that lists a variable, with what it lists TIED to the program's text (the seventh form; the later family's looks); each row that meets fmt, with fmt's text TOLD by the authors' own Lean function (tested against real Go, not proved from fmt's source: count such statements apart). THE CARD IS WHAT COUNTS. Prove the row's statement (the work); the ties are given (YtfekdadkbclkfaaDoorTie.lean); close each card by the builder's one call (the guide's Derived/Test/ToyasCard.lean, 'card_holds'). Laid BY PROGRAM, IN A SANDBOX (cutbox-door.mjs). By AI agents, Wed Nov 11 2026. No macro, syntax, notation, axiom, sorry.
-/
import Derived.Test.YtfekdadkbclkfaaDoorRows
import GoSem.ClaimSeven
namespace Go.Proofs.YtfekdadkbclkfaaDoor
namespace Rows

/-- THE TIED CARD OF 'garnerlaw06.UtfTexts'. -/
def utfTextsCard : Claim7 := { stood := { row := utfTextsRow, standIns := [], harness := (true, "ec9d45fa1260fa3f97e765848b9e9142c497da729b09ce0c0d4ea87dfa02de74"), looks := false }, kinds := [], alts := [], laidByText := true, laidKinds := [.data, .pinned], laidTests := true, laidLooks := .later }
def UtfTextsCardSaid : Prop := Claim7.holds Tryd.pinned (.plain (OpenSpec.ofChange utfTextsSpec)) utfTextsCard

/-- THE TIED CARD OF 'garnerlaw06.UtfRunes'. -/
def utfRunesCard : Claim7 := { stood := { row := utfRunesRow, standIns := [], harness := (true, "ec9d45fa1260fa3f97e765848b9e9142c497da729b09ce0c0d4ea87dfa02de74"), looks := false }, kinds := [], alts := [], laidByText := true, laidKinds := [.data, .pinned], laidTests := true, laidLooks := .later }
def UtfRunesCardSaid : Prop := Claim7.holds Tryd.pinned (.plain (OpenSpec.ofChange utfRunesSpec)) utfRunesCard

/-- THE TIED CARD OF 'garnerlaw06.UtfFolds'. -/
def utfFoldsCard : Claim7 := { stood := { row := utfFoldsRow, standIns := [], harness := (true, "ec9d45fa1260fa3f97e765848b9e9142c497da729b09ce0c0d4ea87dfa02de74"), looks := false }, kinds := [], alts := [], laidByText := true, laidKinds := [.data, .pinned], laidTests := true, laidLooks := .later }
def UtfFoldsCardSaid : Prop := Claim7.holds Tryd.pinned (.plain (OpenSpec.ofChange utfFoldsSpec)) utfFoldsCard

/-- THE TIED CARD OF 'garnerlaw06.UtfJoins'. -/
def utfJoinsCard : Claim7 := { stood := { row := utfJoinsRow, standIns := [], harness := (true, "ec9d45fa1260fa3f97e765848b9e9142c497da729b09ce0c0d4ea87dfa02de74"), looks := false }, kinds := [], alts := [], laidByText := true, laidKinds := [.data, .pinned], laidTests := true, laidLooks := .later }
def UtfJoinsCardSaid : Prop := Claim7.holds Tryd.pinned (.plain (OpenSpec.ofChange utfJoinsSpec)) utfJoinsCard

/-- THE TIED CARD OF 'garnerlaw06.UtfAscii'. -/
def utfAsciiCard : Claim7 := { stood := { row := utfAsciiRow, standIns := [], harness := (true, "ec9d45fa1260fa3f97e765848b9e9142c497da729b09ce0c0d4ea87dfa02de74"), looks := false }, kinds := [], alts := [], laidByText := true, laidKinds := [.data, .pinned], laidTests := true, laidLooks := .later }
def UtfAsciiCardSaid : Prop := Claim7.holds Tryd.pinned (.plain (OpenSpec.ofChange utfAsciiSpec)) utfAsciiCard

/-- THE SECOND FORM's CARD OF 'garnerlaw06.UtfTexts'. -/
def utfTextsUptoCard : Claim7 := { stood := { row := utfTextsUptoRow, standIns := [], harness := (true, "ec9d45fa1260fa3f97e765848b9e9142c497da729b09ce0c0d4ea87dfa02de74"), looks := false }, kinds := [], alts := [], laidByText := true, laidKinds := [.data, .pinned], laidTests := true, laidLooks := .later }
def UtfTextsUptoCardSaid : Prop := Claim7.holds Tryd.pinned (.plain (OpenSpec.upto utfTextsSpec)) utfTextsUptoCard

/-- THE SECOND FORM's CARD OF 'garnerlaw06.UtfRunes'. -/
def utfRunesUptoCard : Claim7 := { stood := { row := utfRunesUptoRow, standIns := [], harness := (true, "ec9d45fa1260fa3f97e765848b9e9142c497da729b09ce0c0d4ea87dfa02de74"), looks := false }, kinds := [], alts := [], laidByText := true, laidKinds := [.data, .pinned], laidTests := true, laidLooks := .later }
def UtfRunesUptoCardSaid : Prop := Claim7.holds Tryd.pinned (.plain (OpenSpec.upto utfRunesSpec)) utfRunesUptoCard

/-- THE SECOND FORM's CARD OF 'garnerlaw06.UtfFolds'. -/
def utfFoldsUptoCard : Claim7 := { stood := { row := utfFoldsUptoRow, standIns := [], harness := (true, "ec9d45fa1260fa3f97e765848b9e9142c497da729b09ce0c0d4ea87dfa02de74"), looks := false }, kinds := [], alts := [], laidByText := true, laidKinds := [.data, .pinned], laidTests := true, laidLooks := .later }
def UtfFoldsUptoCardSaid : Prop := Claim7.holds Tryd.pinned (.plain (OpenSpec.upto utfFoldsSpec)) utfFoldsUptoCard

/-- THE SECOND FORM's CARD OF 'garnerlaw06.UtfJoins'. -/
def utfJoinsUptoCard : Claim7 := { stood := { row := utfJoinsUptoRow, standIns := [], harness := (true, "ec9d45fa1260fa3f97e765848b9e9142c497da729b09ce0c0d4ea87dfa02de74"), looks := false }, kinds := [], alts := [], laidByText := true, laidKinds := [.data, .pinned], laidTests := true, laidLooks := .later }
def UtfJoinsUptoCardSaid : Prop := Claim7.holds Tryd.pinned (.plain (OpenSpec.upto utfJoinsSpec)) utfJoinsUptoCard

/-- THE SECOND FORM's CARD OF 'garnerlaw06.UtfAscii'. -/
def utfAsciiUptoCard : Claim7 := { stood := { row := utfAsciiUptoRow, standIns := [], harness := (true, "ec9d45fa1260fa3f97e765848b9e9142c497da729b09ce0c0d4ea87dfa02de74"), looks := false }, kinds := [], alts := [], laidByText := true, laidKinds := [.data, .pinned], laidTests := true, laidLooks := .later }
def UtfAsciiUptoCardSaid : Prop := Claim7.holds Tryd.pinned (.plain (OpenSpec.upto utfAsciiSpec)) utfAsciiUptoCard
end Rows
end Go.Proofs.YtfekdadkbclkfaaDoor
