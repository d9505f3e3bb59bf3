/-
  DERIVED. GIVEN WITH THE SEED: THE CARDS: each row of YtljnbbdhmlfhjaaDoorRows.lean that lists a variable, with what it lists TIED to the program's text (the seventh form; the later family's looks); each row that meets fmt, with fmt's text TOLD by the authors' own Lean function (tested against real Go, not proved from fmt's source: count such statements apart). THE CARD IS WHAT COUNTS. Prove the row's statement (the work); the ties are given (YtljnbbdhmlfhjaaDoorTie.lean); close each card by the builder's one call (the guide's Derived/Test/ToyasCard.lean, 'card_holds'). Laid BY PROGRAM, IN A SANDBOX (cutbox-door.mjs). By AI agents, Wed Nov 11 2026. No macro, syntax, notation, axiom, sorry.
-/
import Derived.Test.YtljnbbdhmlfhjaaDoorRows
import GoSem.ClaimSeven
namespace Go.Proofs.YtljnbbdhmlfhjaaDoor
namespace Rows

/-- THE TIED CARD OF 'garnerlaw22.JsonForms'. -/
def jsonFormsCard : Claim7 := { stood := { row := jsonFormsRow, standIns := [], harness := (true, "7b34b6ebf1f87f18e7eb16aab3be03f0a13cd2ba6325a12fbda429e435ab58dc"), looks := true }, kinds := [], alts := [], laidByText := true, laidKinds := [.data, .data, .data, .data, .sentinel, .sentinel, .pinned], laidTests := true, laidLooks := .later }
def JsonFormsCardSaid : Prop := Claim7.holds Tryd.pinned (.plain (OpenSpec.ofChange jsonFormsSpec)) jsonFormsCard

/-- THE TIED CARD OF 'garnerlaw22.JsonBack'. -/
def jsonBackCard : Claim7 := { stood := { row := jsonBackRow, standIns := [], harness := (true, "7b34b6ebf1f87f18e7eb16aab3be03f0a13cd2ba6325a12fbda429e435ab58dc"), looks := true }, kinds := [], alts := [], laidByText := true, laidKinds := [.data, .data, .data, .data, .sentinel, .sentinel, .pinned], laidTests := true, laidLooks := .later }
def JsonBackCardSaid : Prop := Claim7.holds Tryd.pinned (.plain (OpenSpec.ofChange jsonBackSpec)) jsonBackCard

/-- THE TIED CARD OF 'garnerlaw22.JsonDeep'. -/
def jsonDeepCard : Claim7 := { stood := { row := jsonDeepRow, standIns := [], harness := (true, "7b34b6ebf1f87f18e7eb16aab3be03f0a13cd2ba6325a12fbda429e435ab58dc"), looks := true }, kinds := [], alts := [], laidByText := true, laidKinds := [.data, .data, .data, .data, .sentinel, .sentinel, .pinned], laidTests := true, laidLooks := .later }
def JsonDeepCardSaid : Prop := Claim7.holds Tryd.pinned (.plain (OpenSpec.ofChange jsonDeepSpec)) jsonDeepCard

/-- THE TIED CARD OF 'garnerlaw22.JsonStrings'. -/
def jsonStringsCard : Claim7 := { stood := { row := jsonStringsRow, standIns := [], harness := (true, "7b34b6ebf1f87f18e7eb16aab3be03f0a13cd2ba6325a12fbda429e435ab58dc"), looks := true }, kinds := [], alts := [], laidByText := true, laidKinds := [.data, .data, .data, .data, .sentinel, .sentinel, .pinned], laidTests := true, laidLooks := .later }
def JsonStringsCardSaid : Prop := Claim7.holds Tryd.pinned (.plain (OpenSpec.ofChange jsonStringsSpec)) jsonStringsCard

/-- THE TIED CARD OF 'garnerlaw22.JsonParts'. -/
def jsonPartsCard : Claim7 := { stood := { row := jsonPartsRow, standIns := [], harness := (true, "7b34b6ebf1f87f18e7eb16aab3be03f0a13cd2ba6325a12fbda429e435ab58dc"), looks := true }, kinds := [], alts := [], laidByText := true, laidKinds := [.data, .data, .data, .data, .sentinel, .sentinel, .pinned], laidTests := true, laidLooks := .later }
def JsonPartsCardSaid : Prop := Claim7.holds Tryd.pinned (.plain (OpenSpec.ofChange jsonPartsSpec)) jsonPartsCard

/-- THE SECOND FORM's CARD OF 'garnerlaw22.JsonForms'. -/
def jsonFormsUptoCard : Claim7 := { stood := { row := jsonFormsUptoRow, standIns := [], harness := (true, "7b34b6ebf1f87f18e7eb16aab3be03f0a13cd2ba6325a12fbda429e435ab58dc"), looks := true }, kinds := [], alts := [], laidByText := true, laidKinds := [.data, .data, .data, .data, .sentinel, .sentinel, .pinned], laidTests := true, laidLooks := .later }
def JsonFormsUptoCardSaid : Prop := Claim7.holds Tryd.pinned (.plain (OpenSpec.upto jsonFormsSpec)) jsonFormsUptoCard

/-- THE SECOND FORM's CARD OF 'garnerlaw22.JsonBack'. -/
def jsonBackUptoCard : Claim7 := { stood := { row := jsonBackUptoRow, standIns := [], harness := (true, "7b34b6ebf1f87f18e7eb16aab3be03f0a13cd2ba6325a12fbda429e435ab58dc"), looks := true }, kinds := [], alts := [], laidByText := true, laidKinds := [.data, .data, .data, .data, .sentinel, .sentinel, .pinned], laidTests := true, laidLooks := .later }
def JsonBackUptoCardSaid : Prop := Claim7.holds Tryd.pinned (.plain (OpenSpec.upto jsonBackSpec)) jsonBackUptoCard

/-- THE SECOND FORM's CARD OF 'garnerlaw22.JsonDeep'. -/
def jsonDeepUptoCard : Claim7 := { stood := { row := jsonDeepUptoRow, standIns := [], harness := (true, "7b34b6ebf1f87f18e7eb16aab3be03f0a13cd2ba6325a12fbda429e435ab58dc"), looks := true }, kinds := [], alts := [], laidByText := true, laidKinds := [.data, .data, .data, .data, .sentinel, .sentinel, .pinned], laidTests := true, laidLooks := .later }
def JsonDeepUptoCardSaid : Prop := Claim7.holds Tryd.pinned (.plain (OpenSpec.upto jsonDeepSpec)) jsonDeepUptoCard

/-- THE SECOND FORM's CARD OF 'garnerlaw22.JsonStrings'. -/
def jsonStringsUptoCard : Claim7 := { stood := { row := jsonStringsUptoRow, standIns := [], harness := (true, "7b34b6ebf1f87f18e7eb16aab3be03f0a13cd2ba6325a12fbda429e435ab58dc"), looks := true }, kinds := [], alts := [], laidByText := true, laidKinds := [.data, .data, .data, .data, .sentinel, .sentinel, .pinned], laidTests := true, laidLooks := .later }
def JsonStringsUptoCardSaid : Prop := Claim7.holds Tryd.pinned (.plain (OpenSpec.upto jsonStringsSpec)) jsonStringsUptoCard

/-- THE SECOND FORM's CARD OF 'garnerlaw22.JsonParts'. -/
def jsonPartsUptoCard : Claim7 := { stood := { row := jsonPartsUptoRow, standIns := [], harness := (true, "7b34b6ebf1f87f18e7eb16aab3be03f0a13cd2ba6325a12fbda429e435ab58dc"), looks := true }, kinds := [], alts := [], laidByText := true, laidKinds := [.data, .data, .data, .data, .sentinel, .sentinel, .pinned], laidTests := true, laidLooks := .later }
def JsonPartsUptoCardSaid : Prop := Claim7.holds Tryd.pinned (.plain (OpenSpec.upto jsonPartsSpec)) jsonPartsUptoCard
end Rows
end Go.Proofs.YtljnbbdhmlfhjaaDoor
