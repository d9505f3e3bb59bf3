/-
  DERIVED. GIVEN WITH THE SEED: THE CARDS: each row of YtkgnhimepcihpaaDoorRows.lean that lists a variable, with what it lists TIED to the program's text (the seventh form; the later family's looks); each row that meets fmt, with fmt's text TOLD by the authors' own Lean function (tested against real Go, not proved from fmt's source: count such statements apart). THE CARD IS WHAT COUNTS. Prove the row's statement (the work); the ties are given (YtkgnhimepcihpaaDoorTie.lean); close each card by the builder's one call (the guide's Derived/Test/ToyasCard.lean, 'card_holds'). Laid BY PROGRAM, IN A SANDBOX (cutbox-door.mjs). By AI agents, Wed Nov 11 2026. No macro, syntax, notation, axiom, sorry.
-/
import Derived.Test.YtkgnhimepcihpaaDoorRows
import GoSem.ClaimSeven
namespace Go.Proofs.YtkgnhimepcihpaaDoor
namespace Rows

/-- THE TIED CARD OF 'garnerlaw09.RecordGets'. -/
def recordGetsCard : Claim7 := { stood := { row := recordGetsRow, standIns := [], harness := (true, "35a1c4cf78976a17f55dd7da7e7e67ccafe86b470376ecdf316d3155e71849dd"), looks := false }, kinds := [], alts := [], laidByText := true, laidKinds := [.data, .pinned], laidTests := true, laidLooks := .later }
def RecordGetsCardSaid : Prop := Claim7.holds Tryd.pinned (.plain (OpenSpec.ofChange recordGetsSpec)) recordGetsCard

/-- THE TIED CARD OF 'garnerlaw09.RecordOrder'. -/
def recordOrderCard : Claim7 := { stood := { row := recordOrderRow, standIns := [], harness := (true, "35a1c4cf78976a17f55dd7da7e7e67ccafe86b470376ecdf316d3155e71849dd"), looks := false }, kinds := [], alts := [], laidByText := true, laidKinds := [.data, .pinned], laidTests := true, laidLooks := .later }
def RecordOrderCardSaid : Prop := Claim7.holds Tryd.pinned (.plain (OpenSpec.ofChange recordOrderSpec)) recordOrderCard

/-- THE TIED CARD OF 'garnerlaw09.RecordPuts'. -/
def recordPutsCard : Claim7 := { stood := { row := recordPutsRow, standIns := [], harness := (true, "35a1c4cf78976a17f55dd7da7e7e67ccafe86b470376ecdf316d3155e71849dd"), looks := false }, kinds := [], alts := [], laidByText := true, laidKinds := [.data, .pinned], laidTests := true, laidLooks := .later }
def RecordPutsCardSaid : Prop := Claim7.holds Tryd.pinned (.plain (OpenSpec.ofChange recordPutsSpec)) recordPutsCard

/-- THE TIED CARD OF 'garnerlaw09.RecordBack'. -/
def recordBackCard : Claim7 := { stood := { row := recordBackRow, standIns := [], harness := (true, "35a1c4cf78976a17f55dd7da7e7e67ccafe86b470376ecdf316d3155e71849dd"), looks := false }, kinds := [], alts := [], laidByText := true, laidKinds := [.data, .pinned], laidTests := true, laidLooks := .later }
def RecordBackCardSaid : Prop := Claim7.holds Tryd.pinned (.plain (OpenSpec.ofChange recordBackSpec)) recordBackCard

/-- THE TIED CARD OF 'garnerlaw09.RecordKeeps'. -/
def recordKeepsCard : Claim7 := { stood := { row := recordKeepsRow, standIns := [], harness := (true, "35a1c4cf78976a17f55dd7da7e7e67ccafe86b470376ecdf316d3155e71849dd"), looks := false }, kinds := [], alts := [], laidByText := true, laidKinds := [.data, .pinned], laidTests := true, laidLooks := .later }
def RecordKeepsCardSaid : Prop := Claim7.holds Tryd.pinned (.plain (OpenSpec.ofChange recordKeepsSpec)) recordKeepsCard

/-- THE TIED CARD OF 'garnerlaw08.LabelLists'. -/
def labelListsCard : Claim7 := { stood := { row := labelListsRow, standIns := [], harness := (true, "35a1c4cf78976a17f55dd7da7e7e67ccafe86b470376ecdf316d3155e71849dd"), looks := false }, kinds := [], alts := [], laidByText := true, laidKinds := [.data, .pinned], laidTests := true, laidLooks := .later }
def LabelListsCardSaid : Prop := Claim7.holds Tryd.pinned (.plain (OpenSpec.ofChange labelListsSpec)) labelListsCard

/-- THE TIED CARD OF 'garnerlaw08.LabelBack'. -/
def labelBackCard : Claim7 := { stood := { row := labelBackRow, standIns := [], harness := (true, "35a1c4cf78976a17f55dd7da7e7e67ccafe86b470376ecdf316d3155e71849dd"), looks := false }, kinds := [], alts := [], laidByText := true, laidKinds := [.data, .pinned], laidTests := true, laidLooks := .later }
def LabelBackCardSaid : Prop := Claim7.holds Tryd.pinned (.plain (OpenSpec.ofChange labelBackSpec)) labelBackCard

/-- THE TIED CARD OF 'garnerlaw08.LabelOrder'. -/
def labelOrderCard : Claim7 := { stood := { row := labelOrderRow, standIns := [], harness := (true, "35a1c4cf78976a17f55dd7da7e7e67ccafe86b470376ecdf316d3155e71849dd"), looks := false }, kinds := [], alts := [], laidByText := true, laidKinds := [.data, .pinned], laidTests := true, laidLooks := .later }
def LabelOrderCardSaid : Prop := Claim7.holds Tryd.pinned (.plain (OpenSpec.ofChange labelOrderSpec)) labelOrderCard

/-- THE TIED CARD OF 'garnerlaw08.LabelFinds'. -/
def labelFindsCard : Claim7 := { stood := { row := labelFindsRow, standIns := [], harness := (true, "35a1c4cf78976a17f55dd7da7e7e67ccafe86b470376ecdf316d3155e71849dd"), looks := false }, kinds := [], alts := [], laidByText := true, laidKinds := [.data, .pinned], laidTests := true, laidLooks := .later }
def LabelFindsCardSaid : Prop := Claim7.holds Tryd.pinned (.plain (OpenSpec.ofChange labelFindsSpec)) labelFindsCard

/-- THE SECOND FORM's CARD OF 'garnerlaw09.RecordGets'. -/
def recordGetsUptoCard : Claim7 := { stood := { row := recordGetsUptoRow, standIns := [], harness := (true, "35a1c4cf78976a17f55dd7da7e7e67ccafe86b470376ecdf316d3155e71849dd"), looks := false }, kinds := [], alts := [], laidByText := true, laidKinds := [.data, .pinned], laidTests := true, laidLooks := .later }
def RecordGetsUptoCardSaid : Prop := Claim7.holds Tryd.pinned (.plain (OpenSpec.upto recordGetsSpec)) recordGetsUptoCard

/-- THE SECOND FORM's CARD OF 'garnerlaw09.RecordOrder'. -/
def recordOrderUptoCard : Claim7 := { stood := { row := recordOrderUptoRow, standIns := [], harness := (true, "35a1c4cf78976a17f55dd7da7e7e67ccafe86b470376ecdf316d3155e71849dd"), looks := false }, kinds := [], alts := [], laidByText := true, laidKinds := [.data, .pinned], laidTests := true, laidLooks := .later }
def RecordOrderUptoCardSaid : Prop := Claim7.holds Tryd.pinned (.plain (OpenSpec.upto recordOrderSpec)) recordOrderUptoCard

/-- THE SECOND FORM's CARD OF 'garnerlaw09.RecordPuts'. -/
def recordPutsUptoCard : Claim7 := { stood := { row := recordPutsUptoRow, standIns := [], harness := (true, "35a1c4cf78976a17f55dd7da7e7e67ccafe86b470376ecdf316d3155e71849dd"), looks := false }, kinds := [], alts := [], laidByText := true, laidKinds := [.data, .pinned], laidTests := true, laidLooks := .later }
def RecordPutsUptoCardSaid : Prop := Claim7.holds Tryd.pinned (.plain (OpenSpec.upto recordPutsSpec)) recordPutsUptoCard

/-- THE SECOND FORM's CARD OF 'garnerlaw09.RecordBack'. -/
def recordBackUptoCard : Claim7 := { stood := { row := recordBackUptoRow, standIns := [], harness := (true, "35a1c4cf78976a17f55dd7da7e7e67ccafe86b470376ecdf316d3155e71849dd"), looks := false }, kinds := [], alts := [], laidByText := true, laidKinds := [.data, .pinned], laidTests := true, laidLooks := .later }
def RecordBackUptoCardSaid : Prop := Claim7.holds Tryd.pinned (.plain (OpenSpec.upto recordBackSpec)) recordBackUptoCard

/-- THE SECOND FORM's CARD OF 'garnerlaw09.RecordKeeps'. -/
def recordKeepsUptoCard : Claim7 := { stood := { row := recordKeepsUptoRow, standIns := [], harness := (true, "35a1c4cf78976a17f55dd7da7e7e67ccafe86b470376ecdf316d3155e71849dd"), looks := false }, kinds := [], alts := [], laidByText := true, laidKinds := [.data, .pinned], laidTests := true, laidLooks := .later }
def RecordKeepsUptoCardSaid : Prop := Claim7.holds Tryd.pinned (.plain (OpenSpec.upto recordKeepsSpec)) recordKeepsUptoCard

/-- THE SECOND FORM's CARD OF 'garnerlaw08.LabelLists'. -/
def labelListsUptoCard : Claim7 := { stood := { row := labelListsUptoRow, standIns := [], harness := (true, "35a1c4cf78976a17f55dd7da7e7e67ccafe86b470376ecdf316d3155e71849dd"), looks := false }, kinds := [], alts := [], laidByText := true, laidKinds := [.data, .pinned], laidTests := true, laidLooks := .later }
def LabelListsUptoCardSaid : Prop := Claim7.holds Tryd.pinned (.plain (OpenSpec.upto labelListsSpec)) labelListsUptoCard

/-- THE SECOND FORM's CARD OF 'garnerlaw08.LabelBack'. -/
def labelBackUptoCard : Claim7 := { stood := { row := labelBackUptoRow, standIns := [], harness := (true, "35a1c4cf78976a17f55dd7da7e7e67ccafe86b470376ecdf316d3155e71849dd"), looks := false }, kinds := [], alts := [], laidByText := true, laidKinds := [.data, .pinned], laidTests := true, laidLooks := .later }
def LabelBackUptoCardSaid : Prop := Claim7.holds Tryd.pinned (.plain (OpenSpec.upto labelBackSpec)) labelBackUptoCard

/-- THE SECOND FORM's CARD OF 'garnerlaw08.LabelOrder'. -/
def labelOrderUptoCard : Claim7 := { stood := { row := labelOrderUptoRow, standIns := [], harness := (true, "35a1c4cf78976a17f55dd7da7e7e67ccafe86b470376ecdf316d3155e71849dd"), looks := false }, kinds := [], alts := [], laidByText := true, laidKinds := [.data, .pinned], laidTests := true, laidLooks := .later }
def LabelOrderUptoCardSaid : Prop := Claim7.holds Tryd.pinned (.plain (OpenSpec.upto labelOrderSpec)) labelOrderUptoCard

/-- THE SECOND FORM's CARD OF 'garnerlaw08.LabelFinds'. -/
def labelFindsUptoCard : Claim7 := { stood := { row := labelFindsUptoRow, standIns := [], harness := (true, "35a1c4cf78976a17f55dd7da7e7e67ccafe86b470376ecdf316d3155e71849dd"), looks := false }, kinds := [], alts := [], laidByText := true, laidKinds := [.data, .pinned], laidTests := true, laidLooks := .later }
def LabelFindsUptoCardSaid : Prop := Claim7.holds Tryd.pinned (.plain (OpenSpec.upto labelFindsSpec)) labelFindsUptoCard
end Rows
end Go.Proofs.YtkgnhimepcihpaaDoor
