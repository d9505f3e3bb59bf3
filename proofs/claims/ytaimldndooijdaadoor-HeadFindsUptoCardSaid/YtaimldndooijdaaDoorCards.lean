/-
  DERIVED. GIVEN WITH THE SEED: THE CARDS: each row of YtaimldndooijdaaDoorRows.lean that lists a variable, with what it lists TIED to the program's text (the seventh form; the later family's looks); each row that meets fmt, with fmt's text TOLD by the authors' own Lean function (tested against real Go, not proved from fmt's source: count such statements apart). THE CARD IS WHAT COUNTS. Prove the row's statement (the work); the ties are given (YtaimldndooijdaaDoorTie.lean); close each card by the builder's one call (the guide's Derived/Test/ToyasCard.lean, 'card_holds'). Laid BY PROGRAM, IN A SANDBOX (cutbox-door.mjs). By AI agents, Wed Nov 11 2026. No macro, syntax, notation, axiom, sorry.
-/
import Derived.Test.YtaimldndooijdaaDoorRows
import GoSem.ClaimSeven
namespace Go.Proofs.YtaimldndooijdaaDoor
namespace Rows

/-- THE TIED CARD OF 'garnerlaw13.HeadTerms'. -/
def headTermsCard : Claim7 := { stood := { row := headTermsRow, standIns := [], harness := (true, "13f49ebbacc7dc7b8fee5cdf4e18846bf2a54d289a87626b469c1f553dd29907"), looks := false }, kinds := [], alts := [], laidByText := true, laidKinds := [.data, .pinned], laidTests := true, laidLooks := .later }
def HeadTermsCardSaid : Prop := Claim7.holds Tryd.pinned (.plain (OpenSpec.ofChange headTermsSpec)) headTermsCard

/-- THE TIED CARD OF 'garnerlaw13.HeadFinds'. -/
def headFindsCard : Claim7 := { stood := { row := headFindsRow, standIns := [], harness := (true, "13f49ebbacc7dc7b8fee5cdf4e18846bf2a54d289a87626b469c1f553dd29907"), looks := false }, kinds := [], alts := [], laidByText := true, laidKinds := [.data, .pinned], laidTests := true, laidLooks := .later }
def HeadFindsCardSaid : Prop := Claim7.holds Tryd.pinned (.plain (OpenSpec.ofChange headFindsSpec)) headFindsCard

/-- THE TIED CARD OF 'garnerlaw13.HeadTakes'. -/
def headTakesCard : Claim7 := { stood := { row := headTakesRow, standIns := [], harness := (true, "13f49ebbacc7dc7b8fee5cdf4e18846bf2a54d289a87626b469c1f553dd29907"), looks := false }, kinds := [], alts := [], laidByText := true, laidKinds := [.data, .pinned], laidTests := true, laidLooks := .later }
def HeadTakesCardSaid : Prop := Claim7.holds Tryd.pinned (.plain (OpenSpec.ofChange headTakesSpec)) headTakesCard

/-- THE SECOND FORM's CARD OF 'garnerlaw13.HeadTerms'. -/
def headTermsUptoCard : Claim7 := { stood := { row := headTermsUptoRow, standIns := [], harness := (true, "13f49ebbacc7dc7b8fee5cdf4e18846bf2a54d289a87626b469c1f553dd29907"), looks := false }, kinds := [], alts := [], laidByText := true, laidKinds := [.data, .pinned], laidTests := true, laidLooks := .later }
def HeadTermsUptoCardSaid : Prop := Claim7.holds Tryd.pinned (.plain (OpenSpec.upto headTermsSpec)) headTermsUptoCard

/-- THE SECOND FORM's CARD OF 'garnerlaw13.HeadFinds'. -/
def headFindsUptoCard : Claim7 := { stood := { row := headFindsUptoRow, standIns := [], harness := (true, "13f49ebbacc7dc7b8fee5cdf4e18846bf2a54d289a87626b469c1f553dd29907"), looks := false }, kinds := [], alts := [], laidByText := true, laidKinds := [.data, .pinned], laidTests := true, laidLooks := .later }
def HeadFindsUptoCardSaid : Prop := Claim7.holds Tryd.pinned (.plain (OpenSpec.upto headFindsSpec)) headFindsUptoCard

/-- THE SECOND FORM's CARD OF 'garnerlaw13.HeadTakes'. -/
def headTakesUptoCard : Claim7 := { stood := { row := headTakesUptoRow, standIns := [], harness := (true, "13f49ebbacc7dc7b8fee5cdf4e18846bf2a54d289a87626b469c1f553dd29907"), looks := false }, kinds := [], alts := [], laidByText := true, laidKinds := [.data, .pinned], laidTests := true, laidLooks := .later }
def HeadTakesUptoCardSaid : Prop := Claim7.holds Tryd.pinned (.plain (OpenSpec.upto headTakesSpec)) headTakesUptoCard
end Rows
end Go.Proofs.YtaimldndooijdaaDoor
