/-
  DERIVED. GIVEN WITH THE SEED: THE CARDS: each row of YtknoimflimhcgaaDoorRows.lean that lists a variable, with what it lists TIED to the program's text (the seventh form; the later family's looks); each row that meets fmt, with fmt's text TOLD by the authors' own Lean function (tested against real Go, not proved from fmt's source: count such statements apart). THE CARD IS WHAT COUNTS. Prove the row's statement (the work); the ties are given (YtknoimflimhcgaaDoorTie.lean); close each card by the builder's one call (the guide's Derived/Test/ToyasCard.lean, 'card_holds'). Laid BY PROGRAM, IN A SANDBOX (cutbox-door.mjs). By AI agents, Wed Nov 11 2026. No macro, syntax, notation, axiom, sorry.
-/
import Derived.Test.YtknoimflimhcgaaDoorRows
import GoSem.ClaimSeven
namespace Go.Proofs.YtknoimflimhcgaaDoor
namespace Rows

/-- THE TIED CARD OF 'garnerlaw27.ReplyReads'. -/
def replyReadsCard : Claim7 := { stood := { row := replyReadsRow, standIns := [], harness := (true, "0db0b9ff1f1ed36bcfab3812c0cdfe371ba06e00a39724d92f911bc768b0ab35"), looks := true }, kinds := [], alts := [], laidByText := true, laidKinds := [.data, .data, .data, .sentinel, .sentinel], laidTests := true, laidLooks := .later }
def ReplyReadsCardSaid : Prop := Claim7.holds Tryd.pinned (.plain (OpenSpec.ofChange replyReadsSpec)) replyReadsCard

/-- THE TIED CARD OF 'garnerlaw27.ReplyLengths'. -/
def replyLengthsCard : Claim7 := { stood := { row := replyLengthsRow, standIns := [], harness := (true, "0db0b9ff1f1ed36bcfab3812c0cdfe371ba06e00a39724d92f911bc768b0ab35"), looks := true }, kinds := [], alts := [], laidByText := true, laidKinds := [.data, .data, .data, .sentinel, .sentinel], laidTests := true, laidLooks := .later }
def ReplyLengthsCardSaid : Prop := Claim7.holds Tryd.pinned (.plain (OpenSpec.ofChange replyLengthsSpec)) replyLengthsCard

/-- THE TIED CARD OF 'garnerlaw27.ReplyChunks'. -/
def replyChunksCard : Claim7 := { stood := { row := replyChunksRow, standIns := [], harness := (true, "0db0b9ff1f1ed36bcfab3812c0cdfe371ba06e00a39724d92f911bc768b0ab35"), looks := true }, kinds := [], alts := [], laidByText := true, laidKinds := [.data, .data, .data, .sentinel, .sentinel], laidTests := true, laidLooks := .later }
def ReplyChunksCardSaid : Prop := Claim7.holds Tryd.pinned (.plain (OpenSpec.ofChange replyChunksSpec)) replyChunksCard

/-- THE TIED CARD OF 'garnerlaw27.ReplyWrites'. -/
def replyWritesCard : Claim7 := { stood := { row := replyWritesRow, standIns := [], harness := (true, "0db0b9ff1f1ed36bcfab3812c0cdfe371ba06e00a39724d92f911bc768b0ab35"), looks := true }, kinds := [], alts := [], laidByText := true, laidKinds := [.data, .data, .data, .sentinel, .sentinel], laidTests := true, laidLooks := .later }
def ReplyWritesCardSaid : Prop := Claim7.holds Tryd.pinned (.plain (OpenSpec.ofChange replyWritesSpec)) replyWritesCard

/-- THE SECOND FORM's CARD OF 'garnerlaw27.ReplyReads'. -/
def replyReadsUptoCard : Claim7 := { stood := { row := replyReadsUptoRow, standIns := [], harness := (true, "0db0b9ff1f1ed36bcfab3812c0cdfe371ba06e00a39724d92f911bc768b0ab35"), looks := true }, kinds := [], alts := [], laidByText := true, laidKinds := [.data, .data, .data, .sentinel, .sentinel], laidTests := true, laidLooks := .later }
def ReplyReadsUptoCardSaid : Prop := Claim7.holds Tryd.pinned (.plain (OpenSpec.upto replyReadsSpec)) replyReadsUptoCard

/-- THE SECOND FORM's CARD OF 'garnerlaw27.ReplyLengths'. -/
def replyLengthsUptoCard : Claim7 := { stood := { row := replyLengthsUptoRow, standIns := [], harness := (true, "0db0b9ff1f1ed36bcfab3812c0cdfe371ba06e00a39724d92f911bc768b0ab35"), looks := true }, kinds := [], alts := [], laidByText := true, laidKinds := [.data, .data, .data, .sentinel, .sentinel], laidTests := true, laidLooks := .later }
def ReplyLengthsUptoCardSaid : Prop := Claim7.holds Tryd.pinned (.plain (OpenSpec.upto replyLengthsSpec)) replyLengthsUptoCard

/-- THE SECOND FORM's CARD OF 'garnerlaw27.ReplyChunks'. -/
def replyChunksUptoCard : Claim7 := { stood := { row := replyChunksUptoRow, standIns := [], harness := (true, "0db0b9ff1f1ed36bcfab3812c0cdfe371ba06e00a39724d92f911bc768b0ab35"), looks := true }, kinds := [], alts := [], laidByText := true, laidKinds := [.data, .data, .data, .sentinel, .sentinel], laidTests := true, laidLooks := .later }
def ReplyChunksUptoCardSaid : Prop := Claim7.holds Tryd.pinned (.plain (OpenSpec.upto replyChunksSpec)) replyChunksUptoCard

/-- THE SECOND FORM's CARD OF 'garnerlaw27.ReplyWrites'. -/
def replyWritesUptoCard : Claim7 := { stood := { row := replyWritesUptoRow, standIns := [], harness := (true, "0db0b9ff1f1ed36bcfab3812c0cdfe371ba06e00a39724d92f911bc768b0ab35"), looks := true }, kinds := [], alts := [], laidByText := true, laidKinds := [.data, .data, .data, .sentinel, .sentinel], laidTests := true, laidLooks := .later }
def ReplyWritesUptoCardSaid : Prop := Claim7.holds Tryd.pinned (.plain (OpenSpec.upto replyWritesSpec)) replyWritesUptoCard
end Rows
end Go.Proofs.YtknoimflimhcgaaDoor
