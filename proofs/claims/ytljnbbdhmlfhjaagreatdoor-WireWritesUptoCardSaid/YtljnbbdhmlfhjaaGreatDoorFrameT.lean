/-
  A list of texts that came in; strconv's two errors out of the row.
-/
import Derived.Test.YtljnbbdhmlfhjaaGreatDoorFrameJ
import Derived.Test.YtljnbbdhmlfhjaaGreatDoorJnG
import Derived.Deep.Strs
import Derived.LaidLaws
namespace Go.Proofs.YtljnbbdhmlfhjaaGreatDoor
open Go.RowKit Go.ChangeShapes Go.WideShapes
theorem bulk_texts {H : Type} : ∀ L : List Bs, Rows.uptoBulkAll (H := H) (L.map fun b => .lit (.string b)) = (L.map fun b => b.length + 1).sum
  | [] => rfl
  | b :: L => by simp only [List.map_cons, Rows.uptoBulkAll, Rows.uptoBulk, List.sum_cons, bulk_texts L]
end Go.Proofs.YtljnbbdhmlfhjaaGreatDoor
