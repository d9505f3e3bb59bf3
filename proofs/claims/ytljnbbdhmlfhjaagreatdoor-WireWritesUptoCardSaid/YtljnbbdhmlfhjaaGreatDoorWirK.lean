/-
  A push that the law makes of records, plainly: it is read as they are.
-/
import Derived.Test.YtljnbbdhmlfhjaaGreatDoorWirR
import Derived.Test.YtljnbbdhmlfhjaaGreatDoorWirTri
namespace Go.Proofs.YtljnbbdhmlfhjaaGreatDoor
open Go.RowKit
/-! ### Valid as a whole: valid in its parts -/
end Go.Proofs.YtljnbbdhmlfhjaaGreatDoor
