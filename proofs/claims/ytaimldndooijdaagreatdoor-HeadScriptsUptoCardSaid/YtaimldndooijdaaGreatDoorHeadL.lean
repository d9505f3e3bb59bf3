/-
  The walk of HeadTerms.
-/
import Derived.Test.YtaimldndooijdaaGreatDoorHeadTri
namespace Go.Proofs.YtaimldndooijdaaGreatDoor
open Go.RowKit
end Go.Proofs.YtaimldndooijdaaGreatDoor
