/-
  The document's reading of a push and the program's are one, plainly.
-/
import Derived.Test.YtljnbbdhmlfhjaaGreatDoorWirQ
namespace Go.Proofs.YtljnbbdhmlfhjaaGreatDoor
open Go.RowKit
end Go.Proofs.YtljnbbdhmlfhjaaGreatDoor
