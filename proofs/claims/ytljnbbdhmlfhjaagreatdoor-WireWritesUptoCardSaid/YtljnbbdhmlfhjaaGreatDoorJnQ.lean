/-
  JSON, plainly: the one form is read back, whether its texts are valid or not.
-/
import Derived.Test.YtljnbbdhmlfhjaaGreatDoorWTwo
import Derived.Test.YtljnbbdhmlfhjaaGreatDoorJsnAll
namespace Go.Proofs.YtljnbbdhmlfhjaaGreatDoor
open Go.RowKit
end Go.Proofs.YtljnbbdhmlfhjaaGreatDoor
