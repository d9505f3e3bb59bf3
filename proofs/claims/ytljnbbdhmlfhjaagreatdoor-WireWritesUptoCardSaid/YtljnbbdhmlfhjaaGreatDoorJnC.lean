/-
  The law JsonStrings: its walk.
-/
import Derived.Test.YtljnbbdhmlfhjaaGreatDoorJnOne
import Derived.Test.YtljnbbdhmlfhjaaGreatDoorJsLAll
import Derived.Test.YtljnbbdhmlfhjaaGreatDoorJfOne
import Derived.Lib.QuietBelow
namespace Go.Proofs.YtljnbbdhmlfhjaaGreatDoor
open Go.RowKit
end Go.Proofs.YtljnbbdhmlfhjaaGreatDoor
