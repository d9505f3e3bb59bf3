/-
  The contract of the reference's Bytes.
-/
import Derived.Test.YtgopmhfehobooaaDoorUtfQ
import Derived.Lib.RuneBytes
import Derived.Lib.Hide
import Derived.Test.YtgopmhfehobooaaDoorKit
namespace Go.Proofs.YtgopmhfehobooaaDoor
open Go.RowKit

end Go.Proofs.YtgopmhfehobooaaDoor
