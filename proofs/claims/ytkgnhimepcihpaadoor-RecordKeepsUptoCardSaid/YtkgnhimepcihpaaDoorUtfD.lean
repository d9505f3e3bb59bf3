/-
  The contract of the reference's Bytes.
-/
import Derived.Test.YtkgnhimepcihpaaDoorUtfQ
import Derived.Lib.RuneBytes
import Derived.Lib.Hide
import Derived.Test.YtkgnhimepcihpaaDoorKit
namespace Go.Proofs.YtkgnhimepcihpaaDoor
open Go.RowKit

end Go.Proofs.YtkgnhimepcihpaaDoor
