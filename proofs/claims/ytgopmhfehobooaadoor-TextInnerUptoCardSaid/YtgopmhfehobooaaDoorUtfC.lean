/-
  The contract of the reference's One: it is the model's own decoder.
-/
import Derived.Test.YtgopmhfehobooaaDoorUtfQ
namespace Go.Proofs.YtgopmhfehobooaaDoor
open Go.RowKit

theorem ret_pair {k k' : IntKind} {a b : Int} {p : Nat × Nat} {x y : Nat} (h : p = (x, y)) (ha : a = x) (hb : b = y) : Ending.returned (.tuple #[.int k a, .int k' b]) = .returned (.tuple #[.int k (p.1 : Int), .int k' (p.2 : Int)]) := by rw [h, ha, hb]

end Go.Proofs.YtgopmhfehobooaaDoor
