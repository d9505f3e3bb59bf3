/-
  The document's reading of a push, plainly: the parts of a value's one form; its numbers; a record of them.
-/
import Derived.Test.YtljnbbdhmlfhjaaGreatDoorWirOne
namespace Go.Proofs.YtljnbbdhmlfhjaaGreatDoor
open Go.RowKit
def calm (c : UInt8) : Prop := c ≠ 34 ∧ ¬ (c = 91 ∨ c = 123) ∧ ¬ (c = 93 ∨ c = 125) ∧ ¬ (c = 44 ∨ c = 58)
instance (c : UInt8) : Decidable (calm c) := inferInstanceAs (Decidable (_ ∧ _))
/-! ### Numbers -/
end Go.Proofs.YtljnbbdhmlfhjaaGreatDoor
