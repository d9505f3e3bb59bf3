/-
  Openings of arguments: a list of labels; a label.
-/
import Derived.Test.YtaimldndooijdaaGreatDoorFrame
import Derived.Test.YtaimldndooijdaaGreatDoorLabJ
import Derived.Deep.SlicePairs
import Derived.Lib.SmallJoins
namespace Go.Proofs.YtaimldndooijdaaGreatDoor
open Go.ChangeShapes Go.WideShapes Go.ChangeAt Go.RowKit Go.Lib Go.Deep Go.Joins

theorem labs_bulk {H : Type} (D0 D1 : Nat → DataW H) (L : Nat → Lab) : ∀ (n : Nat), (∀ i, i < n → (L i).1.size + 1 = Rows.uptoBulk (D0 i) ∧ (L i).2.size + 1 = Rows.uptoBulk (D1 i)) → sumL ((List.range n).map L) ≤ Rows.uptoBulkAll ((List.range n).map fun i => DataW.agg [D0 i, D1 i])
  | 0, _ => by simp [sumL]
  | n + 1, h => by
    have ih := labs_bulk D0 D1 L n fun i hi => h i (by omega)
    have h1 := h n (by omega)
    have app : ∀ (a b : List (DataW H)), Rows.uptoBulkAll (a ++ b) = Rows.uptoBulkAll a + Rows.uptoBulkAll b := by
      intro a b
      induction a with
      | nil => simp [Rows.uptoBulkAll]
      | cons x a ih => simp only [List.cons_append, Rows.uptoBulkAll, ih]; omega
    rw [List.range_succ, List.map_append, List.map_append, app]
    show sumL ((List.range n).map L ++ [L n]) ≤ _
    rw [sumL_snoc]
    simp only [List.map_cons, List.map_nil, Rows.uptoBulkAll, Rows.uptoBulk]
    omega
end Go.Proofs.YtaimldndooijdaaGreatDoor
