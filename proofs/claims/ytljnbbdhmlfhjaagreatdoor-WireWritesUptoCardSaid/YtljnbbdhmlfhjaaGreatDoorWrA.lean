/-
  The law WireReads: its walk.
-/
import Derived.Test.YtljnbbdhmlfhjaaGreatDoorWsA
import Derived.Test.YtljnbbdhmlfhjaaGreatDoorWirK
namespace Go.Proofs.YtljnbbdhmlfhjaaGreatDoor
open Go.RowKit
theorem size_sumL (r : Rec) : sizeR r ≤ sumL r.labs + r.line.size := by
  have : ∀ L : List Lab, (L.map fun x : Lab => x.1.size + x.2.size + 1).sum ≤ sumL L := by
    intro L
    induction L with
    | nil => simp [sumL]
    | cons x L ih =>
      unfold sumL at ih ⊢
      simp only [List.map_cons, List.sum_cons]
      omega
  have := this r.labs
  unfold sizeR
  omega
theorem bulk_of (l : List Rec) {n : Nat} (h : (l.map fun r => sumL r.labs + r.line.size + 1).sum ≤ n) : bulkR l ≤ 107 * n := by
  have : ∀ l : List Rec, bulkR l ≤ 107 * (l.map fun r => sumL r.labs + r.line.size + 1).sum := by
    intro l
    induction l with
    | nil => simp [bulkR]
    | cons r l ih =>
      have h1 := size_sumL r
      unfold bulkR at ih ⊢
      simp only [List.map_cons, List.sum_cons]
      omega
  have := this l
  omega
end Go.Proofs.YtljnbbdhmlfhjaaGreatDoor
