/-
  The law WireReads: its walk.
-/
import Derived.Test.YtljnbbdhmlfhjaaGreatDoorWsA
import Derived.Test.YtljnbbdhmlfhjaaGreatDoorWirK
namespace Go.Proofs.YtljnbbdhmlfhjaaGreatDoor
open Go.RowKit
theorem get_time (r : Rec) : getJ kTime (recJ r) = some (.num (Lib.itoa r.time)) := by simp [getJ, recJ, findM]
theorem get_line (r : Rec) : getJ kLine (recJ r) = some (.str (bsOf r.line)) := by
  have k3 : ¬ kTime = kLine := by decide
  have k4 : ¬ kLabels = kLine := by decide
  have k5 : ¬ kSeq = kLine := by decide
  simp [getJ, recJ, findM, k3, k4, k5]
theorem get_labels (r : Rec) : getJ kLabels (recJ r) = some (.obj (r.labs.map memOf)) := by
  have k3 : ¬ kTime = kLabels := by decide
  have k5 : ¬ kSeq = kLabels := by decide
  simp [getJ, recJ, findM, k3, k5]
theorem okM_map : ∀ l : List Lab, (l.all fun x => Lib.validD (bsOf x.1) && Lib.validD (bsOf x.2)) = true → okM (l.map memOf)
  | [], _ => trivial
  | x :: l, h => by
    simp only [List.all_cons, Bool.and_eq_true] at h
    exact ⟨⟨h.1.1, h.1.2⟩, okM_map l h.2⟩
theorem ok_recJ {r : Rec} (h : validR r = true) : okJ (recJ r) := by
  unfold validR at h
  rw [Bool.and_eq_true] at h
  exact ⟨⟨by decide, itoa_num _⟩, ⟨by decide, dec_num _⟩, ⟨by decide, okM_map _ h.2⟩, ⟨by decide, h.1⟩, trivial⟩
theorem okL_recs : ∀ l : List Rec, (l.all validR) = true → okL (l.map recJ)
  | [], _ => trivial
  | r :: l, h => by
    simp only [List.all_cons, Bool.and_eq_true] at h
    exact ⟨ok_recJ h.1, okL_recs l h.2⟩
theorem deep_recJ (r : Rec) : deepJ (recJ r) = 2 := by
  simp only [recJ, deepJ, deepM, deepE, deepM_map]
  rfl
theorem deepL_recs : ∀ l : List Rec, deepL (l.map recJ) ≤ 2
  | [] => by simp [deepL]
  | r :: l => by
    have := deepL_recs l
    simp only [List.map_cons, deepL, deep_recJ]
    omega
theorem deep_recs (l : List Rec) : deepJ (underJ kRecords (l.map recJ)) ≤ 4 := by
  have := deepL_recs l
  simp only [underJ, deepJ, deepM, deepE]
  omega
theorem size_sumL (r : Rec) : sizeR r ≤ sumL r.labs + r.line.size := by
  have : ∀ L : List Lab, (L.map fun x : Lab => x.1.size + x.2.size + 1).sum ≤ sumL L := by
    intro L
    induction L with
    | nil => simp [sumL]
    | cons x L ih =>
      unfold sumL at ih ⊢
      simp only [List.map_cons, List.sum_cons]
      omega
  have := this r.labs
  unfold sizeR
  omega
theorem bulk_of (l : List Rec) {n : Nat} (h : (l.map fun r => sumL r.labs + r.line.size + 1).sum ≤ n) : bulkR l ≤ 107 * n := by
  have : ∀ l : List Rec, bulkR l ≤ 107 * (l.map fun r => sumL r.labs + r.line.size + 1).sum := by
    intro l
    induction l with
    | nil => simp [bulkR]
    | cons r l ih =>
      have h1 := size_sumL r
      unfold bulkR at ih ⊢
      simp only [List.map_cons, List.sum_cons]
      omega
  have := this l
  omega
theorem names_recJ (L : List Lab) : namesJ (.obj (L.map memOf)) = (L.map fun x => bsOf x.1, true) := by
  simp only [namesJ, List.map_map]
  rfl
end Go.Proofs.YtljnbbdhmlfhjaaGreatDoor
