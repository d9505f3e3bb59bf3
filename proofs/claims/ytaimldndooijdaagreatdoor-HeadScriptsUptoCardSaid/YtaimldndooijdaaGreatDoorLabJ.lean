/-
  Small laws on lists of labels.
-/
import Derived.Test.YtaimldndooijdaaGreatDoorLabH
import Derived.Test.YtaimldndooijdaaGreatDoorLabE
import Derived.Test.YtaimldndooijdaaGreatDoorLabM
import Derived.Deep.Cut
import Derived.Deep.CutRange
import Derived.Lib.QuietBelow
namespace Go.Proofs.YtaimldndooijdaaGreatDoor
open Go.RowKit
theorem LRow.take {W : World} {a : Option Addr} {n c k : Nat} {L : List Lab} (h : LRow W (.slice a n c) L) (hk : k ≤ L.length) : LRow W (.slice a k c) (L.take k) := by
  obtain ⟨a', c', e, h1, h2⟩ := h.shape
  cases e
  have := argRow_take h hk
  unfold LRow
  rw [List.length_take, Nat.min_eq_left hk]
  rw [show labCells (L.take k) = (labCells L).take (k * 2) from ?_]
  · exact this
  · have e2 := labCells_append (L.take k) (L.drop k)
    rw [List.take_append_drop] at e2
    rw [e2, List.take_left' (by rw [labCells_len, List.length_take, Nat.min_eq_left hk])]
theorem LRow.drop {W : World} {a : Option Addr} {n c k : Nat} {L : List Lab} (h : LRow W (.slice a n c) L) (hk : k ≤ L.length) {a' : Option Addr} {c' m : Nat} (hm : m = n - k) (hc' : n - k ≤ c' ∧ c' ≤ c)
    (ha : ∀ b off, a = some ⟨b, off, none⟩ → k < n → a' = some ⟨b, off + k * 2, none⟩) : LRow W (.slice a' m c') (L.drop k) := by
  subst hm
  obtain ⟨a2, c2, e, h1, h2⟩ := h.shape
  cases e
  have := argRow_drop h hk hc' ha
  unfold LRow
  rw [List.length_drop]
  rw [show labCells (L.drop k) = (labCells L).drop (k * 2) from ?_]
  · exact this
  · have e2 := labCells_append (L.take k) (L.drop k)
    rw [List.take_append_drop] at e2
    rw [e2, List.drop_left' (by rw [labCells_len, List.length_take, Nat.min_eq_left hk])]
theorem LRow.nil (W : World) (a : Option Addr) (c : Nat) (hc : c ≤ maxLen) : LRow W (.slice a 0 c) [] := ⟨rfl, a, c, rfl, Nat.zero_le _, hc, fun h => by simp [labCells] at h⟩
def sumL (l : List Lab) : Nat := (l.map fun x => x.1.size + x.2.size + 3).sum
theorem sumL_snoc (l : List Lab) (x : Lab) : sumL (l ++ [x]) = sumL l + (x.1.size + x.2.size + 3) := by simp [sumL]
theorem sumL_len : ∀ l : List Lab, l.length * 3 ≤ sumL l
  | [] => by simp [sumL]
  | x :: l => by
    have := sumL_len l
    simp only [sumL, List.map_cons, List.sum_cons, List.length_cons] at this ⊢
    omega
theorem sumL_mem : ∀ {l : List Lab} {x : Lab}, x ∈ l → x.1.size + x.2.size ≤ sumL l
  | y :: l, x, h => by
    simp only [sumL, List.map_cons, List.sum_cons]
    rcases List.mem_cons.1 h with rfl | h
    · omega
    · have := sumL_mem h
      simp only [sumL] at this
      omega
theorem firstBad_zero {L : List Lab} : firstBad L = 0 ↔ ∀ x ∈ L, labBad x = 0 := by
  induction L with
  | nil => simp [firstBad]
  | cons x L ih =>
    unfold firstBad
    split
    · rename_i h
      simp [h, ih]
    · rename_i h
      simp [h]
end Go.Proofs.YtaimldndooijdaaGreatDoor
