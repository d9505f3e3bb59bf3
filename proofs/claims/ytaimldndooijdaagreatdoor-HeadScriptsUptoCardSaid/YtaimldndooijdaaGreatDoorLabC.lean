/-
  The order of lists of labels: label.Compare.
-/
import Derived.Test.YtaimldndooijdaaGreatDoorLabB
import Derived.Deep.RegionHeld3
import Derived.Deep.DeepCutAuto
import Derived.BigQuiet
namespace Go.Proofs.YtaimldndooijdaaGreatDoor
open Go.RowKit

theorem belowA {a W : World} {o : Obj} (h : Below a.heap.size a W) : Below a.heap.size a (W.alloc o) := h.alloc h.size o
set_option maxRecDepth 100000 in
set_option maxHeartbeats 4000000 in
/-- cmp.Or at two numbers. -/
theorem or_two (x y : Int) (g : Nat) (w : World) (c0 : w.cell? ⟨g, 0, none⟩ = some (.int .i64 x)) (c1 : w.cell? ⟨g, 1, none⟩ = some (.int .i64 y)) : Calls Tryz.prog 43 #[.slice (some ⟨g, 0, none⟩) 2 2] w fun e w' =>
    e = .returned (.int .i64 (if x = 0 then y else x)) ∧ w = w' := by
  by_cases hx : x = 0
  · have e1 : (x != 0) = false := by simpa using hx
    rw [if_pos hx]
    subst hx
    by_cases hy : y = 0
    · subst hy
      go_enter Tryz.func43, Tryz.ntmps43
      go_wp2
      go_loop [8] (fun iv => ∃ k : Nat, iv = .int .i64 k ∧ k ≤ 2) (fun iv => 2 - (intOf iv).toNat)
      case atStart => exact ⟨0, rfl, by omega⟩
      case round =>
        obtain ⟨k, rfl, hk⟩ := hrel
        by_cases h0 : k = 0
        · subst h0
          go_wp2
          exact ⟨⟨1, rfl, by omega⟩, by simp [intOf]⟩
        · by_cases h1 : k = 1
          · subst h1
            go_wp2
            exact ⟨⟨2, rfl, by omega⟩, by simp [intOf]⟩
          · obtain rfl : k = 2 := by omega
            go_wp2
            go_ret
            exact ⟨rfl, rfl⟩
    · have e2 : (y != 0) = true := by simpa using hy
      go_enter Tryz.func43, Tryz.ntmps43
      go_wp2
      go_loop [8] (fun iv => ∃ k : Nat, iv = .int .i64 k ∧ k ≤ 1) (fun iv => 2 - (intOf iv).toNat)
      case atStart => exact ⟨0, rfl, by omega⟩
      case round =>
        obtain ⟨k, rfl, hk⟩ := hrel
        by_cases h0 : k = 0
        · subst h0
          go_wp2
          exact ⟨⟨1, rfl, by omega⟩, by simp [intOf]⟩
        · obtain rfl : k = 1 := by omega
          go_wp2
          go_ret
          exact ⟨rfl, rfl⟩
  · have e1 : (x != 0) = true := by simpa using hx
    rw [if_neg hx]
    go_enter Tryz.func43, Tryz.ntmps43
    go_wp2
    go_loop [8] (fun iv => iv = .int .i64 0) (fun iv => 2 - (intOf iv).toNat)
    case atStart => rfl
    case round =>
      obtain rfl := hrel
      go_wp2
      go_ret
      exact ⟨rfl, rfl⟩
def orI (x y : Int) : Int := if x = 0 then y else x
theorem or_new (x y : Int) (w : World) (t : TypeId) : Calls Tryz.prog 43 #[.slice (some ⟨w.heap.size, 0, none⟩) 2 2] (w.alloc (.cells #[.int .i64 x, .int .i64 y] t)).drew fun e w' =>
    e = .returned (.int .i64 (orI x y)) ∧ (w.alloc (.cells #[.int .i64 x, .int .i64 y] t)).drew = w' := by
  have := fun j => cell_of_row (w.alloc (.cells #[.int .i64 x, .int .i64 y] t)) w.heap.size j _ _ _ (heap_alloc_new _ _)
  exact or_two x y w.heap.size _ ((this 0).trans rfl) ((this 1).trans rfl)
theorem keep4 {a W : World} {p q r s : World → Prop} (h : ∀ W, Below a.heap.size a W → p W ∧ q W ∧ r W ∧ s W) (hb : Below a.heap.size a W) : p W ∧ q W ∧ r W ∧ s W ∧ Below a.heap.size a W := ⟨(h W hb).1, (h W hb).2.1, (h W hb).2.2.1, (h W hb).2.2.2, hb⟩
theorem cmpLabs_cons {A B : List Lab} {k : Nat} (hA : k < A.length) (hB : k < B.length) : cmpLabs (A.drop k) (B.drop k) = if cmpLab A[k] B[k] = 0 then cmpLabs (A.drop (k + 1)) (B.drop (k + 1)) else cmpLab A[k] B[k] := by
  rw [List.drop_eq_getElem_cons hA, List.drop_eq_getElem_cons hB]
  rfl
theorem cmpLabs_over {A B : List Lab} {k : Nat} (hA : k < A.length) (hB : B.length ≤ k) : cmpLabs (A.drop k) (B.drop k) = 1 := by
  rw [List.drop_eq_getElem_cons hA, List.drop_of_length_le hB]
  rfl
theorem cmpLabs_under {A B : List Lab} {k : Nat} (hA : A.length ≤ k) (hB : k < B.length) : cmpLabs (A.drop k) (B.drop k) = -1 := by
  rw [List.drop_of_length_le hA, List.drop_eq_getElem_cons hB]
  rfl
theorem cmpLabs_end {A B : List Lab} {k : Nat} (hA : A.length ≤ k) (hB : B.length ≤ k) : cmpLabs (A.drop k) (B.drop k) = 0 := by
  rw [List.drop_of_length_le hA, List.drop_of_length_le hB]
  rfl

end Go.Proofs.YtaimldndooijdaaGreatDoor
