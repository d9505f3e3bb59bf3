/-
  The contracts of utf.Word, utf.Small and of the reference's Word, Small.
-/
import Derived.Test.YtaimldndooijdaaGreatDoorProg
import Derived.WalkKit
import Derived.WalkSpells
import Derived.WalkLawsBesides
namespace Go.Proofs.YtaimldndooijdaaGreatDoor
open Go.RowKit

def wordRP (r : Int) : Prop := (48 ≤ r ∧ r ≤ 57) ∨ (97 ≤ r ∧ r ≤ 122) ∨ (65 ≤ r ∧ r ≤ 90) ∨ r = 95 ∨ (192 ≤ r ∧ r ≠ 215 ∧ r ≠ 247 ∧ ¬ (8192 ≤ r ∧ r ≤ 8303) ∧ ¬ (12288 ≤ r ∧ r ≤ 12351) ∧ r ≠ 65533 ∧ ¬ (55296 ≤ r ∧ r ≤ 57343) ∧ r ≤ 1114111)
instance (r : Int) : Decidable (wordRP r) := by unfold wordRP; exact inferInstance
def wordB (r : Int) : Bool := decide (wordRP r)
def smallZ (r : Int) : Int :=
  if (65 ≤ r ∧ r ≤ 90) ∨ (192 ≤ r ∧ r ≤ 222 ∧ r ≠ 215) ∨ (913 ≤ r ∧ r ≤ 937 ∧ r ≠ 930) ∨ (1040 ≤ r ∧ r ≤ 1071) then r + 32
  else if 1024 ≤ r ∧ r ≤ 1039 then r + 80 else if r = 376 then 255 else r

theorem ret_dec {b : Bool} {p : Prop} [Decidable p] (h : b = true ↔ p) : Ending.returned (.bool b) = .returned (.bool (decide p)) := by
  have : b = decide p := by rw [Bool.eq_iff_iff]; simpa using h
  rw [this]
theorem ret_int' {k : IntKind} {a b : Int} (h : a = b) : Ending.returned (.int k a) = .returned (.int k b) := by rw [h]

set_option maxHeartbeats 1000000 in
theorem utf_Word (r : Int) (w : World) (h0 : -2147483648 ≤ r) (h1 : r ≤ 2147483647) :
    Calls Tryz.prog 75 #[.int .i32 r] w fun e w' => e = .returned (.bool (wordB r)) ∧ w = w' := by
  go_enter Tryz.func75, Tryz.ntmps75
  go_wp2
  all_goals go_ret
  all_goals exact ⟨ret_dec (by unfold wordRP; simp_all <;> omega), rfl⟩

set_option maxHeartbeats 1000000 in
theorem ref_Word (r : Int) (w : World) (h0 : -2147483648 ≤ r) (h1 : r ≤ 2147483647) :
    Calls Tryz.prog 94 #[.int .i32 r] w fun e w' => e = .returned (.bool (wordB r)) ∧ w = w' := by
  go_enter Tryz.func94, Tryz.ntmps94
  go_wp2
  all_goals go_ret
  all_goals exact ⟨ret_dec (by unfold wordRP; simp_all <;> omega), rfl⟩

set_option maxHeartbeats 1000000 in
theorem utf_Small (r : Int) (w : World) (h0 : -2147483648 ≤ r) (h1 : r ≤ 2147483647) :
    Calls Tryz.prog 76 #[.int .i32 r] w fun e w' => e = .returned (.int .i32 (smallZ r)) ∧ w = w' := by
  go_enter Tryz.func76, Tryz.ntmps76
  go_wp2
  all_goals go_ret
  all_goals exact ⟨ret_int' (by unfold smallZ; simp_all <;> omega), rfl⟩

set_option maxHeartbeats 1000000 in
theorem ref_Small (r : Int) (w : World) (h0 : -2147483648 ≤ r) (h1 : r ≤ 2147483647) :
    Calls Tryz.prog 96 #[.int .i32 r] w fun e w' => e = .returned (.int .i32 (smallZ r)) ∧ w = w' := by
  go_enter Tryz.func96, Tryz.ntmps96
  go_wp2
  all_goals go_ret
  all_goals exact ⟨ret_int' (by unfold smallZ; simp_all <;> omega), rfl⟩

end Go.Proofs.YtaimldndooijdaaGreatDoor
