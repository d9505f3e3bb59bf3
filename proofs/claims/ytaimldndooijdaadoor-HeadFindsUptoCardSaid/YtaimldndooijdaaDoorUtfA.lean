/-
  The contracts of utf.Word, utf.Small and of the reference's Word, Small.
-/
import Derived.Test.YtaimldndooijdaaDoorProg
import Derived.WalkKit
import Derived.WalkSpells
import Derived.WalkLawsBesides
namespace Go.Proofs.YtaimldndooijdaaDoor
open Go.RowKit

def wordP (r : Int) : Prop := (48 ≤ r ∧ r ≤ 57) ∨ (97 ≤ r ∧ r ≤ 122) ∨ (65 ≤ r ∧ r ≤ 90) ∨ r = 95 ∨ (192 ≤ r ∧ r ≠ 215 ∧ r ≠ 247 ∧ ¬ (8192 ≤ r ∧ r ≤ 8303) ∧ ¬ (12288 ≤ r ∧ r ≤ 12351) ∧ r ≠ 65533 ∧ ¬ (55296 ≤ r ∧ r ≤ 57343) ∧ r ≤ 1114111)
instance (r : Int) : Decidable (wordP r) := by unfold wordP; exact inferInstance
def wordB (r : Int) : Bool := decide (wordP r)
def smallZ (r : Int) : Int :=
  if (65 ≤ r ∧ r ≤ 90) ∨ (192 ≤ r ∧ r ≤ 222 ∧ r ≠ 215) ∨ (913 ≤ r ∧ r ≤ 937 ∧ r ≠ 930) ∨ (1040 ≤ r ∧ r ≤ 1071) then r + 32
  else if 1024 ≤ r ∧ r ≤ 1039 then r + 80 else if r = 376 then 255 else r

theorem wordB_true {r : Int} (h : wordP r) : wordB r = true := decide_eq_true h
theorem wordB_false {r : Int} (h : ¬ wordP r) : wordB r = false := decide_eq_false h

theorem ret_dec {b : Bool} {p : Prop} [Decidable p] (h : b = true ↔ p) : Ending.returned (.bool b) = .returned (.bool (decide p)) := by
  have : b = decide p := by rw [Bool.eq_iff_iff]; simpa using h
  rw [this]
theorem ret_int' {k : IntKind} {a b : Int} (h : a = b) : Ending.returned (.int k a) = .returned (.int k b) := by rw [h]

set_option maxHeartbeats 1000000 in
theorem utf_Word (r : Int) (w : World) (h0 : -2147483648 ≤ r) (h1 : r ≤ 2147483647) :
    Calls Tryd.prog 55 #[.int .i32 r] w fun e w' => e = .returned (.bool (wordB r)) ∧ w = w' := by
  go_enter Tryd.func55, Tryd.ntmps55
  go_wp2
  all_goals go_ret
  all_goals exact ⟨ret_dec (by unfold wordP; simp_all <;> omega), rfl⟩

set_option maxHeartbeats 1000000 in
theorem ref_Word (r : Int) (w : World) (h0 : -2147483648 ≤ r) (h1 : r ≤ 2147483647) :
    Calls Tryd.prog 41 #[.int .i32 r] w fun e w' => e = .returned (.bool (wordB r)) ∧ w = w' := by
  go_enter Tryd.func41, Tryd.ntmps41
  go_wp2
  all_goals go_ret
  all_goals exact ⟨ret_dec (by unfold wordP; simp_all <;> omega), rfl⟩

set_option maxHeartbeats 1000000 in
theorem utf_Small (r : Int) (w : World) (h0 : -2147483648 ≤ r) (h1 : r ≤ 2147483647) :
    Calls Tryd.prog 56 #[.int .i32 r] w fun e w' => e = .returned (.int .i32 (smallZ r)) ∧ w = w' := by
  go_enter Tryd.func56, Tryd.ntmps56
  go_wp2
  all_goals go_ret
  all_goals exact ⟨ret_int' (by unfold smallZ; simp_all <;> omega), rfl⟩

set_option maxHeartbeats 1000000 in
theorem ref_Small (r : Int) (w : World) (h0 : -2147483648 ≤ r) (h1 : r ≤ 2147483647) :
    Calls Tryd.prog 43 #[.int .i32 r] w fun e w' => e = .returned (.int .i32 (smallZ r)) ∧ w = w' := by
  go_enter Tryd.func43, Tryd.ntmps43
  go_wp2
  all_goals go_ret
  all_goals exact ⟨ret_int' (by unfold smallZ; simp_all <;> omega), rfl⟩

end Go.Proofs.YtaimldndooijdaaDoor
