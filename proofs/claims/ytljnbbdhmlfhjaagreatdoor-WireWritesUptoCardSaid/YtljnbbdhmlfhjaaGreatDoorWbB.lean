/-
  The document's Body: a push of records.
-/
import Derived.Test.YtljnbbdhmlfhjaaGreatDoorWbA
import Derived.Test.YtljnbbdhmlfhjaaGreatDoorWirK
import Derived.Test.YtljnbbdhmlfhjaaGreatDoorWsA
import Derived.BigQuiet
import Derived.Lib.QuietBelow
namespace Go.Proofs.YtljnbbdhmlfhjaaGreatDoor
open Go.RowKit
def lstG (f : Bool) (l : List J) : Bs := if f then formL l else formT l
def memG (f : Bool) (l : List (Bs × J)) : Bs := if f then formM l else formU l
theorem lstG_nil (f : Bool) : lstG f [] = [] := by cases f <;> rfl
theorem memG_nil (f : Bool) : memG f [] = [] := by cases f <;> rfl
theorem lstG_cons (f : Bool) (x : J) (l : List J) : lstG f (x :: l) = (if f then [] else [44]) ++ (formJ x ++ lstG false l) := by cases f <;> rfl
theorem memG_cons (f : Bool) (m : Bs × J) (l : List (Bs × J)) : memG f (m :: l) = (if f then [] else [44]) ++ (formE m ++ memG false l) := by cases f <;> rfl
theorem zcat_size (a b : ByteArray) : (a ++ b).size = a.size + b.size := ByteArray.size_append
theorem zlen_size (a : ByteArray) : a.data.toList.length = a.size := by simp [ByteArray.size_data]
theorem zcat_list (a b : ByteArray) : (a ++ b).data.toList = a.data.toList ++ b.data.toList := by rw [ByteArray.data_append]; simp
theorem zext {a b : ByteArray} (h : a.data.toList = b.data.toList) : a = b := ByteArray.ext (Array.toList_inj.1 h)
theorem pre_cases (k : Nat) : ∃ pre : Bs, (if decide (k = 0) = true then ([] : Bs) else [44]) = pre ∧ ((k = 0 ∧ pre = []) ∨ (0 < k ∧ pre = [44])) := by
  by_cases h : k = 0
  · exact ⟨[], by simp [h], .inl ⟨h, rfl⟩⟩
  · exact ⟨[44], by simp [h], .inr ⟨by omega, rfl⟩⟩
theorem lab_text (x : Lab) (f : Bool) (l : List (Bs × J)) : memG f (memOf x :: l) = (if f then [] else [44]) ++ (quote (bsOf x.1) ++ (([58] : Bs) ++ (quote (bsOf x.2) ++ memG false l))) := by
  rw [memG_cons]
  simp [memOf, formE, formJ]
end Go.Proofs.YtljnbbdhmlfhjaaGreatDoor
