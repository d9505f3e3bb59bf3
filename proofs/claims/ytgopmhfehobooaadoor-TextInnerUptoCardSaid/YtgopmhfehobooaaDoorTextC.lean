/-
  The contract of the reference's All.
-/
import Derived.Test.YtgopmhfehobooaaDoorUtfE
import Derived.Test.YtgopmhfehobooaaDoorTextA
import Derived.Test.YtgopmhfehobooaaDoorTextP
namespace Go.Proofs.YtgopmhfehobooaaDoor
open Go.RowKit

theorem wordB_nat (r : Nat) : wordB (r : Int) = wordN r := by
  unfold wordB wordN
  refine decide_eq_decide.2 ?_
  unfold wordP
  omega
def strV (l : List UInt8) : Value := .string ⟨l.toArray⟩
/-- Of the runs those that are asked for, as words. -/
def pickW (inner : Bool) (n : Nat) (sg : List (Nat × List Nat)) : List (List UInt8) := (sg.filter fun x => !inner || innerR n x).map fun x => wordOf x.2
theorem pickW_cons (inner : Bool) (n : Nat) (x : Nat × List Nat) (sg : List (Nat × List Nat)) :
    pickW inner n (x :: sg) = if (!inner || innerR n x) = true then wordOf x.2 :: pickW inner n sg else pickW inner n sg := by
  unfold pickW
  rw [List.filter_cons]
  split <;> rfl
theorem app_mk' (a b : List UInt8) : (⟨(a ++ b).toArray⟩ : ByteArray) = (⟨a.toArray⟩ : ByteArray) ++ (⟨b.toArray⟩ : ByteArray) := by
  apply ByteArray.ext
  rw [ByteArray.data_append]
  simp
theorem info_str : (Tryd.prog.info? 9).map (fun i => (i.zero, i.size, i.bytes)) = some (some (.string ⟨#[]⟩), 1, 16) := by kernel_rfl
theorem wordOf_take (run : List Nat) (m : Nat) (h : m < run.length) :
    wordOf (run.take (m + 1)) = if m < 32 then wordOf (run.take m) ++ encR (smallN run[m]) else wordOf (run.take m) := by
  unfold wordOf
  by_cases c : m < 32
  · rw [if_pos c, List.take_take, List.take_take, Nat.min_eq_right (by omega), Nat.min_eq_right (by omega), List.take_succ_eq_append_getElem h, List.map_append, enc_append]
    simp [enc]
  · rw [if_neg c, List.take_take, List.take_take, Nat.min_eq_left (by omega), Nat.min_eq_left (by omega)]
theorem wordOf_len (run : List Nat) : (wordOf run).length ≤ 128 := by
  unfold wordOf
  have h := (enc_length ((run.take 32).map smallN)).2
  rw [List.length_map, List.length_take] at h
  omega

end Go.Proofs.YtgopmhfehobooaaDoor
