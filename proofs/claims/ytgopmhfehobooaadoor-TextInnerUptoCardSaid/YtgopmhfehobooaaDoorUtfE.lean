/-
  The contract of the reference's Runes.
-/
import Derived.Test.YtgopmhfehobooaaDoorUtfC
import Derived.Test.YtgopmhfehobooaaDoorUtfD
namespace Go.Proofs.YtgopmhfehobooaaDoor
open Go.RowKit

theorem info_u8 : (Tryd.prog.info? 5).map (fun i => (i.zero, i.size, i.bytes)) = some (some (.int .u8 0), 1, 1) := by kernel_rfl
theorem info_i32 : (Tryd.prog.info? 21).map (fun i => (i.zero, i.size, i.bytes)) = some (some (.int .i32 0), 1, 4) := by kernel_rfl

def runeCell (r : Nat) : Value := .int .i32 (r : Int)
/-- A text's validity, step by step: no step yields U+FFFD of one byte. -/
def okTo (s : ByteArray) (v : Bool) (pos : Nat) : Prop := Lib.validD s.data.toList = (v && Lib.validD (s.data.toList.drop pos))

theorem okTo_step (s : ByteArray) (v : Bool) (pos : Nat) (h : okTo s v pos) (hp : pos < s.size) :
    okTo s (if (Utf8.decode s pos).1 = 65533 ∧ (Utf8.decode s pos).2 = 1 then false else v) (pos + (Utf8.decode s pos).2) := by
  have hl : s.data.toList.length = s.size := by simp [ByteArray.size_data]
  unfold okTo at *
  rw [h, Lib.validD_step (s.data.toList.drop pos) (by intro e; have := congrArg List.length e; simp only [List.length_drop, List.length_nil, hl] at this; omega), ← decode_drop, List.drop_drop]
  by_cases hc : (Utf8.decode s pos).1 = 65533 ∧ (Utf8.decode s pos).2 = 1
  · simp [hc]
  · rw [if_neg hc, if_neg hc]
theorem okTo_end (s : ByteArray) (v : Bool) (pos : Nat) (h : okTo s v pos) (hp : ¬ pos < s.size) : Lib.validD s.data.toList = v := by
  have hl : s.data.toList.length = s.size := by simp [ByteArray.size_data]
  unfold okTo at h
  rw [h, List.drop_of_length_le (by omega), Lib.validD_nil, Bool.and_true]
theorem okSel (r n : Nat) (t1 t2 bb : Bool) (h1 : ((n : Int) == 1) = t1) (h2 : ((r : Int) == 65533) = t2) : (if r = 65533 ∧ n = 1 then false else bb) = (if t1 && t2 then false else bb) := by
  have a : n = 1 ↔ t1 = true := by
    rw [← h1]
    exact ⟨fun h => by rw [h]; rfl, fun h => by have := beq_iff_eq.1 h; omega⟩
  have b : r = 65533 ↔ t2 = true := by
    rw [← h2]
    exact ⟨fun h => by rw [h]; rfl, fun h => by have := beq_iff_eq.1 h; omega⟩
  by_cases c : r = 65533 ∧ n = 1
  · rw [if_pos c, a.1 c.2, b.1 c.1]; rfl
  · rw [if_neg c]
    have : (t1 && t2) = false := by
      cases t1 <;> cases t2 <;> simp_all
    rw [this]; rfl
/-- The width of what is read never passes the end. -/
theorem pos_le (s : ByteArray) (pos : Nat) (hp : pos < s.size) : pos + (Utf8.decode s pos).2 ≤ s.size := by
  have hl : s.data.toList.length = s.size := by simp [ByteArray.size_data]
  have hne : s.data.toList.drop pos ≠ [] := by intro e; have := congrArg List.length e; simp only [List.length_drop, List.length_nil, hl] at this; omega
  have := Lib.decodeL_le _ hne
  rw [← decode_drop, List.length_drop, hl] at this
  omega

theorem smallZ_nat (r : Nat) : smallZ (r : Int) = ((smallN r : Nat) : Int) := by
  unfold smallZ smallN
  repeat' split
  all_goals omega

theorem smallN_take (rs : List Nat) (k : Nat) (h : k < rs.length) : enc ((rs.take (k + 1)).map smallN) = enc ((rs.take k).map smallN) ++ encR (smallN rs[k]) := by
  rw [List.take_succ_eq_append_getElem h, List.map_append, enc_append]
  simp [enc]
theorem enc_take_le (rs : List Nat) (k : Nat) : (enc ((rs.take k).map smallN)).length ≤ 4 * rs.length := by
  have h := (enc_length ((rs.take k).map smallN)).2
  rw [List.length_map] at h
  have := List.length_take_le k rs
  have h2 : (rs.take k).length ≤ rs.length := by rw [List.length_take]; omega
  omega
theorem cells_encR (r : Nat) : Lib.runeCells (r : Int) = Lib.byteCells (encR r) := (Lib.byteCells_encodeRune r).symm

end Go.Proofs.YtgopmhfehobooaaDoor
