/-
  The contracts of utf.Count and of the reference's One.
-/
import Derived.Test.YtgopmhfehobooaaUtfP
import Derived.Test.YtgopmhfehobooaaUtfA
import Derived.Lib.RuneCountTail
import Derived.Lib.Hide
namespace Go.Proofs.Ytgopmhfehobooaa
open Go.RowKit

theorem ofList (s : ByteArray) : (⟨s.data.toList.toArray⟩ : ByteArray) = s := by cases s; simp
theorem ext_list' (t : ByteArray) (k : Nat) : (t.extract k t.size).data.toList = t.data.toList.drop k := by
  rw [ByteArray.data_extract, Array.toList_extract, List.extract_eq_take_drop, List.take_of_length_le]
  rw [List.length_drop, Array.length_toList]
  exact Nat.le_refl _
theorem decode_drop (s : ByteArray) (pos : Nat) : Utf8.decode s pos = Lib.decodeL (s.data.toList.drop pos) := by
  have h := Lib.tail_decode s pos 0
  rw [Nat.add_zero] at h
  rw [← h]
  unfold Lib.decodeL
  rw [← ext_list', ofList]
theorem runes_pos (s : ByteArray) (pos : Nat) (h : pos < s.size) :
    runes (s.data.toList.drop pos) = (Utf8.decode s pos).1 :: runes (s.data.toList.drop (pos + (Utf8.decode s pos).2)) := by
  have hl : s.data.toList.length = s.size := by simp [ByteArray.size_data]
  rw [runes_step _ (by intro e; have := congrArg List.length e; simp only [List.length_drop, List.length_nil, hl] at this; omega), ← decode_drop, List.drop_drop]
theorem runes_end (s : ByteArray) (pos : Nat) (h : ¬ pos < s.size) : runes (s.data.toList.drop pos) = [] := by
  have hl : s.data.toList.length = s.size := by simp [ByteArray.size_data]
  rw [List.drop_of_length_le (by omega)]; rfl
theorem width_pos' (s : ByteArray) (pos : Nat) : 1 ≤ (Utf8.decode s pos).2 := Lib.width_pos s pos

theorem below_iter (w : World) (s : ByteArray) (pos : Nat) : Below w.heap.size w (w.iter s pos) := (Below.refl _ _).alloc (Nat.le_refl _) _

set_option maxRecDepth 100000 in
set_option maxHeartbeats 1000000 in
theorem utf_Count (s : ByteArray) (w : World) (hs : s.size ≤ maxLen) :
    Calls Try.prog 18 #[.string s] w fun e w' => e = .returned (.int .i64 (runes s.data.toList).length) ∧ Below w.heap.size w w' := by
  unfold maxLen at hs
  have hlen := runes_length s.data.toList
  have hl : s.data.toList.length = s.size := by simp [ByteArray.size_data]
  rw [hl] at hlen
  clear hl
  obtain ⟨N, hN⟩ : ∃ N, (runes s.data.toList).length = N := ⟨_, rfl⟩
  rw [hN] at hlen ⊢
  have HN := Lib.hid hN; clear hN
  go_enter Try.func18, Try.ntmps18
  go_wp2
  go_loopw [3] (fun n w' => ∃ (pos k : Nat), w' = w.iter s pos ∧ n = .int .i64 k ∧ k + (runes (s.data.toList.drop pos)).length = N) (fun _ w' => s.size - w'.iterPos w.heap.size)
  case atStart => exact ⟨0, 0, rfl, rfl, by rw [List.drop_zero, HN.out]; omega⟩
  case round =>
    obtain ⟨pos, k, rfl, rfl, hk⟩ := hrel
    have HK := Lib.hid hk
    have hkN : k ≤ N := by omega
    clear hk
    by_cases hp : pos < s.size
    · have hnx : ∀ ty, (Instr.next (.pointer (some ⟨w.heap.size, 0, none⟩)) true ty).run Try.prog (w.iter s pos) = _ := fun ty => run_next_any w s pos ty hp
      have hwd := width_pos' s pos
      have hk1 : k + 1 ≤ N := by have := HK.out; rw [runes_pos s pos hp] at this; simp only [List.length_cons] at this; omega
      go_wp2
      go_roundw
      case rel => exact ⟨pos + (Utf8.decode s pos).2, k + 1, rfl, by go_num, by have := HK.out; rw [runes_pos s pos hp] at this; simp only [List.length_cons] at this; omega⟩
      case measure => simp; omega
    · have hnx : ∀ ty, (Instr.next (.pointer (some ⟨w.heap.size, 0, none⟩)) true ty).run Try.prog (w.iter s pos) = _ := fun ty => run_next_end w s pos ty hp
      go_wp2
      go_ret
      exact ⟨ret_int' (by have := HK.out; rw [runes_end s pos hp] at this; simp only [List.length_nil] at this; omega), below_iter w s pos⟩

end Go.Proofs.Ytgopmhfehobooaa
