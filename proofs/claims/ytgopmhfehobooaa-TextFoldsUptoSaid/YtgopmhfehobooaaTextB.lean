/-
  The contracts of the reference's Has, of text.Has and of the law's cut.
-/
import Derived.Test.YtgopmhfehobooaaTextA
import Derived.Test.YtgopmhfehobooaaShelf
import Derived.Lib.IndexLaws
import Derived.Lib.IndexBytes
namespace Go.Proofs.Ytgopmhfehobooaa
open Go.RowKit

theorem occ_ext (s t : ByteArray) (k : Nat) : ((s.extract k (k + t.size)).toList == t.toList) = Lib.occAt s.data.toList t.data.toList k := by
  rw [Lib.extract_toList, ByteArray.toList_eq, Nat.add_sub_cancel_left, Lib.occAt, Bool.eq_iff_iff, beq_iff_eq, List.isPrefixOf_iff_prefix, List.prefix_iff_eq_take]
  have : t.data.toList.length = t.size := by simp [ByteArray.size_data]
  rw [this]
  exact ⟨fun h => h.symm, fun h => h.symm⟩

set_option maxRecDepth 100000 in
set_option maxHeartbeats 1000000 in
theorem ref_Has (s t : ByteArray) (w : World) (hs : s.size ≤ 1000000000) (ht : t.size ≤ 1000000000) :
    Calls Try.prog 26 #[.string s, .string t] w fun e w' => e = .returned (.bool (Lib.contains s.data.toList t.data.toList)) ∧ w = w' := by
  obtain ⟨C, hC⟩ : ∃ C, Lib.contains s.data.toList t.data.toList = C := ⟨_, rfl⟩
  rw [hC]
  have HC := Lib.hid hC
  clear hC
  have hsl : s.data.toList.length = s.size := by simp [ByteArray.size_data]
  have htl : t.data.toList.length = t.size := by simp [ByteArray.size_data]
  have HL := Lib.hid (And.intro hsl htl)
  clear hsl htl
  go_enter Try.func26, Try.ntmps26
  go_wp2
  go_loop [5] (fun i => ∃ k : Nat, k ≤ s.size + 1 ∧ i = .int .i64 k ∧ Lib.NoOcc s.data.toList t.data.toList k) (fun i => s.size + 1 - (intOf i).toNat)
  case atStart => exact ⟨0, by omega, rfl, Lib.NoOcc.zero _ _⟩
  case round =>
    obtain ⟨k, hk, rfl, hno⟩ := hrel
    have HN := Lib.hid hno
    clear hno
    by_cases hlt : k + t.size ≤ s.size
    · have i1 : (0 : Int) ≤ (k : Int) := by omega
      have i2 : (k : Int) + (t.size : Int) ≤ (s.size : Int) := by omega
      have i3 : (k : Int) ≤ (k : Int) + (t.size : Int) := by omega
      obtain ⟨o, ho⟩ : ∃ o, ((s.extract k (k + t.size)).toList == t.toList) = o := ⟨_, rfl⟩
      have HO := Lib.hid ho
      cases o
      · go_wp2
        go_round
        case rel => exact ⟨k + 1, by omega, by go_num, Lib.NoOcc.succ HN.out (by rw [← occ_ext]; exact HO.out)⟩
        case measure => simp [intOf]; omega
      · go_wp2
        go_ret
        refine ⟨ret_boolE ?_, rfl⟩
        rw [← HC.out]
        have h := Lib.index_hit HN.out (by rw [HL.out.1]; omega) (by rw [← occ_ext]; exact HO.out)
        unfold Lib.contains
        rw [h]
        simp
    · have i2 : (s.size : Int) < (k : Int) + (t.size : Int) := by omega
      go_wp2
      go_ret
      refine ⟨ret_boolE ?_, rfl⟩
      rw [← HC.out]
      have hne : t.data.toList ≠ [] := by
        intro e
        have h0 : t.size = 0 := by rw [← HL.out.2, e]; rfl
        have := HN.out 0 (by omega)
        rw [e] at this
        simp [Lib.occAt] at this
      have h := Lib.index_past hne HN.out (by rw [HL.out.1, HL.out.2]; omega)
      unfold Lib.contains
      rw [h]
      simp

set_option maxRecDepth 100000 in
set_option maxHeartbeats 1000000 in
theorem text_Has (s t : ByteArray) (w : World) (hsh : w.ShapedOpen Try.prog) (hs : s.size ≤ 1000000000) :
    Calls Try.prog 16 #[.string s, .string t] w fun e w' => e = .returned (.bool (Lib.contains s.data.toList t.data.toList)) ∧ w = w' := by
  have c := Try.strings_Contains_shaped s t w hsh (by omega)
  generalize Lib.contains s.data.toList t.data.toList = C at *
  go_enter Try.func16, Try.ntmps16
  go_wp2_with (go_at_call 27; refine c.mono ?_; rintro e w' ⟨rfl, rfl⟩)
  go_ret
  exact ⟨rfl, rfl⟩

end Go.Proofs.Ytgopmhfehobooaa
