/-
  The contracts of the law's cut and has.
-/
import Derived.Test.YtgopmhfehobooaaDoorTextB
namespace Go.Proofs.YtgopmhfehobooaaDoor
open Go.RowKit

theorem contains_occ {s sub : List UInt8} : ∀ i, i ≤ s.length → Lib.occAt s sub i = true → Lib.contains s sub = true := by
  intro i
  induction i using Nat.strongRecOn with
  | _ i ih =>
    intro hi ho
    by_cases h : Lib.NoOcc s sub i
    · unfold Lib.contains
      rw [Lib.index_hit h hi ho]
      simp
    · simp only [Lib.NoOcc, Classical.not_forall] at h
      obtain ⟨j, hj, hn⟩ := h
      exact ih j hj (by omega) (by simpa using hn)
theorem contains_part (s : List UInt8) (K M : Nat) (h : K + M ≤ s.length) : Lib.contains s ((s.drop K).take M) = true := by
  refine contains_occ K (by omega) ?_
  unfold Lib.occAt
  rw [List.isPrefixOf_iff_prefix]
  exact List.take_prefix _ _

set_option maxRecDepth 100000 in
set_option maxHeartbeats 1000000 in
theorem law_cut (s : ByteArray) (at' n : Int) (w : World) (hs : s.size ≤ 1000000000) :
    Calls Tryd.prog 5 #[.string s, .int .i64 at', .int .i64 n] w fun e w' => ∃ p : ByteArray, e = .returned (.string p) ∧ p.size ≤ s.size ∧ (∃ K M, K + M ≤ s.size ∧ p.data.toList = (s.data.toList.drop K).take M) ∧ w = w' := by
  obtain ⟨K, hK, hk⟩ := umod at' s.size
  obtain ⟨M, hM, hm⟩ := umod n (s.size - K)
  have hm' : (IntKind.u64.wrap n).tmod ((s.size : Int) - (K : Int) + 1) = (M : Int) := by
    have e : ((s.size - K : Nat) : Int) = (s.size : Int) - (K : Int) := by omega
    rw [← e]; exact hm
  clear hm
  have i1 : (K : Int) ≤ (s.size : Int) := by omega
  have i2 : (K : Int) + (M : Int) ≤ (s.size : Int) := by omega
  have i3 : (K : Int) ≤ (K : Int) + (M : Int) := by omega
  go_enter Tryd.func5, Tryd.ntmps5
  go_wp2
  go_ret
  refine ⟨_, rfl, by rw [ByteArray.size_extract]; omega, ⟨K, M, by omega, ?_⟩, rfl⟩
  rw [ByteArray.data_extract, Array.toList_extract, List.extract_eq_take_drop]
  congr 1
  omega

end Go.Proofs.YtgopmhfehobooaaDoor
