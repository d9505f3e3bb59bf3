/-
  The contracts of the reference's Has, of text.Has and of the law's cut.
-/
import Derived.Test.YtgopmhfehobooaaDoorTextA
import Derived.Test.YtgopmhfehobooaaDoorShelf
import Derived.Lib.IndexLaws
import Derived.Lib.IndexBytes
namespace Go.Proofs.YtgopmhfehobooaaDoor
open Go.RowKit

theorem occ_ext (s t : ByteArray) (k : Nat) : ((s.extract k (k + t.size)).toList == t.toList) = Lib.occAt s.data.toList t.data.toList k := by
  rw [Lib.extract_toList, ByteArray.toList_eq, Nat.add_sub_cancel_left, Lib.occAt, Bool.eq_iff_iff, beq_iff_eq, List.isPrefixOf_iff_prefix, List.prefix_iff_eq_take]
  have : t.data.toList.length = t.size := by simp [ByteArray.size_data]
  rw [this]
  exact ⟨fun h => h.symm, fun h => h.symm⟩

set_option maxRecDepth 100000 in
set_option maxHeartbeats 1000000 in
theorem text_Has (s t : ByteArray) (w : World) (hsh : w.ShapedOpen Tryd.prog) (hs : s.size ≤ 1000000000) :
    Calls Tryd.prog 12 #[.string s, .string t] w fun e w' => e = .returned (.bool (Lib.contains s.data.toList t.data.toList)) ∧ w = w' := by
  have c := Tryd.strings_Contains_shaped s t w hsh (by omega)
  generalize Lib.contains s.data.toList t.data.toList = C at *
  go_enter Tryd.func12, Tryd.ntmps12
  go_wp2_with (go_at_call 17; refine c.mono ?_; rintro e w' ⟨rfl, rfl⟩)
  go_ret
  exact ⟨rfl, rfl⟩

end Go.Proofs.YtgopmhfehobooaaDoor
