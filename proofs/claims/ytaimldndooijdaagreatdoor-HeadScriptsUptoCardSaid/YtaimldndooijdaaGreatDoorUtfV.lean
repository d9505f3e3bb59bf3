/-
  The contract of utf.Valid.
-/
import Derived.Test.YtaimldndooijdaaGreatDoorKit
import Derived.Test.YtaimldndooijdaaGreatDoorShelf
namespace Go.Proofs.YtaimldndooijdaaGreatDoor
open Go.RowKit

def Tabs (w : World) : Prop := Lib.Utf8Tabs (Tryz.laysValid_ren.g 3) (Tryz.laysValid_ren.g 4) w

set_option maxRecDepth 100000 in
set_option maxHeartbeats 1000000 in
theorem utf_Valid (s : ByteArray) (w : World) (hs : s.size ≤ maxLen) (hT : Tabs w) :
    Calls Tryz.prog 38 #[.string s] w fun e w' => e = .returned (.bool (Lib.validD s.data.toList)) ∧ Below w.heap.size w w' := by
  have cV : Calls Tryz.prog 57 #[.string s] w _ := Any.utf8_ValidString Tryz.laysValid s w (by unfold maxLen at hs; omega) hT
  generalize Lib.validD s.data.toList = V at cV ⊢
  go_enter Tryz.func38, Tryz.ntmps38
  go_wp2_with (go_at_call 57; refine cV.mono ?_; rintro e w' ⟨rfl, hb⟩)
  go_ret
  exact ⟨rfl, hb⟩

end Go.Proofs.YtaimldndooijdaaGreatDoor
