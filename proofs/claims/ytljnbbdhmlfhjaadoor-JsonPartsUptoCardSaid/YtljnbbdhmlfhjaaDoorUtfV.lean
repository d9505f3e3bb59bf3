/-
  The contract of utf.Valid.
-/
import Derived.Test.YtljnbbdhmlfhjaaDoorKit
import Derived.Test.YtljnbbdhmlfhjaaDoorShelf
namespace Go.Proofs.YtljnbbdhmlfhjaaDoor
open Go.RowKit

def Tabs (w : World) : Prop := Lib.Utf8Tabs (Tryd.laysValid_ren.g 3) (Tryd.laysValid_ren.g 4) w

set_option maxRecDepth 100000 in
set_option maxHeartbeats 1000000 in
theorem utf_Valid (s : ByteArray) (w : World) (hs : s.size ≤ maxLen) (hT : Tabs w) :
    Calls Tryd.prog 13 #[.string s] w fun e w' => e = .returned (.bool (Lib.validD s.data.toList)) ∧ Below w.heap.size w w' := by
  have cV : Calls Tryd.prog 27 #[.string s] w _ := Any.utf8_ValidString Tryd.laysValid s w (by unfold maxLen at hs; omega) hT
  generalize Lib.validD s.data.toList = V at cV ⊢
  go_enter Tryd.func13, Tryd.ntmps13
  go_wp2_with (go_at_call 27; refine cV.mono ?_; rintro e w' ⟨rfl, hb⟩)
  go_ret
  exact ⟨rfl, hb⟩

end Go.Proofs.YtljnbbdhmlfhjaaDoor
