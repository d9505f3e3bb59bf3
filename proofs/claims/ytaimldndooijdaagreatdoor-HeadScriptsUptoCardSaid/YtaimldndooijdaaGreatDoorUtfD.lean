/-
  The contract of the reference's Bytes.
-/
import Derived.Test.YtaimldndooijdaaGreatDoorUtfQ
import Derived.Lib.RuneBytes
import Derived.Lib.Hide
import Derived.Test.YtaimldndooijdaaGreatDoorKit
namespace Go.Proofs.YtaimldndooijdaaGreatDoor
open Go.RowKit

set_option maxRecDepth 100000 in
set_option maxHeartbeats 1000000 in
theorem ref_Bytes (r : Int) (h0 : 0 ≤ r) (hr : r < 55296 ∨ 57344 ≤ r) (hm : r ≤ 1114111) (w : World) :
    Calls Tryz.prog 95 #[.int .i32 r] w fun e w' => ∃ v, e = .returned v ∧ w'.ownsRow w.heap.size 5 1 v (Lib.runeCells r).length (Lib.runeCells r) ∧ Below w.heap.size w w' := by
  by_cases h1 : r < 128
  · go_enter Tryz.func95, Tryz.ntmps95
    go_wp2
    go_ret
    have e : Lib.runeCells r = (#[.int .u8 r] : Array Value).toList := by simp [Lib.runeCells, Lib.encodeRuneZ_one (r := r) (by omega) (by omega)]
    refine ⟨_, rfl, ?_, (Below.refl _ _).alloc (Nat.le_refl _) _⟩
    rw [e]
    exact owns_new _ _ _ _ rfl (by decide)
  by_cases h2 : r < 2048
  · go_enter Tryz.func95, Tryz.ntmps95
    go_wp2
    go_ret
    have e : Lib.runeCells r = (#[.int .u8 (192 + r / 64), .int .u8 (128 + r % 64)] : Array Value).toList := by simp [Lib.runeCells, Lib.encodeRuneZ_two (r := r) (by omega) (by omega)]
    refine ⟨_, rfl, ?_, (Below.refl _ _).alloc (Nat.le_refl _) _⟩
    rw [e]
    exact owns_new _ _ _ _ rfl (by decide)
  by_cases h3 : r < 65536
  · go_enter Tryz.func95, Tryz.ntmps95
    go_wp2
    go_ret
    have e : Lib.runeCells r = (#[.int .u8 (224 + r / 4096), .int .u8 (128 + r / 64 % 64), .int .u8 (128 + r % 64)] : Array Value).toList := by simp [Lib.runeCells, Lib.encodeRuneZ_three (r := r) (by omega)]
    refine ⟨_, rfl, ?_, (Below.refl _ _).alloc (Nat.le_refl _) _⟩
    rw [e]
    exact owns_new _ _ _ _ rfl (by decide)
  · go_enter Tryz.func95, Tryz.ntmps95
    go_wp2
    go_ret
    have e : Lib.runeCells r = (#[.int .u8 (240 + r / 262144), .int .u8 (128 + r / 4096 % 64), .int .u8 (128 + r / 64 % 64), .int .u8 (128 + r % 64)] : Array Value).toList := by simp [Lib.runeCells, Lib.encodeRuneZ_four (r := r) (by omega) (by omega)]
    refine ⟨_, rfl, ?_, (Below.refl _ _).alloc (Nat.le_refl _) _⟩
    rw [e]
    exact owns_new _ _ _ _ rfl (by decide)

end Go.Proofs.YtaimldndooijdaaGreatDoor
