/-
  json.Parse: the deferred call that catches a fault; a text that is too long, or not valid.
-/
import Derived.Test.YtljnbbdhmlfhjaaDoorJsJ
import Derived.Test.YtljnbbdhmlfhjaaDoorUtfV
import Derived.Laws.IdiomStrings
namespace Go.Proofs.YtljnbbdhmlfhjaaDoor
open Go.RowKit
theorem assert_noneJ (w : World) : (Instr.typeAssert .nilIface 20 66 true).run Tryd.prog w = .ok (.tuple #[.agg #[], .bool false]) w := by kernel_rfl
theorem assert_faultJ (w : World) : (Instr.typeAssert (.iface 66 (.agg #[])) 20 66 true).run Tryd.prog w = .ok (.tuple #[.agg #[], .bool true]) w := by kernel_rfl
set_option maxRecDepth 100000 in
set_option maxHeartbeats 4000000 in
/-- Nothing to catch. -/
theorem catch_idleJ (p q : Addr) (w : World) :
    CallsD Tryd.prog 22 #[.pointer (some p), .pointer (some q)] .returning w fun e u' w' => e = .returned (.tuple #[]) ∧ u' = .returning ∧ Below w.heap.size w w' := by
  refine callsD_of_wpS Tryd.func22 rfl fun c₀ cs hu => ?_
  apply wpS_seq
  apply wpS_region
  simp [wpOpsS, go_sem, recoverD, hu, Tryd.ntmps22, Exit.thenS, assert_noneJ]
  refine wpS_of_wp ?_
  change Code.wp _ _ _ { tmps := #[.pointer (some p), .pointer (some q), .pointer (some ⟨w.heap.size, 0, none⟩), .bool false, .tuple #[.agg #[], .bool false], .nilIface, .tuple #[.agg #[], .bool false], .agg #[], .bool false, undef], defers := [] } _
  go_wp2
  cases c₀
  simp_all [bodyPostS, results, Tryd.results22]
  exact belowAJ (Below.refl _ _) (Nat.le_refl _)
set_option maxRecDepth 100000 in
set_option maxHeartbeats 4000000 in
/-- A fault is caught. -/
theorem catch_faultJ (b : Nat) (w : World) (older : List PanicEntry) (x y : Value) (hb : b + 1 < w.heap.size) (hp : w.cell? ⟨b, 0, none⟩ = some x) (hq : w.cell? ⟨b + 1, 0, none⟩ = some y) (hfp : w.frozen? ⟨b, 0, none⟩ = false) (hfq : w.frozen? ⟨b + 1, 0, none⟩ = false) :
    CallsD Tryd.prog 22 #[.pointer (some ⟨b, 0, none⟩), .pointer (some ⟨b + 1, 0, none⟩)] (.panicking ({ v := faultV, recovered := false } :: older)) w fun e u' w' => e = .returned (.tuple #[]) ∧ u' = .panicking ({ v := faultV, recovered := true } :: older) ∧
      w'.cell? ⟨b, 0, none⟩ = some .nilIface ∧ w'.cell? ⟨b + 1, 0, none⟩ = some (.int .i64 6) ∧ Below b w w' := by
  refine callsD_of_wpS Tryd.func22 rfl fun c₀ cs hu => ?_
  apply wpS_seq
  apply wpS_region
  simp [wpOpsS, go_sem, recoverD, hu, Tryd.ntmps22, Exit.thenS, faultV, assert_faultJ]
  refine wpS_of_wp ?_
  change Code.wp _ _ _ { tmps := #[.pointer (some ⟨b, 0, none⟩), .pointer (some ⟨b + 1, 0, none⟩), .pointer (some ⟨w.heap.size, 0, none⟩), .bool true, .tuple #[.agg #[], .bool true], .iface 66 (.agg #[]), .tuple #[.agg #[], .bool true], .agg #[], .bool true, undef], defers := [] } _
  have hbx := belowAJ (o := .cells #[] 66) (Below.refl w.heap.size w) (Nat.le_refl _)
  have h1 := (hbx.cell (p := ⟨b, 0, none⟩) (by show b < w.heap.size; omega)).trans hp
  have h2 := (hbx.cell (p := ⟨b + 1, 0, none⟩) hb).trans hq
  have h3 := (hbx.frozen (p := ⟨b, 0, none⟩) (by show b < w.heap.size; omega)).trans hfp
  have h4 := (hbx.frozen (p := ⟨b + 1, 0, none⟩) hb).trans hfq
  have hne1 : ¬ b = w.heap.size := by omega
  have hne2 : ¬ b + 1 = w.heap.size := by omega
  go_wp2_with fail
  refine ⟨rfl, _, rfl, .tuple #[], by simp [results, Tryd.results22], rfl, rfl, ?_, ?_, ?_⟩
  · simp [go_sem, h1]
  · simp [go_sem, h2]
  · exact (((hbx.mono (show b ≤ w.heap.size by omega)).setCell (p := ⟨b, 0, none⟩) (Nat.le_refl _) _).setCell (p := ⟨b + 1, 0, none⟩) (Nat.le_succ _) _)
end Go.Proofs.YtljnbbdhmlfhjaaDoor
