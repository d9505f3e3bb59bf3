/-
  awake, of layer 22.
-/
import Derived.Test.YtljnbbdhmlfhjaaDoorJsLa
namespace Go.Proofs.YtljnbbdhmlfhjaaDoor
open Go.RowKit
set_option maxRecDepth 100000 in
set_option maxHeartbeats 10000000 in
theorem wv_other (B q : Nat) (out : Bs) (bad : Bool) (w : World) (hw : WSt B q out bad w) (hT : TabB B w) :
    Calls Tryd.prog 25 #[.pointer (some ⟨q, 0, none⟩), .iface 3 (.int .i64 5), .int .i64 0] w fun e w' => e = .returned (.tuple #[]) ∧ WSt B q out true w' ∧ Went B q w w' := by
  have H0 := Lib.hid (w1_new (d := 0) hw hT)
  have a1 : ∀ W, (Instr.typeAssert (.iface 3 (.int .i64 5)) 20 4 true).run Tryd.prog W = .ok (.tuple #[.bool false, .bool false]) W := fun W => by kernel_rfl
  have a2 : ∀ W, (Instr.typeAssert (.iface 3 (.int .i64 5)) 20 30 true).run Tryd.prog W = .ok (.tuple #[.string ⟨#[]⟩, .bool false]) W := fun W => by kernel_rfl
  have a3 : ∀ W, (Instr.typeAssert (.iface 3 (.int .i64 5)) 20 9 true).run Tryd.prog W = .ok (.tuple #[.string ⟨#[]⟩, .bool false]) W := fun W => by kernel_rfl
  have a4 : ∀ W, (Instr.typeAssert (.iface 3 (.int .i64 5)) 20 35 true).run Tryd.prog W = .ok (.tuple #[.slice none 0 0, .bool false]) W := fun W => by kernel_rfl
  have a5 : ∀ W, (Instr.typeAssert (.iface 3 (.int .i64 5)) 20 34 true).run Tryd.prog W = .ok (.tuple #[.slice none 0 0, .bool false]) W := fun W => by kernel_rfl
  clear hw hT
  go_enter Tryd.func25, Tryd.ntmps25
  go_upto_region 3 with fail
  have e0 : ((0 : Nat) : Int) = 0 := rfl
  rw [e0] at H0
  generalize ((w.alloc (.cells #[.pointer (some ⟨q, 0, none⟩)] 70)).alloc (.cells #[.int .i64 0] 3)) = W at *
  obtain ⟨⟨c0, c1⟩, f0, f1⟩ := H0.out.bx.cells
  obtain ⟨c2, f2⟩ := H0.out.st.flag
  clear e0
  go_wp2
  go_end0
  have h := H0.out.st.setBad true
  exact ⟨rfl, h.1, H0.out.wt.trans h.2⟩
set_option maxRecDepth 100000 in
set_option maxHeartbeats 10000000 in
theorem js_Write_five (w : World) (hT : Tabs w) : Calls Tryd.prog 12 #[.iface 3 (.int .i64 5)] w fun e w' => e = .returned (.tuple #[.slice none 0 0, .int .i64 1]) ∧ Below w.heap.size w w' := by
  have hb1 := belowAJ (o := .cells #[.pointer none, .slice none 0 0, .bool false] 75) (Below.refl w.heap.size w) (Nat.le_refl _)
  have CV := wv_other w.heap.size w.heap.size [] false _ (wst_new w) ⟨w, hT, rfl, hb1⟩
  have HB1 := Lib.hid hb1
  clear hT hb1
  go_enter Tryd.func12, Tryd.ntmps12
  go_upto_region 3 with (go_at_call 25; refine CV.mono ?_; rintro e w2 ⟨rfl, h1, h2⟩; have H2 := Lib.hid (And.intro h1 h2); clear h1 h2)
  obtain ⟨c2, f2⟩ := H2.out.1.flag
  go_wp2
  go_ret2
  exact ⟨rfl, HB1.out.trans H2.out.2.1⟩
def awS : ByteArray := ⟨#[32, 123, 32, 34, 97, 34, 32, 58, 32, 91, 49, 44, 32, 45, 48, 46, 53, 101, 51, 44, 32, 34, 120, 92, 117, 48, 48, 52, 49, 92, 110, 34, 93, 32, 125, 32]⟩
def awT : ByteArray := ⟨#[123, 34, 97, 34, 58, 91, 49, 44, 45, 48, 46, 53, 101, 51, 44, 34, 120, 65, 92, 110, 34, 93, 125]⟩
set_option maxRecDepth 100000 in
set_option maxHeartbeats 10000000 in
theorem law22_awake (w : World) (hT : Tabs w) : Calls Tryd.prog 8 #[] w fun e w' => e = .returned (.bool true) ∧ Below w.heap.size w w' := by
  have CA := law_form awS w hT (by decide)
  rw [show awS.data.toList = [32, 123, 32, 34, 97, 34, 32, 58, 32, 91, 49, 44, 32, 45, 48, 46, 53, 101, 51, 44, 32, 34, 120, 92, 117, 48, 48, 52, 49, 92, 110, 34, 93, 32, 125, 32] from rfl, aw_one.2.1, aw_one.1] at CA
  have CB := Lib.hid (fun (W : World) (hb : Below w.heap.size w W) => law_form ⟨#[48, 49]⟩ W (Utf8Tabs_below hT hb) (by decide))
  rw [show (⟨#[48, 49]⟩ : ByteArray).data.toList = [48, 49] from rfl, aw_one.2.2] at CB
  have CC := Lib.hid (fun (W : World) (hb : Below w.heap.size w W) => js_Write_five W (Utf8Tabs_below hT hb))
  unfold awS at CA
  clear hT
  go_enter Tryd.func8, Tryd.ntmps8
  go_upto_region 2 with (go_at_call 9; refine CA.mono ?_; rintro e w2 ⟨rfl, hb2⟩)
  have CB2 := CB.out w2 hb2
  go_upto_region 3 with (go_at_call 9; refine CB2.mono ?_; rintro e w3 ⟨rfl, hb3⟩)
  have hb03 := hb2.trans (hb3.mono hb2.size)
  have CC2 := CC.out w3 hb03
  have HB := Lib.hid hb03
  clear CA CB CB2 CC hb2 hb3 hb03
  go_wp2_with (go_at_call 12; refine CC2.mono ?_; rintro e w4 ⟨rfl, hb4⟩)
  go_ret
  exact ⟨rfl, HB.out.trans (hb4.mono HB.out.size)⟩
end Go.Proofs.YtljnbbdhmlfhjaaDoor
