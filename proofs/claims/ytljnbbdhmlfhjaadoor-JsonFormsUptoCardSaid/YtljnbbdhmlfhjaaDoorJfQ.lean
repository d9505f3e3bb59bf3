/-
  The law JsonForms: its walk.
-/
import Derived.Test.YtljnbbdhmlfhjaaDoorJsLc
import Derived.Test.YtljnbbdhmlfhjaaDoorJfTri
namespace Go.Proofs.YtljnbbdhmlfhjaaDoor
open Go.RowKit
set_option maxRecDepth 100000 in
set_option maxHeartbeats 20000000 in
theorem forms_walk22 (v : Value) (b : Bs) (w : World) (hT : Tabs w) (hb : argRow w v b.length 1 (Lib.byteCells b)) (hl : b.length ≤ 35184372088832) :
    Calls Tryd.prog 3 #[v] w fun e w' => e = .returned (.bool true) ∧ Below w.heap.size w w' := by
  have CA := law22_awake w hT
  have hcv := Lib.hid (fun W (hW : Below w.heap.size w W) => conv_arg (w := W) (v := v) (b := b) (argRow_below hb hW))
  have C1 := Lib.hid (fun W (hW : Below w.heap.size w W) => law_formL ⟨b.toArray⟩ b (by simp) W (Utf8Tabs_below hT hW) (by omega))
  have C2 := Lib.hid (fun W (hW : Below w.heap.size w W) => ref_Form v b W (argRow_below hb hW))
  obtain ⟨A, hA⟩ : ∃ A : ByteArray, (⟨(oneF b).toArray⟩ : ByteArray) = A := ⟨_, rfl⟩
  obtain ⟨E, hE⟩ : ∃ E, parseE b = E := ⟨_, rfl⟩
  rw [hA, hE] at C1 C2
  obtain ⟨-, a, cap, rfl, -⟩ := hb
  have hq : (A.toList == A.toList) = true := by rw [beq_iff_eq]
  have hq2 : (A.data.toList == A.data.toList) = true := by rw [beq_iff_eq]
  have hq3 : (E == E) = true := by rw [beq_iff_eq]
  clear hT hA hE
  obtain ⟨n, hn⟩ : ∃ n, b.length = n := ⟨_, rfl⟩
  rw [hn] at hcv C2 ⊢
  clear hn hl
  go_enter Tryd.func3, Tryd.ntmps3
  go_upto_region 3 with (go_at_call 8; refine CA.mono ?_; rintro e w1 ⟨rfl, hb1⟩)
  have hcv1 := hcv.out w1 hb1
  have D1 := C1.out w1 hb1
  have HB1 := Lib.hid hb1
  clear hcv C1 CA hb1
  go_wp2_with (first | (go_at_call 9; refine D1.mono ?_; rintro e w2 ⟨rfl, hb2⟩; have hw2 := HB1.out.trans (hb2.mono HB1.out.size); have D2 := C2.out w2 hw2; have HB2 := Lib.hid hw2; clear hb2 hw2) | (go_at_call 10; refine D2.mono ?_; rintro e w3 ⟨rfl, hb3⟩))
  go_ret
  exact ⟨rfl, HB2.out.trans (hb3.mono HB2.out.size)⟩
end Go.Proofs.YtljnbbdhmlfhjaaDoor
