/-
  LabelLists's walk.
-/
import Derived.Test.YtkgnhimepcihpaaDoorLabI
import Derived.Test.YtkgnhimepcihpaaDoorLabS
namespace Go.Proofs.YtkgnhimepcihpaaDoor
open Go.RowKit
theorem ref_find_calls (va : Value) (L : List Lab) (n : ByteArray) (w : World) (hA : LRow w va L) :
    Calls Tryd.prog 31 #[va, .string n] w fun e w' => e = .returned (.tuple #[.string (foundV (findOf L n)), .bool (findOf L n).isSome]) ∧ Below w.heap.size w w' := by
  refine (ref_Find va L n w hA).mono fun e w' h => ⟨?_, h.2⟩
  have := h.1
  cases hf : findOf L n with
  | none => rw [hf] at this; exact this
  | some v => rw [hf] at this; exact this
set_option maxRecDepth 100000 in
set_option maxHeartbeats 4000000 in
theorem lists_walk (va vb : Value) (A B : List Lab) (n : ByteArray) (w : World) (hsh : w.ShapedOpen Tryd.prog) (hT : Tabs w) (hA : LRow w va A) (hB : LRow w vb B)
    (hs : ∀ x ∈ A, x.1.size ≤ 1000000000 ∧ x.2.size ≤ 1000000000) (hLn : A.length ≤ 1048576) (hw : (writeLab A).length ≤ 1099511627776) :
    Calls Tryd.prog 8 #[va, vb, .string n] w fun e w' => e = .returned (.bool true) ∧ Below w.heap.size w w' := by
  have cA := law08_awake w hsh hT
  have cN := Lib.hid (fun W (hW : Below w.heap.size w W) => canon_calls va A W (hA.below hW) (Utf8Tabs_below hT hW) hs hLn)
  have cR := Lib.hid (fun W (hW : Below w.heap.size w W) => ref_Canon va A W (hA.below hW) hs hLn)
  have cF := Lib.hid (fun W (hW : Below w.heap.size w W) => find_calls va A n W (hA.below hW))
  have cG := Lib.hid (fun W (hW : Below w.heap.size w W) => ref_find_calls va A n W (hA.below hW))
  have cC := Lib.hid (fun W (hW : Below w.heap.size w W) => label_Compare va vb A B W (hA.below hW) (hB.below hW))
  have cD := Lib.hid (fun W (hW : Below w.heap.size w W) => ref_Compare va vb A B W (hA.below hW) (hB.below hW))
  have cW := Lib.hid (fun W (hW : Below w.heap.size w W) => label_Write va A W (hA.below hW) hw)
  have cX := Lib.hid (fun W (hW : Below w.heap.size w W) => ref_Write va A W (hA.below hW) hw)
  unfold CanonV at cR
  generalize canonE A = E at *
  generalize canonL A = S at *
  generalize foundV (findOf A n) = FV at *
  generalize (findOf A n).isSome = FB at *
  generalize cmpLabs A B = C at *
  generalize (⟨(writeLab A).toArray⟩ : ByteArray) = T at *
  have k1 : (E == E) = true := by simp
  have k2 : (C == C) = true := by simp
  go_enter Tryd.func8, Tryd.ntmps8
  go_upto_region 3 with (go_at_call 27; refine cA.mono ?_; rintro e w1 ⟨rfl, hb1⟩)
  clear cA
  go_upto_region 4 with (go_at_call 28; refine (cN.out _ hb1).mono ?_; rintro e w2 ⟨⟨v2, rfl, ho2⟩, hb2⟩)
  have hb12 := below_seq hb1 hb2
  go_upto_region 5 with (go_at_call 29; refine (cR.out _ hb12).mono ?_; rintro e w3 ⟨⟨v3, rfl, ho3⟩, hb3⟩)
  have hb13 := below_seq hb12 hb3
  have r2 : LRow w3 v2 S := argRow_owns (owns_below ho2 hb3)
  have r3 : LRow w3 v3 S := argRow_owns ho3
  have cS := Lib.hid (fun W (hW : Below w3.heap.size w3 W) => same_self (r2.below hW) (r3.below hW))
  clear r2 r3 ho2 ho3
  go_upto_region 6 with (go_at_call 30; refine (cF.out _ hb13).mono ?_; rintro e w4 ⟨rfl, hb4⟩)
  have hb14 := below_seq hb13 hb4
  go_upto_region 7 with (go_at_call 31; refine (cG.out _ hb14).mono ?_; rintro e w5 ⟨rfl, hb5⟩)
  have hb15 := below_seq hb14 hb5
  have hb35 := below_seq hb4 hb5
  go_wp2_with (first
    | (go_at_call 32; refine (cS.out _ hb35).mono ?_; rintro e w6 ⟨rfl, hb6⟩; have hb16 := below_seq hb15 hb6)
    | (go_at_call 33; refine (cC.out _ hb16).mono ?_; rintro e w7 ⟨rfl, hb7⟩; have hb17 := below_seq hb16 hb7)
    | (go_at_call 34; refine (cD.out _ hb17).mono ?_; rintro e w8 ⟨rfl, hb8⟩; have hb18 := below_seq hb17 hb8)
    | (go_at_call 35; refine (cW.out _ hb18).mono ?_; rintro e w9 ⟨rfl, hb9⟩; have hb19 := below_seq hb18 hb9)
    | (go_at_call 36; refine (cX.out _ hb19).mono ?_; rintro e w10 ⟨rfl, hb10⟩; have hb20 := below_seq hb19 hb10))
  go_ret
  exact ⟨by first | rfl | simp, hb20⟩
end Go.Proofs.YtkgnhimepcihpaaDoor
