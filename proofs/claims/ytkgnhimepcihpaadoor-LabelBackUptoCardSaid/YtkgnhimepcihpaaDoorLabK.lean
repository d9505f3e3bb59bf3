/-
  law08's awake.
-/
import Derived.Test.YtkgnhimepcihpaaDoorLabR
namespace Go.Proofs.YtkgnhimepcihpaaDoor
open Go.RowKit

def labS (n v : List UInt8) : Lab := (⟨n.toArray⟩, ⟨v.toArray⟩)
def two08 : List Lab := [labS [98] [50], labS [97] [49]]
def can08 : List Lab := [labS [97] [49], labS [98] [50]]
def txt08 : List UInt8 := [123, 97, 61, 34, 49, 34, 44, 98, 61, 34, 50, 34, 125]
def bad08 : List UInt8 := [123, 97, 61, 34, 49, 34, 44, 32, 98, 61, 34, 50, 34, 125]
theorem aw_canE : canonE two08 = 0 := by decide +kernel
theorem aw_canL : canonL two08 = can08 := by decide +kernel
theorem aw_readE : readE txt08 = 0 := by decide +kernel
theorem aw_readL : readL txt08 = can08 := by decide +kernel
theorem aw_bad : readE bad08 = 6 := by decide +kernel
theorem aw_write : writeLab can08 = txt08 := by decide +kernel
theorem aw_text : (⟨txt08.toArray⟩ : ByteArray) = ⟨#[123, 97, 61, 34, 49, 34, 44, 98, 61, 34, 50, 34, 125]⟩ := rfl
theorem aw_cmp : cmpLabs can08 two08 = -1 := by decide +kernel
theorem aw_find : findOf two08 ⟨#[97]⟩ = some ⟨#[49]⟩ := by decide +kernel
set_option maxRecDepth 100000 in
set_option maxHeartbeats 4000000 in
theorem law08_awake (w : World) (hsh : w.ShapedOpen Tryd.prog) (hT : Tabs w) : Calls Tryd.prog 27 #[] w fun e w' => e = .returned (.bool true) ∧ Below w.heap.size w w' := by
  have hmem : ∀ x ∈ two08, x.1.size ≤ 1000000000 ∧ x.2.size ≤ 1000000000 := by decide
  have hrow : LRow (w.alloc (.cells #[.string ⟨#[98]⟩, .string ⟨#[50]⟩, .string ⟨#[97]⟩, .string ⟨#[49]⟩] 47)) (.slice (some ⟨w.heap.size, 0, none⟩) 2 2) two08 := argRow_owns (World.ownsRow_lit w #[.string ⟨#[98]⟩, .string ⟨#[50]⟩, .string ⟨#[97]⟩, .string ⟨#[49]⟩] 2 (Nat.le_refl _) (by decide) rfl)
  have hb1 : Below w.heap.size w (w.alloc (.cells #[.string ⟨#[98]⟩, .string ⟨#[50]⟩, .string ⟨#[97]⟩, .string ⟨#[49]⟩] 47)) := belowA (Below.refl _ _)
  go_enter Tryd.func27, Tryd.ntmps27
  go_upto_region 2 with fail
  generalize w.alloc (.cells #[.string ⟨#[98]⟩, .string ⟨#[50]⟩, .string ⟨#[97]⟩, .string ⟨#[49]⟩] 47) = w1 at *
  have cN := (label_Canon _ two08 w1 hrow (Utf8Tabs_below hT hb1) hmem (by decide)).mono (fun e w' h => ⟨canon_end h.1, h.2⟩ : ∀ e w', _ → (∃ v, e = .returned (.tuple #[v, .int .i64 (canonE two08)]) ∧ w'.ownsRow w1.heap.size 47 2 v (canonL two08).length (labCells (canonL two08))) ∧ Below w1.heap.size w1 w')
  rw [aw_canE, aw_canL] at cN
  go_upto_region 3 with (go_at_call 28; refine cN.mono ?_; rintro e w2 ⟨⟨v2, rfl, ho2⟩, hb2⟩)
  have hb12 := below_seq hb1 hb2
  have cR1 := label_Read ⟨txt08.toArray⟩ w2 (shaped_below hsh hb12) (Utf8Tabs_below hT hb12) (by decide)
  rw [show (⟨txt08.toArray⟩ : ByteArray).data.toList = txt08 from rfl, aw_readE, aw_readL] at cR1
  go_upto_region 4 with (go_at_call 37; refine cR1.mono ?_; rintro e w3 ⟨⟨v3, rfl, ho3⟩, hb3⟩)
  have hb13 := below_seq hb12 hb3
  have cR2 := label_Read ⟨bad08.toArray⟩ w3 (shaped_below hsh hb13) (Utf8Tabs_below hT hb13) (by decide)
  rw [show (⟨bad08.toArray⟩ : ByteArray).data.toList = bad08 from rfl, aw_bad] at cR2
  go_upto_region 5 with (go_at_call 37; refine cR2.mono ?_; rintro e w4 ⟨⟨v4, rfl, _⟩, hb4⟩)
  have hb14 := below_seq hb13 hb4
  have hrow4 := hrow.below (below_seq hb2 (below_seq hb3 hb4))
  have cF := label_Find _ two08 ⟨#[97]⟩ w4 hrow4
  rw [aw_find] at cF
  go_upto_region 6 with (go_at_call 30; refine cF.mono ?_; rintro e w5 ⟨rfl, hb5⟩)
  have hb15 := below_seq hb14 hb5
  have hb25 := below_seq hb3 (below_seq hb4 hb5)
  have l2 : LRow w5 v2 can08 := argRow_owns (owns_below ho2 hb25)
  have l3 : LRow w5 v3 can08 := argRow_owns (owns_below ho3 (below_seq hb4 hb5))
  have l1 : LRow w5 (.slice (some ⟨w.heap.size, 0, none⟩) 2 2) two08 := hrow4.below hb5
  obtain ⟨a2, c2, hv, _, _⟩ := l2.shape
  have hv' : v2 = .slice a2 2 c2 := hv
  clear hv
  subst hv'
  obtain ⟨b2, o2, rfl, _, g1, _⟩ := l2.at (k := 0) (by decide)
  have cS := fun W hW => ref_Same _ _ can08 can08 W (l2.below hW) (l3.below hW)
  have cW := fun W hW => label_Write _ can08 W (l2.below hW) (by decide)
  have cK := fun W hW => label_Compare _ _ can08 two08 W (l2.below hW) (l1.below hW)
  rw [decide_eq_true rfl] at cS
  rw [aw_write, aw_text] at cW
  rw [aw_cmp] at cK
  have g0 : w5.cell? ⟨b2, o2, none⟩ = some (.string ⟨#[97]⟩) := g1
  have hbx := Below.refl w5.heap.size w5
  have CS := Lib.hid cS
  have CW := Lib.hid cW
  have CK := Lib.hid cK
  clear cN cR1 cR2 cF cS cW cK g1 l1 l2 l3 hrow hrow4 ho2 ho3 hmem
  go_wp2_with (first | (go_at_call 32; refine (CS.out _ hbx).mono ?_; rintro e w6 ⟨rfl, hb6⟩) | (go_at_call 35; refine (CW.out _ hb6).mono ?_; rintro e w7 ⟨rfl, hb7⟩; have hb67 := below_seq hb6 hb7) | (go_at_call 33; refine (CK.out _ hb67).mono ?_; rintro e w8 ⟨rfl, hb8⟩))
  go_ret
  exact ⟨by first | rfl | simp, below_seq hb15 (below_seq hb67 hb8)⟩
end Go.Proofs.YtkgnhimepcihpaaDoor
