/-
  The walks of the laws: awake, UtfTexts, UtfRunes, UtfFolds.
-/
import Derived.Test.YtfekdadkbclkfaaDoorUtfF
namespace Go.Proofs.YtfekdadkbclkfaaDoor
open Go.RowKit

theorem tabs_below {w w' : World} (h : Tabs w) (hb : Below w.heap.size w w') : Tabs w' := Utf8Tabs_below h hb

/-- A step's contract, at whatever world that comes later. -/
theorem val_e (w : World) (hT : Tabs w) : Calls Tryd.prog 10 #[.string ⟨#[195, 169]⟩] w fun e w' => e = .returned (.bool true) ∧ Below w.heap.size w w' := by
  have h := utf_Valid ⟨#[195, 169]⟩ w (by decide) hT
  rw [show Lib.validD (⟨#[195, 169]⟩ : ByteArray).data.toList = true by decide +kernel] at h
  exact h
theorem val_ff (w : World) (hT : Tabs w) : Calls Tryd.prog 10 #[.string ⟨#[255]⟩] w fun e w' => e = .returned (.bool false) ∧ Below w.heap.size w w' := by
  have h := utf_Valid ⟨#[255]⟩ w (by decide) hT
  rw [show Lib.validD (⟨#[255]⟩ : ByteArray).data.toList = false by decide +kernel] at h
  exact h
theorem cnt_3 (w : World) : Calls Tryd.prog 11 #[.string ⟨#[97, 195, 169, 255]⟩] w fun e w' => e = .returned (.int .i64 3) ∧ Below w.heap.size w w' := by
  have h := utf_Count ⟨#[97, 195, 169, 255]⟩ w (by decide)
  rw [show (runes (⟨#[97, 195, 169, 255]⟩ : ByteArray).data.toList).length = 3 by decide +kernel] at h
  exact h
theorem word_u (w : World) : Calls Tryd.prog 14 #[.int .i32 95] w fun e w' => e = .returned (.bool true) ∧ w = w' := by
  have h := utf_Word 95 w (by omega) (by omega)
  rw [show wordB 95 = true by decide] at h
  exact h
theorem word_d (w : World) : Calls Tryd.prog 14 #[.int .i32 45] w fun e w' => e = .returned (.bool false) ∧ w = w' := by
  have h := utf_Word 45 w (by omega) (by omega)
  rw [show wordB 45 = false by decide] at h
  exact h
theorem small_A (w : World) : Calls Tryd.prog 16 #[.int .i32 65] w fun e w' => e = .returned (.int .i32 97) ∧ w = w' := utf_Small 65 w (by omega) (by omega)
theorem fold_ABC (w : World) : Calls Tryd.prog 12 #[.string ⟨#[65, 66, 67]⟩] w fun e w' => e = .returned (.string ⟨#[97, 98, 99]⟩) ∧ Below w.heap.size w w' := by
  have e : fold (⟨#[65, 66, 67]⟩ : ByteArray).data.toList = [97, 98, 99] := by decide +kernel
  have h := utf_Fold ⟨#[65, 66, 67]⟩ w (by decide) (by rw [e]; decide)
  rw [e] at h
  exact h

set_option maxRecDepth 100000 in
set_option maxHeartbeats 2000000 in
theorem awake_true (w : World) (hT : Tabs w) :
    Calls Tryd.prog 8 #[] w fun e w' => e = .returned (.bool true) ∧ Below w.heap.size w w' := by
  go_enter Tryd.func8, Tryd.ntmps8
  go_wp2_with fail
  refine (val_e _ hT).mono ?_
  rintro e w1 ⟨rfl, hb1⟩
  have hT1 := tabs_below hT hb1
  go_wp2_with fail
  refine (val_ff _ hT1).mono ?_
  rintro e w2 ⟨rfl, hb2⟩
  go_wp2_with fail
  refine (cnt_3 _).mono ?_
  rintro e w3 ⟨rfl, hb3⟩
  go_wp2_with fail
  refine (word_u _).mono ?_
  rintro e w4 ⟨rfl, rfl⟩
  go_wp2_with fail
  refine (word_d _).mono ?_
  rintro e w4 ⟨rfl, rfl⟩
  go_wp2_with fail
  refine (small_A _).mono ?_
  rintro e w4 ⟨rfl, rfl⟩
  go_wp2_with fail
  refine (fold_ABC _).mono ?_
  rintro e w4 ⟨rfl, hb4⟩
  go_wp2_with fail
  go_ret
  have s1 := hb1.size
  have s2 := hb2.size
  have s3 := hb3.size
  exact ⟨rfl, hb1.trans ((hb2.mono s1).trans ((hb3.mono (by omega)).trans (hb4.mono (by omega))))⟩

set_option maxRecDepth 100000 in
set_option maxHeartbeats 2000000 in
theorem texts_walk (s : ByteArray) (w : World) (hT : Tabs w) (hs : s.size ≤ 1048576) :
    Calls Tryd.prog 3 #[.string s] w fun e w' => e = .returned (.bool true) ∧ Below w.heap.size w w' := by
  have hfl := fold_length s.data.toList
  have hl : s.data.toList.length = s.size := by simp [ByteArray.size_data]
  rw [hl] at hfl
  clear hl
  have cV := fun W hT => utf_Valid s W (by unfold maxLen; omega) hT
  have cC := fun W => utf_Count s W (by unfold maxLen; omega)
  have cF := fun W => utf_Fold s W (by unfold maxLen; omega) (by omega)
  have cG := fun W => ref_Fold s W (by omega)
  have cR := fun W => ref_Runes s W (by omega)
  clear hfl
  generalize Lib.validD s.data.toList = V at *
  generalize fold s.data.toList = F at *
  generalize runes s.data.toList = rs at *
  go_enter Tryd.func3, Tryd.ntmps3
  go_wp2_with fail
  refine (awake_true _ hT).mono ?_
  rintro e w1 ⟨rfl, hb1⟩
  have hT1 := tabs_below hT hb1
  go_wp2_with fail
  refine (cR _).mono ?_
  rintro e w2 ⟨v, rfl, hown, hb2⟩
  obtain ⟨va, vc, rfl⟩ := owns_slice hown
  clear hown
  have hT2 := tabs_below hT1 hb2
  go_wp2_with fail
  refine (cV _ hT2).mono ?_
  rintro e w3 ⟨rfl, hb3⟩
  have hbe : (V == V) = true := by simp
  go_wp2_with fail
  refine (cC _).mono ?_
  rintro e w4 ⟨rfl, hb4⟩
  have hce : ((rs.length : Int) == (rs.length : Int)) = true := by simp
  go_wp2_with fail
  refine (cF _).mono ?_
  rintro e w5 ⟨rfl, hb5⟩
  go_wp2_with fail
  refine (cG _).mono ?_
  rintro e w6 ⟨rfl, hb6⟩
  go_wp2_with fail
  go_ret
  have s1 := hb1.size
  have s2 := hb2.size
  have s3 := hb3.size
  have s4 := hb4.size
  have s5 := hb5.size
  exact ⟨rfl, hb1.trans ((hb2.mono s1).trans ((hb3.mono (by omega)).trans ((hb4.mono (by omega)).trans ((hb5.mono (by omega)).trans (hb6.mono (by omega))))))⟩

end Go.Proofs.YtfekdadkbclkfaaDoor
