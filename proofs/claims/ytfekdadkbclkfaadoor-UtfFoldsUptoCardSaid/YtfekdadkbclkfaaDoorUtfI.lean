/- The walk of UtfFolds. -/
import Derived.Test.YtfekdadkbclkfaaDoorUtfG
namespace Go.Proofs.YtfekdadkbclkfaaDoor
open Go.RowKit

theorem smallZ_small (r : Int) : smallZ (smallZ r) = smallZ r := by
  unfold smallZ
  repeat' split
  all_goals omega
theorem smallZ_bd (r : Int) (h0 : -2147483648 ≤ r) (h1 : r ≤ 2147483647) : -2147483648 ≤ smallZ r ∧ smallZ r ≤ 2147483647 := by
  unfold smallZ
  repeat' split
  all_goals omega
theorem wordB_small (r : Int) : wordB (smallZ r) = wordB r := by
  refine decide_eq_decide.2 ?_
  unfold wordP smallZ
  repeat' split
  all_goals omega

set_option maxRecDepth 100000 in
set_option maxHeartbeats 2000000 in

theorem folds_walk (s : ByteArray) (r : Int) (w : World) (hT : Tabs w) (hs : s.size ≤ 1048576) (h0 : -2147483648 ≤ r) (h1 : r ≤ 2147483647) :
    Calls Tryd.prog 5 #[.string s, .int .i32 r] w fun e w' => e = .returned (.bool true) ∧ Below w.heap.size w w' := by
  have hfl := fold_length s.data.toList
  have hl : s.data.toList.length = s.size := by simp [ByteArray.size_data]
  rw [hl] at hfl
  clear hl
  obtain ⟨T, hT1⟩ : ∃ T : ByteArray, (⟨(fold s.data.toList).toArray⟩ : ByteArray) = T := ⟨_, rfl⟩
  have hTd : T.data.toList = fold s.data.toList := by rw [← hT1]
  have hTs : T.size = (fold s.data.toList).length := by rw [← hT1]; simp [ByteArray.size]
  have cF := fun W => utf_Fold s W (by unfold maxLen; omega) (by omega)
  have cFT := fun W => utf_Fold T W (by unfold maxLen; omega) (by rw [hTd, fold_fold]; omega)
  have cC := fun W => utf_Count s W (by unfold maxLen; omega)
  have cCT := fun W => utf_Count T W (by unfold maxLen; omega)
  have cV := fun W hT => utf_Valid T W (by unfold maxLen; omega) hT
  rw [hTd, fold_fold, hT1] at cFT
  rw [hTd, runes_fold, List.length_map] at cCT
  rw [hTd, valid_fold] at cV
  rw [hT1] at cF
  have hx : smallZ (smallZ r) = smallZ r := smallZ_small r
  have hwd : wordB (smallZ r) = wordB r := wordB_small r
  have cS := fun W => utf_Small r W h0 h1
  have cW := fun W => utf_Word r W h0 h1
  have hb := smallZ_bd r h0 h1
  have cSX := fun W => utf_Small (smallZ r) W hb.1 hb.2
  have cWX := fun W => utf_Word (smallZ r) W hb.1 hb.2
  rw [hx] at cSX
  rw [hwd] at cWX
  clear hfl hT1 hTd hTs hx hwd hb
  generalize smallZ r = x at *
  generalize wordB r = B at *
  generalize (runes s.data.toList).length = n at *
  have hn : ((n : Int) == (n : Int)) = true := by simp
  have hxx : (x == x) = true := by simp
  have hB : (B == B) = true := by simp
  go_enter Tryd.func5, Tryd.ntmps5
  go_wp2_with fail
  refine (awake_true _ hT).mono ?_
  rintro e w1 ⟨rfl, hb1⟩
  have hT1 := tabs_below hT hb1
  go_wp2_with fail
  refine (cF _).mono ?_
  rintro e w2 ⟨rfl, hb2⟩
  have hT2 := tabs_below hT1 hb2
  go_wp2_with fail
  refine (cS _).mono ?_
  rintro e w3 ⟨rfl, rfl⟩
  go_wp2_with fail
  refine (cFT _).mono ?_
  rintro e w3 ⟨rfl, hb3⟩
  have hT3 := tabs_below hT2 hb3
  go_wp2_with fail
  refine (cCT _).mono ?_
  rintro e w4 ⟨rfl, hb4⟩
  have hT4 := tabs_below hT3 hb4
  go_wp2_with fail
  refine (cC _).mono ?_
  rintro e w5 ⟨rfl, hb5⟩
  have hT5 := tabs_below hT4 hb5
  go_wp2_with fail
  refine (cV _ hT5).mono ?_
  rintro e w6 ⟨rfl, hb6⟩
  go_wp2_with fail
  refine (cSX _).mono ?_
  rintro e w7 ⟨rfl, rfl⟩
  go_wp2_with fail
  refine (cWX _).mono ?_
  rintro e w7 ⟨rfl, rfl⟩
  go_wp2_with fail
  refine (cW _).mono ?_
  rintro e w7 ⟨rfl, rfl⟩
  go_wp2_with fail
  go_ret
  exact ⟨rfl, below_seq (below_seq (below_seq (below_seq (below_seq hb1 hb2) hb3) hb4) hb5) hb6⟩

end Go.Proofs.YtfekdadkbclkfaaDoor
