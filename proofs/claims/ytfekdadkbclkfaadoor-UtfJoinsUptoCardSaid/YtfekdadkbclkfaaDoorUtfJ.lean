/- The walk of UtfJoins. -/
import Derived.Test.YtfekdadkbclkfaaDoorUtfG
namespace Go.Proofs.YtfekdadkbclkfaaDoor
open Go.RowKit

theorem app_list (a b : ByteArray) : (a ++ b).data.toList = a.data.toList ++ b.data.toList := by
  rw [ByteArray.data_append, Array.toList_append]
theorem app_size (a b : ByteArray) : (a ++ b).size = a.size + b.size := ByteArray.size_append
theorem app_mk (a b : List UInt8) : (⟨(a ++ b).toArray⟩ : ByteArray) = (⟨a.toArray⟩ : ByteArray) ++ (⟨b.toArray⟩ : ByteArray) := by
  apply ByteArray.ext
  rw [ByteArray.data_append]
  simp
theorem len_list (s : ByteArray) : s.data.toList.length = s.size := by simp [ByteArray.size_data]
theorem ext_take (s : ByteArray) (k : Nat) : (s.extract 0 k).data.toList = s.data.toList.take k := by
  rw [ByteArray.data_extract, Array.toList_extract, List.extract_eq_take_drop, List.drop_zero, Nat.sub_zero]
theorem getD_get (s : ByteArray) (k : Nat) (h : k < s.size) : s.data.toList.getD k 0 = s[k] := by
  rw [List.getD_eq_getElem?_getD, List.getElem?_eq_getElem (by rw [len_list]; exact h), Option.getD_some]
  rfl
theorem mkS (l : List UInt8) : ∃ T : ByteArray, T = ⟨l.toArray⟩ ∧ T.data.toList = l ∧ T.size = l.length := ⟨_, rfl, rfl, by simp [ByteArray.size]⟩

set_option maxRecDepth 100000 in
set_option maxHeartbeats 2000000 in
theorem joins_no (s t : ByteArray) (at' : Int) (w : World) (hT : Tabs w) (hs : s.size ≤ 1048576) (ht : t.size ≤ 1048576)
    (hno : Lib.validD s.data.toList = false ∨ Lib.validD t.data.toList = false) :
    Calls Tryd.prog 6 #[.string s, .string t, .int .i64 at'] w fun e w' => e = .returned (.bool true) ∧ Below w.heap.size w w' := by
  have cVs := fun W hT => utf_Valid s W (by unfold maxLen; omega) hT
  have cVt := fun W hT => utf_Valid t W (by unfold maxLen; omega) hT
  generalize Lib.validD s.data.toList = V1 at *
  generalize Lib.validD t.data.toList = V2 at *
  go_enter Tryd.func6, Tryd.ntmps6
  go_wp2_with fail
  refine (awake_true _ hT).mono ?_
  rintro e w1 ⟨rfl, hb1⟩
  have hT1 := tabs_below hT hb1
  go_wp2_with fail
  refine (cVs _ hT1).mono ?_
  rintro e w2 ⟨rfl, hb2⟩
  have hT2 := tabs_below hT1 hb2
  have hl1 := len_list s
  have hl2 := len_list t
  have hf1 := fold_length s.data.toList
  have hf2 := fold_length t.data.toList
  have cFs := fun W => utf_Fold s W (by unfold maxLen; omega) (by omega)
  have cFt := fun W => utf_Fold t W (by unfold maxLen; omega) (by omega)
  have cVf := fun W hT => utf_Valid ((⟨(fold s.data.toList).toArray⟩ : ByteArray) ++ (⟨(fold t.data.toList).toArray⟩ : ByteArray)) W (by rw [app_size]; simp only [ByteArray.size, List.size_toArray]; unfold maxLen; omega) hT
  rw [app_list, valid_append _ _ (by simpa using valid_fold s.data.toList), show Lib.validD ((⟨(fold t.data.toList).toArray⟩ : ByteArray).data.toList) = true by simpa using valid_fold t.data.toList] at cVf
  have hFF : (fold s.data.toList).length + (fold t.data.toList).length ≤ 1000000000 := by omega
  clear hl1 hl2 hf1 hf2
  generalize fold s.data.toList = FS at *
  generalize fold t.data.toList = FT at *
  cases V1
  · clear cVt hno cVs
    go_wp2_with fail
    refine (cFs _).mono ?_
    rintro e w3 ⟨rfl, hb3⟩
    have hT3 := tabs_below hT2 hb3
    go_wp2_with fail
    refine (cFt _).mono ?_
    rintro e w4 ⟨rfl, hb4⟩
    have hT4 := tabs_below hT3 hb4
    go_wp2_with fail
    refine (cVf _ hT4).mono ?_
    rintro e w5 ⟨rfl, hb5⟩
    go_wp2_with fail
    go_ret
    exact ⟨rfl, below_seq (below_seq (below_seq (below_seq hb1 hb2) hb3) hb4) hb5⟩
  · have hV2 : V2 = false := by simpa using hno
    subst hV2
    clear hno
    go_wp2_with fail
    refine (cVt _ hT2).mono ?_
    rintro e w2' ⟨rfl, hb2'⟩
    have hT2' := tabs_below hT2 hb2'
    go_wp2_with fail
    refine (cFs _).mono ?_
    rintro e w3 ⟨rfl, hb3⟩
    have hT3 := tabs_below hT2' hb3
    go_wp2_with fail
    refine (cFt _).mono ?_
    rintro e w4 ⟨rfl, hb4⟩
    have hT4 := tabs_below hT3 hb4
    go_wp2_with fail
    refine (cVf _ hT4).mono ?_
    rintro e w5 ⟨rfl, hb5⟩
    go_wp2_with fail
    go_ret
    exact ⟨rfl, below_seq (below_seq (below_seq (below_seq (below_seq hb1 hb2) hb2') hb3) hb4) hb5⟩

set_option maxRecDepth 100000 in
set_option maxHeartbeats 2000000 in
theorem joins_yes (s t : ByteArray) (at' : Int) (w : World) (hT : Tabs w) (hs : s.size ≤ 1048576) (ht : t.size ≤ 1048576)
   
    (h1 : Lib.validD s.data.toList = true) (h2 : Lib.validD t.data.toList = true) :
    Calls Tryd.prog 6 #[.string s, .string t, .int .i64 at'] w fun e w' => e = .returned (.bool true) ∧ Below w.heap.size w w' := by
  have cVs := fun W hT => utf_Valid s W (by unfold maxLen; omega) hT
  have cVt := fun W hT => utf_Valid t W (by unfold maxLen; omega) hT
  rw [h1] at cVs
  rw [h2] at cVt
  go_enter Tryd.func6, Tryd.ntmps6
  go_wp2_with fail
  refine (awake_true _ hT).mono ?_
  rintro e w1 ⟨rfl, hb1⟩
  have hT1 := tabs_below hT hb1
  go_wp2_with fail
  refine (cVs _ hT1).mono ?_
  rintro e w2 ⟨rfl, hb2⟩
  have hT2 := tabs_below hT1 hb2
  go_wp2_with fail
  refine (cVt _ hT2).mono ?_
  rintro e w3 ⟨rfl, hb3⟩
  have hT3 := tabs_below hT2 hb3
  have hl1 := len_list s
  have hl2 := len_list t
  have hf1 := fold_length s.data.toList
  have hf2 := fold_length t.data.toList
  have hr1 := runes_length s.data.toList
  have hr2 := runes_length t.data.toList
  have cVj := fun W hT => utf_Valid (s ++ t) W (by rw [app_size]; unfold maxLen; omega) hT
  have cCj := fun W => utf_Count (s ++ t) W (by rw [app_size]; unfold maxLen; omega)
  have cCs := fun W => utf_Count s W (by unfold maxLen; omega)
  have cCt := fun W => utf_Count t W (by unfold maxLen; omega)
  have cFj := fun W => utf_Fold (s ++ t) W (by rw [app_size]; unfold maxLen; omega) (by rw [app_list, fold_append _ _ h1, List.length_append]; omega)
  have cFs := fun W => utf_Fold s W (by unfold maxLen; omega) (by omega)
  have cFt := fun W => utf_Fold t W (by unfold maxLen; omega) (by omega)
  rw [app_list, valid_append _ _ h1, h2] at cVj
  rw [app_list, runes_append _ _ h1, List.length_append] at cCj
  rw [app_list, fold_append _ _ h1, app_mk] at cFj
  rw [hl1] at hr1
  rw [hl2] at hr2
  have hcast : (((runes s.data.toList).length + (runes t.data.toList).length : Nat) : Int) = ((runes s.data.toList).length : Int) + ((runes t.data.toList).length : Int) := by omega
  rw [hcast] at cCj
  have hFF : (fold s.data.toList).length + (fold t.data.toList).length ≤ 1000000000 := by omega
  clear hf1 hf2 hcast
  clear cVs cVt hl1 hl2
  have H1 := Lib.hid h1
  clear h1 h2
  generalize fold s.data.toList = FS at *
  generalize fold t.data.toList = FT at *
  generalize (runes s.data.toList).length = n1 at *
  generalize (runes t.data.toList).length = n2 at *
  have hn : ((n1 : Int) + (n2 : Int) != (n1 : Int) + (n2 : Int)) = false := by simp
  go_wp2_with fail
  refine (cVj _ hT3).mono ?_
  rintro e w4 ⟨rfl, hb4⟩
  have hT4 := tabs_below hT3 hb4
  go_wp2_with fail
  refine (cCj _).mono ?_
  rintro e w5 ⟨rfl, hb5⟩
  have hT5 := tabs_below hT4 hb5
  go_wp2_with fail
  refine (cCs _).mono ?_
  rintro e w6 ⟨rfl, hb6⟩
  have hT6 := tabs_below hT5 hb6
  go_wp2_with fail
  refine (cCt _).mono ?_
  rintro e w7 ⟨rfl, hb7⟩
  have hT7 := tabs_below hT6 hb7
  go_wp2_with fail
  refine (cFj _).mono ?_
  rintro e w8 ⟨rfl, hb8⟩
  have hT8 := tabs_below hT7 hb8
  go_wp2_with fail
  refine (cFs _).mono ?_
  rintro e w9 ⟨rfl, hb9⟩
  have hT9 := tabs_below hT8 hb9
  go_wp2_with fail
  refine (cFt _).mono ?_
  rintro e w10 ⟨rfl, hb10⟩
  have hT10 := tabs_below hT9 hb10
  have hb := below_seq (below_seq (below_seq (below_seq (below_seq (below_seq (below_seq (below_seq (below_seq hb1 hb2) hb3) hb4) hb5) hb6) hb7) hb8) hb9) hb10
  clear hb1 hb2 hb3 hb4 hb5 hb6 hb7 hb8 hb9 hb10 cVj cCj cCs cCt cFj cFs cFt hn
  clear hT hT1 hT2 hT3 hT4 hT5 hT6 hT7 hT8 hT9 hr1 hr2
  obtain ⟨K, hK, hk⟩ := umod at' s.size
  have cV1 := fun W hT => utf_Valid (s.extract 0 K) W (by rw [ByteArray.size_extract]; unfold maxLen; omega) hT
  have cV2 := fun W hT => utf_Valid (s.extract K s.size) W (by rw [ByteArray.size_extract]; unfold maxLen; omega) hT
  have hcut := valid_cut s.data.toList H1.out K (by rw [len_list]; exact hK)
  rw [ext_list', hcut.2, len_list] at cV2
  rw [ext_take, hcut.1, len_list] at cV1
  clear hcut
  by_cases hKs : K = s.size
  · have hb0 : ((K : Int) == (s.size : Int)) = true := by rw [hKs]; simp
    rw [decide_eq_true hKs, Bool.true_or] at cV1 cV2
    clear hKs
    go_wp2_with fail
    refine (cV1 _ hT10).mono ?_
    rintro e w11 ⟨rfl, hb11⟩
    have hT11 := tabs_below hT10 hb11
    go_wp2_with fail
    refine (cV2 _ hT11).mono ?_
    rintro e w12 ⟨rfl, hb12⟩
    go_wp2_with fail
    go_ret
    exact ⟨rfl, below_seq (below_seq hb hb11) hb12⟩
  · have hlt : K < s.size := by omega
    have hb0 : ((K : Int) == (s.size : Int)) = false := by simp; omega
    have hg := getD_get s K hlt
    rw [decide_eq_false hKs, Bool.false_or, hg] at cV1 cV2
    have hB : s[K].toNat < 256 := s[K].toNat_lt
    clear hKs hg
    have hcb : contB s[K] = decide (128 ≤ s[K].toNat ∧ s[K].toNat ≤ 191) := rfl
    rcases (by omega : s[K].toNat < 128 ∨ 191 < s[K].toNat ∨ (128 ≤ s[K].toNat ∧ s[K].toNat ≤ 191)) with h | h | h
    all_goals
      first
        | rw [hcb, decide_eq_false (by omega), Bool.not_false] at cV1 cV2
        | rw [hcb, decide_eq_true (by omega), Bool.not_true] at cV1 cV2
      clear hcb
      go_wp2_with fail
      refine (cV1 _ hT10).mono ?_
      rintro e w11 ⟨rfl, hb11⟩
      have hT11 := tabs_below hT10 hb11
      go_wp2_with fail
      refine (cV2 _ hT11).mono ?_
      rintro e w12 ⟨rfl, hb12⟩
      go_wp2_with fail
      go_ret
      first
        | exact ⟨rfl, below_seq (below_seq hb hb11) hb12⟩
        | (refine ⟨ret_boolE ?_, below_seq (below_seq hb hb11) hb12⟩; simp; omega)

theorem joins_walk (s t : ByteArray) (at' : Int) (w : World) (hT : Tabs w) (hs : s.size ≤ 1048576) (ht : t.size ≤ 1048576) :
    Calls Tryd.prog 6 #[.string s, .string t, .int .i64 at'] w fun e w' => e = .returned (.bool true) ∧ Below w.heap.size w w' := by
  by_cases h1 : Lib.validD s.data.toList = true
  · by_cases h2 : Lib.validD t.data.toList = true
    · exact joins_yes s t at' w hT hs ht h1 h2
    · exact joins_no s t at' w hT hs ht (.inr (by simpa using h2))
  · exact joins_no s t at' w hT hs ht (.inl (by simpa using h1))
end Go.Proofs.YtfekdadkbclkfaaDoor
