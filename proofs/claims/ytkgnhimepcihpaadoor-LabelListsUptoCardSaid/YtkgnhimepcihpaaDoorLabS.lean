/-
  The reference's Write, at labels.
-/
import Derived.Test.YtkgnhimepcihpaaDoorLabW
namespace Go.Proofs.YtkgnhimepcihpaaDoor
open Go.RowKit

theorem win_byte (s : ByteArray) (j : Nat) (h : j < s.size) : s.extract j (j + 1) = ⟨#[s[j]]⟩ := by
  apply ByteArray.ext
  apply Array.toList_inj.1
  have hl : j < s.data.toList.length := by simpa [ByteArray.size_data] using h
  rw [ByteArray.data_extract, Array.toList_extract, List.extract_eq_take_drop, List.drop_eq_getElem_cons hl, show j + 1 - j = 1 by omega, List.take_succ_cons, List.take_zero]
  rfl
theorem cat_size (a b : ByteArray) : (a ++ b).size = a.size + b.size := ByteArray.size_append
theorem b1_size (c : UInt8) : (⟨#[c]⟩ : ByteArray).size = 1 := rfl
theorem len_size (a : ByteArray) : a.data.toList.length = a.size := by simp [ByteArray.size_data]
theorem cat_list (a b : ByteArray) : (a ++ b).data.toList = a.data.toList ++ b.data.toList := by rw [ByteArray.data_append]; simp
set_option maxRecDepth 100000 in
set_option maxHeartbeats 8000000 in
theorem ref_Write (v : Value) (L : List Lab) (w : World) (h : LRow w v L) (hlen : (writeLab L).length ≤ 1099511627776) :
    Calls Tryd.prog 36 #[v] w fun e w' => e = .returned (.string ⟨(writeLab L).toArray⟩) ∧ Below w.heap.size w w' := by
  obtain ⟨aa, ca, rfl, hca, hca2⟩ := h.shape
  unfold maxLen at hca2
  have HA := Lib.hid h
  clear h
  obtain ⟨R, hR⟩ : ∃ R, writeLab L = R := ⟨_, rfl⟩
  rw [hR] at hlen ⊢
  have HR := Lib.hid hR
  clear hR
  go_enter Tryd.func36, Tryd.ntmps36
  go_wp2
  go_loopw [3, 4] (fun sv iv wr => ∃ (k : Nat) (s : ByteArray), sv = .string s ∧ iv = .int .i64 k ∧ k ≤ L.length ∧ s.data.toList ++ (wGo (decide (k = 0)) (L.drop k) ++ [125]) = R ∧ Below w.heap.size w wr) (fun _ iv _ => L.length - (intOf iv).toNat)
  case atStart => exact ⟨0, ⟨#[123]⟩, rfl, rfl, Nat.zero_le _, HR.out, Below.refl _ _⟩
  case round =>
    obtain ⟨k, s, rfl, rfl, hk, hacc, hb⟩ := hrel
    by_cases hlt : k < L.length
    · obtain ⟨ba, oa, rfl, hba, ga1, ga2⟩ := HA.out.at hlt
      have HG := Lib.hid (fun W (hW : Below w.heap.size w W) => (⟨by rw [hW.cell (p := ⟨ba, _, none⟩) hba]; exact ga1, by rw [hW.cell (p := ⟨ba, _, none⟩) hba]; exact ga2⟩ : W.cell? ⟨ba, oa + k * 2, none⟩ = some (.string L[k].1) ∧ W.cell? ⟨ba, oa + k * 2 + 1, none⟩ = some (.string L[k].2)))
      rw [wGo_at hlt] at hacc
      have HT : wGo false (L.drop (k + 1)) = wGo (decide (k + 1 = 0)) (L.drop (k + 1)) := rfl
      obtain ⟨T, hTd⟩ : ∃ T, wGo false (L.drop (k + 1)) = T := ⟨_, rfl⟩
      rw [hTd] at HT hacc
      have HTT := Lib.hid HT
      clear HT hTd ga1 ga2
      generalize L[k] = x at *
      obtain ⟨x1, x2⟩ := x
      simp only at *
      obtain ⟨pre, hpre, hcase⟩ : ∃ pre : List UInt8, (if decide (k = 0) = true then ([] : List UInt8) else [44]) = pre ∧ ((k = 0 ∧ pre = []) ∨ (0 < k ∧ pre = [44])) := by
        by_cases h : k = 0
        · exact ⟨[], by simp [h], .inl ⟨h, rfl⟩⟩
        · exact ⟨[44], by simp [h], .inr ⟨by omega, rfl⟩⟩
      rw [hpre] at hacc
      clear hpre
      have hln := congrArg List.length hacc
      simp only [List.length_append, List.length_cons, List.length_nil, len_size] at hln
      have hel := escL_len x2.data.toList
      rw [len_size] at hel
      have i0 : (0 : Int) ≤ (k : Int) := by omega
      have i1 : (k : Int) < (L.length : Int) := by omega
      obtain ⟨q0, q1⟩ := HG.out _ hb
      have hsz : s.size + pre.length + x1.size + x2.size + 4 ≤ 1099511627776 := by omega
      clear hln hel
      obtain ⟨s0, hs0, hst⟩ : ∃ s0 : ByteArray, s0.data.toList = s.data.toList ++ (pre ++ (x1.data.toList ++ [61, 34])) ∧ True := ⟨⟨(s.data.toList ++ (pre ++ (x1.data.toList ++ [61, 34]))).toArray⟩, rfl, trivial⟩
      have HAC := Lib.hid (show s0.data.toList ++ (escL x2.data.toList ++ ([34] ++ (T ++ [125]))) = R by rw [hs0, ← hacc]; simp)
      have HS0 := Lib.hid hs0
      clear hs0 hacc
      have z1 : s.size + 1 ≤ 9223372036854775807 := by omega
      have z2 : s.size + x1.size ≤ 9223372036854775807 := by omega
      have z3 : (s ++ (⟨#[44]⟩ : ByteArray)).size + x1.size ≤ 9223372036854775807 := by rw [cat_size, b1_size]; omega
      have z4 : (s ++ (⟨#[44]⟩ : ByteArray) ++ x1).size + 2 ≤ 9223372036854775807 := by rw [cat_size, cat_size, b1_size]; omega
      have z5 : (s ++ x1).size + 2 ≤ 9223372036854775807 := by rw [cat_size]; omega
      rcases hcase with ⟨hk0, rfl⟩ | ⟨hk0, rfl⟩
      case' inl =>
        have i2 : ¬ (0 : Int) < (k : Int) := by omega
        have hs0' : s ++ x1 ++ (⟨#[61, 34]⟩ : ByteArray) = s0 := ByteArray.ext (Array.toList_inj.1 (by rw [HS0.out, cat_list, cat_list]; simp))
      case' inr =>
        have hs0' : s ++ (⟨#[44]⟩ : ByteArray) ++ x1 ++ (⟨#[61, 34]⟩ : ByteArray) = s0 := ByteArray.ext (Array.toList_inj.1 (by rw [HS0.out, cat_list, cat_list, cat_list]; simp))
        have i2 : (0 : Int) < (k : Int) := by omega
      all_goals
        clear hk0
        go_upto_region 8 with fail
        clear z1 z2 z3 z4 z5 hs0'
        go_wp2
        go_loopw [3, 5] (fun sv iv wr => ∃ (j : Nat) (s : ByteArray), sv = .string s ∧ iv = .int .i64 j ∧ j ≤ x2.size ∧ s.data.toList ++ (escL (x2.data.toList.drop j) ++ ([34] ++ (T ++ [125]))) = R ∧ Below w.heap.size w wr) (fun _ iv _ => x2.size - (intOf iv).toNat)
        case atStart => exact ⟨0, s0, rfl, rfl, Nat.zero_le _, HAC.out, hb⟩
        case round =>
          obtain ⟨j, a, rfl, rfl, hj, ha, hbr⟩ := hrel
          have hla := congrArg List.length ha
          simp only [List.length_append, List.length_cons, List.length_nil, len_size] at hla
          have hal : a.size + 2 ≤ 9223372036854775807 := by omega
          have hal1 : a.size + 1 ≤ 9223372036854775807 := by omega
          clear hla
          obtain ⟨p0, p1⟩ := HG.out _ hbr
          by_cases hjl : j < x2.size
          · have hes := escL_at x2 j hjl
            rw [hes] at ha
            have j0 : (0 : Int) ≤ (j : Int) := by omega
            have j1 : (j : Int) < (x2.size : Int) := by omega
            have j2 : IntKind.i64.wrap ((j : Int) + 1) = ((j + 1 : Nat) : Int) := by rw [IntWalk.i64_in _ (by have := HS0.out; omega)]; omega
            have j3 : (j : Int) ≤ ((j + 1 : Nat) : Int) := by omega
            have j4 : ((j + 1 : Nat) : Int) ≤ (x2.size : Int) := by omega
            have hwin := win_byte x2 j hjl
            obtain ⟨c, hc⟩ : ∃ c, x2[j] = c := ⟨_, rfl⟩
            rw [hc] at ha hwin
            have HAA := Lib.hid ha
            clear ha hes hc
            rcases esc_cases c with ⟨hcc, he⟩ | ⟨hcc, he⟩ | ⟨n34, n92, n10, he⟩
            · rw [he] at HAA
              rcases hcc with rfl | rfl
              case' inl => have hjoin : (⟨#[92]⟩ : ByteArray) ++ (⟨#[34]⟩ : ByteArray) = ⟨#[92, 34]⟩ := rfl
              case' inr => have hjoin : (⟨#[92]⟩ : ByteArray) ++ (⟨#[92]⟩ : ByteArray) = ⟨#[92, 92]⟩ := rfl
              all_goals
                clear he
                go_wp2
                go_roundw
                case rel => exact ⟨j + 1, a ++ ⟨#[92, _]⟩, rfl, by go_num, by omega, by rw [cat_list, ← HAA.out]; simp, hbr⟩
                case measure => simp [intOf]; omega
            · rw [he] at HAA
              subst hcc
              clear he
              go_wp2
              go_roundw
              case rel => exact ⟨j + 1, a ++ ⟨#[92, 110]⟩, rfl, by go_num, by omega, by rw [cat_list, ← HAA.out]; simp, hbr⟩
              case measure => simp [intOf]; omega
            · rw [he] at HAA
              have e34 : (c == 34) = false := by simpa using n34
              have e92 : (c == 92) = false := by simpa using n92
              have e10 : (c == 10) = false := by simpa using n10
              go_wp2
              go_roundw
              case rel => exact ⟨j + 1, a ++ ⟨#[c]⟩, rfl, by go_num, by omega, by rw [cat_list, ← HAA.out]; simp, hbr⟩
              case measure => simp [intOf]; omega
          · have hje : j = x2.size := by omega
            rw [List.drop_of_length_le (by rw [len_size]; omega)] at ha
            have j1 : ¬ (j : Int) < (x2.size : Int) := by omega
            have HAA := Lib.hid ha
            clear ha
            go_wp2
            go_roundw
            case rel => exact ⟨k + 1, a ++ ⟨#[34]⟩, rfl, by go_num, by omega, by rw [cat_list, ← HTT.out, ← HAA.out]; simp [escL], hbr⟩
            case measure => simp [intOf]; omega
    · have hke : k = L.length := by omega
      have i1 : ¬ (k : Int) < (L.length : Int) := by omega
      rw [List.drop_of_length_le (by omega)] at hacc
      have hln := congrArg List.length hacc
      simp only [List.length_append, List.length_cons, List.length_nil, len_size] at hln
      have hal : s.size + 1 ≤ 9223372036854775807 := by omega
      have HF := Lib.hid (show s ++ (⟨#[125]⟩ : ByteArray) = ⟨R.toArray⟩ from ByteArray.ext (Array.toList_inj.1 (by rw [cat_list, ← hacc]; simp [wGo])))
      clear hacc hln
      go_wp2
      go_ret
      exact ⟨by rw [HF.out]; rfl, hb⟩
end Go.Proofs.YtkgnhimepcihpaaDoor
