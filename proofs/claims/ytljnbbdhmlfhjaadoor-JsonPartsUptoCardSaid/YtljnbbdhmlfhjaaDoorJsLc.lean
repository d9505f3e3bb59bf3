/-
  The law JsonBack.
-/
import Derived.Test.YtljnbbdhmlfhjaaDoorJsLb
namespace Go.Proofs.YtljnbbdhmlfhjaaDoor
open Go.RowKit
theorem law_formL (s : ByteArray) (l : Bs) (hl : s.data.toList = l) (w : World) (hT : Tabs w) (hs : l.length ≤ 70368744177664) :
    Calls Tryd.prog 9 #[.string s] w fun e w' => e = .returned (.tuple #[.string ⟨(oneF l).toArray⟩, .int .i64 (parseE l)]) ∧ Below w.heap.size w w' := by
  have h := law_form s w hT (by rw [← hl] at hs; simpa [ByteArray.size_data] using hs)
  rwa [hl] at h
theorem str_eqJ (a b : ByteArray) (h : a.data.toList = b.data.toList) : (a.toList == b.toList) = true := by
  rw [beq_iff_eq, ByteArray.toList_eq, ByteArray.toList_eq, h]
set_option maxRecDepth 100000 in
set_option maxHeartbeats 20000000 in
theorem back_walk22 (v : Value) (b : Bs) (w : World) (hT : Tabs w) (hb : argRow w v b.length 1 (Lib.byteCells b)) (hl : b.length ≤ 1048576) :
    Calls Tryd.prog 4 #[v] w fun e w' => e = .returned (.bool true) ∧ Below w.heap.size w w' := by
  have CA := law22_awake w hT
  have hcv := Lib.hid (fun W (hW : Below w.heap.size w W) => conv_arg (w := W) (v := v) (b := b) (argRow_below hb hW))
  have C1 := Lib.hid (fun W (hW : Below w.heap.size w W) => law_formL ⟨b.toArray⟩ b (by simp) W (Utf8Tabs_below hT hW) (by omega))
  obtain ⟨A, hA⟩ : ∃ A, oneF b = A := ⟨_, rfl⟩
  have hlen := law_len b
  have HBK := Lib.hid (law_back b)
  have hnz : parseE b ≠ 0 → A = [] := fun h => by rw [← hA]; unfold oneF; rw [if_neg h]
  rw [hA] at hlen C1 HBK
  obtain ⟨-, a, cap, rfl, -⟩ := hb
  by_cases h0 : parseE b = 0
  · have hlaw := fun h => HBK.out h0 h
    rw [h0] at C1
    obtain ⟨T, hTA⟩ : ∃ T : ByteArray, (⟨A.toArray⟩ : ByteArray) = T := ⟨_, rfl⟩
    have hTl : T.data.toList = A := by rw [← hTA]
    have hTs : T.size = A.length := by rw [← hTA]; rfl
    rw [hTA] at C1
    have h3l : ((⟨#[32, 10]⟩ : ByteArray) ++ T ++ ⟨#[9, 13]⟩).data.toList = [32, 10] ++ A ++ [9, 13] := by simp [ByteArray.data_append, hTl]
    have h4l : ((⟨#[91]⟩ : ByteArray) ++ T ++ ⟨#[93]⟩).data.toList = [91] ++ A ++ [93] := by simp [ByteArray.data_append, hTl]
    have C2 := Lib.hid (fun W (hW : Below w.heap.size w W) => law_formL T A hTl W (Utf8Tabs_below hT hW) (by omega))
    have C3 := Lib.hid (fun W (hW : Below w.heap.size w W) => law_formL _ _ h3l W (Utf8Tabs_below hT hW) (by simp only [List.length_append, List.length_cons, List.length_nil]; omega))
    have C4 := Lib.hid (fun W (hW : Below w.heap.size w W) => law_formL _ _ h4l W (Utf8Tabs_below hT hW) (by simp only [List.length_append, List.length_cons, List.length_nil]; omega))
    have t1 : T.size ≤ 6291456 := by omega
    have t2 : (⟨#[32, 10]⟩ : ByteArray).size ≤ 2 := by decide
    have t3 : ((⟨#[32, 10]⟩ : ByteArray) ++ T).size ≤ 6291458 := by rw [ByteArray.size_append]; omega
    have t4 : (⟨#[9, 13]⟩ : ByteArray).size ≤ 2 := by decide
    have t5 : (⟨#[91]⟩ : ByteArray).size ≤ 1 := by decide
    have t6 : ((⟨#[91]⟩ : ByteArray) ++ T).size ≤ 6291458 := by rw [ByteArray.size_append]; omega
    have t7 : (⟨#[93]⟩ : ByteArray).size ≤ 1 := by decide
    have HT := Lib.hid hT
    clear hT
    obtain ⟨E2, hE2⟩ : ∃ E, parseE A = E := ⟨_, rfl⟩
    obtain ⟨E3, hE3⟩ : ∃ E, parseE ([32, 10] ++ A ++ [9, 13]) = E := ⟨_, rfl⟩
    obtain ⟨E4, hE4⟩ : ∃ E, parseE ([91] ++ A ++ [93]) = E := ⟨_, rfl⟩
    obtain ⟨S2, hS2⟩ : ∃ S : ByteArray, (⟨(oneF A).toArray⟩ : ByteArray) = S := ⟨_, rfl⟩
    obtain ⟨S3, hS3⟩ : ∃ S : ByteArray, (⟨(oneF ([32, 10] ++ A ++ [9, 13])).toArray⟩ : ByteArray) = S := ⟨_, rfl⟩
    obtain ⟨S4, hS4⟩ : ∃ S : ByteArray, (⟨(oneF ([91] ++ A ++ [93])).toArray⟩ : ByteArray) = S := ⟨_, rfl⟩
    rw [hE2, hS2] at C2
    rw [hE3, hS3] at C3
    rw [hE4, hS4] at C4
    rw [hE2, hE3, hE4] at hlaw
    have hstr : A.length ≤ 16000 → (E2 = 0 ∧ (S2.toList == T.toList) = true) ∧ (E3 = 0 ∧ (S3.toList == T.toList) = true) ∧ ((E4 = 0 ∧ (S4.toList == ((⟨#[91]⟩ : ByteArray) ++ T ++ ⟨#[93]⟩).toList) = true) ∨ E4 = 9) := fun h => by
      obtain ⟨⟨x1, x2⟩, ⟨x3, x4⟩, x5⟩ := hlaw h
      refine ⟨⟨x1, str_eqJ _ _ ?_⟩, ⟨x3, str_eqJ _ _ ?_⟩, ?_⟩
      · rw [← hS2, hTl, x2]
      · rw [← hS3, hTl, x4]
      · rcases x5 with ⟨y1, y2⟩ | y
        · exact .inl ⟨y1, str_eqJ _ _ (by rw [← hS4, h4l, y2])⟩
        · exact .inr y
    have HSTR := Lib.hid hstr
    have HLEN := Lib.hid (And.intro hlen hTs)
    clear hstr hlaw HBK hnz hE2 hE3 hE4 hS2 hS3 hS4 h3l h4l hTl hTA hA h0 hlen hTs
    obtain ⟨n, hn⟩ : ∃ n, b.length = n := ⟨_, rfl⟩
    rw [hn] at hcv hl HLEN ⊢
    go_enter Tryd.func4, Tryd.ntmps4
    go_upto_region 3 with (go_at_call 8; refine CA.mono ?_; rintro e w1 ⟨rfl, hb1⟩)
    have hcv1 := hcv.out w1 hb1
    have D1 := C1.out w1 hb1
    go_upto_region 6 with (go_at_call 9; refine D1.mono ?_; rintro e w2 ⟨rfl, hb2⟩)
    have hw2 := hb1.trans (hb2.mono hb1.size)
    have D2 := C2.out w2 hw2
    clear D1 hcv1 C1 hcv CA
    go_upto_region 7 with (go_at_call 9; refine D2.mono ?_; rintro e w3 ⟨rfl, hb3⟩)
    have hw3 := hw2.trans (hb3.mono hw2.size)
    have D3 := C3.out w3 hw3
    clear D2 C2
    go_upto_region 8 with (go_at_call 9; refine D3.mono ?_; rintro e w4 ⟨rfl, hb4⟩)
    have hw4 := hw3.trans (hb4.mono hw3.size)
    have D4 := C4.out w4 hw4
    clear D3 C3
    go_upto_region 9 with (go_at_call 9; refine D4.mono ?_; rintro e w5 ⟨rfl, hb5⟩)
    have HW := Lib.hid (hw4.trans (hb5.mono hw4.size))
    clear D4 C4 hb1 hb2 hb3 hb4 hb5 hw2 hw3 hw4 HT
    obtain ⟨hlen, hTs⟩ := HLEN.out
    have d2 : decide (6 * (n : Int) < (T.size : Int)) = false := decide_eq_false (by omega)
    by_cases h16 : 16000 < A.length
    · have d1 : decide ((16000 : Int) < (T.size : Int)) = true := decide_eq_true (by omega)
      have d3 : decide ((T.size : Int) ≤ 6 * (n : Int)) = true := decide_eq_true (by omega)
      clear hlen hTs
      go_wp2
      go_ret
      exact ⟨rfl, HW.out⟩
    · have d1 : decide ((16000 : Int) < (T.size : Int)) = false := decide_eq_false (by omega)
      obtain ⟨⟨x1, x2⟩, ⟨x3, x4⟩, x5⟩ := HSTR.out (by omega)
      clear hlen hTs
      subst x1
      subst x3
      rcases x5 with ⟨y1, y2⟩ | y
      · subst y1
        go_wp2
        go_ret
        exact ⟨rfl, HW.out⟩
      · subst y
        go_wp2
        go_ret
        exact ⟨rfl, HW.out⟩
  · have hA0 := hnz h0
    rw [hA0] at C1
    obtain ⟨E, hE⟩ : ∃ E, parseE b = E := ⟨_, rfl⟩
    rw [hE] at C1 h0
    have hne : (E != 0) = true := by simpa using h0
    clear hA hlen HBK hnz hA0 hE h0 hT
    obtain ⟨n, hn⟩ : ∃ n, b.length = n := ⟨_, rfl⟩
    rw [hn] at hcv hl ⊢
    go_enter Tryd.func4, Tryd.ntmps4
    go_upto_region 3 with (go_at_call 8; refine CA.mono ?_; rintro e w1 ⟨rfl, hb1⟩)
    have hcv1 := hcv.out w1 hb1
    have D1 := C1.out w1 hb1
    have HB1 := Lib.hid hb1
    clear C1 hcv CA hb1
    go_wp2_with (go_at_call 9; refine D1.mono ?_; rintro e w2 ⟨rfl, hb2⟩)
    go_ret
    exact ⟨rfl, HB1.out.trans (hb2.mono HB1.out.size)⟩
end Go.Proofs.YtljnbbdhmlfhjaaDoor
