/-
  The law JsonStrings: its walk.
-/
import Derived.Test.YtljnbbdhmlfhjaaDoorJnB
import Derived.Test.YtljnbbdhmlfhjaaDoorJsLd
import Derived.Test.YtljnbbdhmlfhjaaDoorJfOne
import Derived.Lib.QuietBelow
namespace Go.Proofs.YtljnbbdhmlfhjaaDoor
open Go.RowKit
theorem nslice_eq (a b : ByteArray) (h : a.data.toList = b.data.toList) : (a.toList == b.toList) = true := by
  rw [beq_iff_eq, ByteArray.toList_eq, ByteArray.toList_eq, h]
theorem form_pair (s : Bs) : formJ (.obj [(s, .str s)]) = 123 :: (quote s ++ 58 :: (quote s ++ [125])) := by
  simp [formJ, formM, formU, formE]
theorem ba_of (x : ByteArray) : (⟨x.data.toList.toArray⟩ : ByteArray) = x := by
  apply ByteArray.ext
  simp
set_option maxRecDepth 100000 in
set_option maxHeartbeats 40000000 in
theorem strings_walk22 (s : ByteArray) (w : World) (hT : Tabs w) (hs : s.size ≤ 1048576) :
    Calls Tryd.prog 6 #[.string s] w fun e w' => e = .returned (.bool true) ∧ Below w.heap.size w w' := by
  have CA := law22_awake w hT
  obtain ⟨b, hb⟩ : ∃ b, s.data.toList = b := ⟨_, rfl⟩
  have hbs : b.length = s.size := by rw [← hb]; simp [ByteArray.size_data]
  have hsb : (⟨b.toArray⟩ : ByteArray) = s := hb ▸ ba_of s
  have hql := quote_len b
  have hfl : (formJ (.obj [(b, .str b)])).length = 2 * (quote b).length + 3 := by rw [form_pair]; simp only [List.length_cons, List.length_append, List.length_nil]; omega
  have HT := Lib.hid (fun W (hW : Below w.heap.size w W) => Utf8Tabs_below hT hW)
  have CW1 := Lib.hid (fun W (hW : Below w.heap.size w W) => (show Calls Tryd.prog 12 #[.iface 9 (.string s)] W (Written W (.str b)) from
    js_Write (.str b) trivial (fun _ => False) _ W (HT.out W hW) (by rw [← hsb]; rfl) (fun _ h => h.elim) (by show 6 * (quote b).length + 2 ≤ _; omega)))
  have CW2 := Lib.hid (fun W (hW : Below w.heap.size w W) => (show Calls Tryd.prog 12 #[.iface 34 (.slice (some ⟨W.heap.size, 0, none⟩) 1 1)] (W.alloc (.cells #[.string s, .iface 9 (.string s)] 32)) (Written (W.alloc (.cells #[.string s, .iface 9 (.string s)] 32)) (.obj [(b, .str b)])) from by
    have hrep := rep_obj (lo := W.heap.size) (W := W) (j := .str b) (v := .iface 9 (.string s)) b (Nat.le_refl _) (by rw [← hsb]; rfl)
    rw [hsb] at hrep
    exact js_Write (.obj [(b, .str b)]) ⟨trivial, trivial⟩ _ _ _ (HT.out _ (belowAJ hW hW.size)) hrep (fun k hk => hk.2) (by omega)))
  have CV := Lib.hid (fun W (hW : Below w.heap.size w W) => utf_Valid s W (by unfold maxLen; omega) (HT.out W hW))
  have hok1 : okW 0 (.str b) = Lib.validD b := rfl
  have hok2 : okW 0 (.obj [(b, .str b)]) = Lib.validD b := by
    simp only [okW, okWM, okWE]
    cases Lib.validD b <;> rfl
  rw [hb] at CV
  obtain ⟨V, hV⟩ : ∃ V, Lib.validD b = V := ⟨_, rfl⟩
  rw [hV] at hok1 hok2 CV
  have HV := Lib.hid hV
  clear hT hV
  cases V with
  | false =>
    have CN1 := Lib.hid (fun W (hW : Below w.heap.size w W) => ((CW1.out W hW).mono (fun e w' ⟨h1, h2⟩ => by
      rw [if_neg (by rw [hok1]; exact Bool.false_ne_true)] at h2
      exact ⟨h2, h1⟩) : Calls Tryd.prog 12 #[.iface 9 (.string s)] W fun e w' => e = .returned (.tuple #[.slice none 0 0, .int .i64 1]) ∧ Below W.heap.size W w'))
    have CN2 := Lib.hid (fun W (hW : Below w.heap.size w W) => ((CW2.out W hW).mono (fun e w' ⟨h1, h2⟩ => by
      rw [if_neg (by rw [hok2]; exact Bool.false_ne_true)] at h2
      exact ⟨h2, (belowAJ (Below.refl _ _) (Nat.le_refl _)).trans (h1.mono (by simp))⟩) : Calls Tryd.prog 12 #[.iface 34 (.slice (some ⟨W.heap.size, 0, none⟩) 1 1)] (W.alloc (.cells #[.string s, .iface 9 (.string s)] 32)) fun e w' => e = .returned (.tuple #[.slice none 0 0, .int .i64 1]) ∧ Below W.heap.size W w'))
    clear CW1 CW2 hok1 hok2 hb hbs hsb hql hfl hs
    go_enter Tryd.func6, Tryd.ntmps6
    go_upto_region 3 with (go_at_call 8; refine CA.mono ?_; rintro e w1 ⟨rfl, hb1⟩)
    have D1 := CN1.out w1 hb1
    go_upto_region 4 with (go_at_call 12; refine D1.mono ?_; rintro e w2 ⟨rfl, hb2⟩)
    have hw2 := hb1.trans (hb2.mono hb1.size)
    have D2 := CN2.out w2 hw2
    clear D1
    go_upto_region 5 with (go_at_call 12; refine D2.mono ?_; rintro e w3 ⟨rfl, hb3⟩)
    have hw3 := hw2.trans (hb3.mono hw2.size)
    have D3 := CV.out w3 hw3
    clear D2 CA
    go_wp2_with (go_at_call 13; refine D3.mono ?_; rintro e w4 ⟨rfl, hb4⟩)
    go_ret
    exact ⟨rfl, hw3.trans (hb4.mono hw3.size)⟩
  | true =>
    have q1l : (quote b).length ≤ 6291460 := by omega
    have CN1 := Lib.hid (fun W (hW : Below w.heap.size w W) => ((CW1.out W hW).mono (fun e w' ⟨h1, h2⟩ => by
      rw [if_pos hok1] at h2
      obtain ⟨v3, h3, h4⟩ := h2
      have h4' := h4
      obtain ⟨_, a3, c3, rfl, -⟩ := h4
      exact ⟨a3, c3, h3, h4', h1⟩) : Calls Tryd.prog 12 #[.iface 9 (.string s)] W fun e w' => ∃ a3 c3, e = .returned (.tuple #[.slice a3 (formJ (.str b)).length c3, .int .i64 0]) ∧ argRow w' (.slice a3 (formJ (.str b)).length c3) (formJ (.str b)).length 1 ((formJ (.str b)).map bCell) ∧ Below W.heap.size W w'))
    have CN2 := Lib.hid (fun W (hW : Below w.heap.size w W) => ((CW2.out W hW).mono (fun e w' ⟨h1, h2⟩ => by
      rw [if_pos hok2] at h2
      obtain ⟨v3, h3, h4⟩ := h2
      have h4' := h4
      obtain ⟨_, a3, c3, rfl, -⟩ := h4
      exact ⟨a3, c3, h3, h4', (belowAJ (Below.refl _ _) (Nat.le_refl _)).trans (h1.mono (by simp))⟩) : Calls Tryd.prog 12 #[.iface 34 (.slice (some ⟨W.heap.size, 0, none⟩) 1 1)] (W.alloc (.cells #[.string s, .iface 9 (.string s)] 32)) fun e w' => ∃ a3 c3, e = .returned (.tuple #[.slice a3 (formJ (.obj [(b, .str b)])).length c3, .int .i64 0]) ∧ argRow w' (.slice a3 (formJ (.obj [(b, .str b)])).length c3) (formJ (.obj [(b, .str b)])).length 1 ((formJ (.obj [(b, .str b)])).map bCell) ∧ Below W.heap.size W w'))
    have CQ := Lib.hid (fun W => ref_Quote s W (by omega))
    rw [hb] at CQ
    have HP1 := Lib.hid (fun (h : (formJ (.str b)).length ≤ 16384) => (parse_form (j := .str b) HV.out h).1 (Nat.zero_le _))
    have HP2 := Lib.hid (fun (h : (formJ (.obj [(b, .str b)])).length ≤ 16384) => (parse_form (j := .obj [(b, .str b)]) ⟨⟨HV.out, HV.out⟩, trivial⟩ h).1 (by simp [deepJ, deepM, deepE]))
    obtain ⟨F1, hF1⟩ : ∃ F, formJ (.str b) = F := ⟨_, rfl⟩
    obtain ⟨F2, hF2⟩ : ∃ F, formJ (.obj [(b, .str b)]) = F := ⟨_, rfl⟩
    have hF1q : F1 = quote b := hF1.symm
    obtain ⟨Q, hQ⟩ : ∃ Q : ByteArray, (⟨(quote b).toArray⟩ : ByteArray) = Q := ⟨_, rfl⟩
    have hQs : Q.size = (quote b).length := (congrArg ByteArray.size hQ).symm
    have hQd : Q.data.toList = quote b := by rw [← hQ]
    rw [hQ] at CQ
    have hF2q : (⟨#[123]⟩ ++ Q ++ ⟨#[58]⟩ ++ Q ++ ⟨#[125]⟩ : ByteArray).data.toList = F2 := by
      rw [← hF2, form_pair]
      simp [ByteArray.data_append, hQd]
    rw [hF1] at CN1 HP1
    rw [hF2] at CN2 HP2
    rw [hF2] at hfl
    have hl1 : F1.length = (quote b).length := by rw [hF1q]
    have t1 : Q.size ≤ 6291460 := by omega
    have t2 : (⟨#[123]⟩ ++ Q : ByteArray).size ≤ 6291461 := by rw [ByteArray.size_append, show (⟨#[123]⟩ : ByteArray).size = 1 from rfl]; omega
    have t3 : (⟨#[123]⟩ ++ Q ++ ⟨#[58]⟩ : ByteArray).size ≤ 6291462 := by rw [ByteArray.size_append, show (⟨#[58]⟩ : ByteArray).size = 1 from rfl]; omega
    have t4 : (⟨#[123]⟩ ++ Q ++ ⟨#[58]⟩ ++ Q : ByteArray).size ≤ 12582922 := by rw [ByteArray.size_append]; omega
    have e1 : ((⟨F1.toArray⟩ : ByteArray).toList == Q.toList) = true := nslice_eq _ _ (by rw [hQd, hF1q])
    have e2 : ((⟨F2.toArray⟩ : ByteArray).toList == (⟨#[123]⟩ ++ Q ++ ⟨#[58]⟩ ++ Q ++ ⟨#[125]⟩ : ByteArray).toList) = true := nslice_eq _ _ (by rw [hF2q])
    obtain ⟨B1, hB1⟩ : ∃ B : ByteArray, (⟨F1.toArray⟩ : ByteArray) = B := ⟨_, rfl⟩
    obtain ⟨B2, hB2⟩ : ∃ B : ByteArray, (⟨F2.toArray⟩ : ByteArray) = B := ⟨_, rfl⟩
    rw [hB1] at e1
    rw [hB2] at e2
    have HB1 := Lib.hid hB1
    have HB2 := Lib.hid hB2
    have HL := Lib.hid (And.intro hl1 hfl)
    have HSB := Lib.hid (And.intro hb hsb)
    clear CW1 CW2 hok1 hok2 hb hbs hsb hql hfl hs hF1 hF2 hF1q hF2q hQ hQs hQd hl1 hB1 hB2
    go_enter Tryd.func6, Tryd.ntmps6
    go_upto_region 3 with (go_at_call 8; refine CA.mono ?_; rintro e w1 ⟨rfl, hb1⟩)
    have D1 := CN1.out w1 hb1
    go_upto_region 4 with (go_at_call 12; refine D1.mono ?_; rintro e w2 ⟨a2, c2, rfl, hr2, hb2⟩)
    have hw2 := hb1.trans (hb2.mono hb1.size)
    have D2 := CN2.out w2 hw2
    clear D1
    go_upto_region 5 with (go_at_call 12; refine D2.mono ?_; rintro e w3 ⟨a3, c3, rfl, hr3, hb3⟩)
    have hw3 := hw2.trans (hb3.mono hw2.size)
    have D3 := CV.out w3 hw3
    have HR3 := Lib.hid (And.intro (argRow_below hr2 hb3) hr3)
    clear D2 CA hr2 hr3
    go_upto_region 7 with (go_at_call 13; refine D3.mono ?_; rintro e w4 ⟨rfl, hb4⟩)
    have hw4 := hw3.trans (hb4.mono hw3.size)
    have HR4 := Lib.hid (And.intro (argRow_below HR3.out.1 hb4) (argRow_below HR3.out.2 hb4))
    have HW4 := Lib.hid hw4
    clear D3 HR3 hb1 hb2 hb3 hb4 hw2 hw3 hw4
    have cv2 := fun d os => conv_arg (argRow_below HR4.out.1 (below_regrown w4 d os))
    have cv3 := fun d os => conv_arg (argRow_below HR4.out.2 (below_regrown w4 d os))
    rw [HB1.out] at cv2
    rw [HB2.out] at cv3
    have dQ : ∀ d os, Calls Tryd.prog 14 #[.string s] (Sort.grow (redrawn w4 d) os) fun e w'' => e = .returned (.string Q) ∧ ∃ p : Regrown, w'' = Sort.grow (redrawn w4 p.d) p.os := fun d os => Calls.regrown_of (CQ.out _)
    refine wp_region_quiet_below (by kernel_rfl) (by kernel_rfl) ?_
    repeat (go_big_quiet_step (first | with_reducible exact dQ _ _))
    refine wpQuiet_nil ?_
    intro _ hw'
    obtain ⟨⟨dq, osq⟩, hw''⟩ := hw'
    subst hw''
    have hbq := below_regrown w4 dq osq
    have HR5 := Lib.hid (And.intro (argRow_below HR4.out.1 hbq) (argRow_below HR4.out.2 hbq))
    have HW5 := Lib.hid (HW4.out.trans (hbq.mono HW4.out.size))
    clear cv2 cv3 dQ hbq HR4 HW4 e1 e2 t1 t2 t3 t4
    obtain ⟨w5, hw5⟩ : ∃ w5, Sort.grow (redrawn w4 dq) osq = w5 := ⟨_, rfl⟩
    rw [hw5] at HR5 HW5 ⊢
    clear hw5
    by_cases h16 : 16384 < F2.length
    · have d1 : decide ((16384 : Int) < (F2.length : Int)) = true := decide_eq_true (by omega)
      go_wp2
      go_ret
      exact ⟨rfl, HW5.out⟩
    · have d1 : decide ((16384 : Int) < (F2.length : Int)) = false := decide_eq_false (by omega)
      have hl1 : F1.length ≤ 16384 := by obtain ⟨h1, h2⟩ := HL.out; omega
      obtain ⟨pe1, pj1, -⟩ := HP1.out hl1
      obtain ⟨pe2, pj2, -⟩ := HP2.out (by omega)
      have CP1 : Calls Tryd.prog 11 #[.slice a2 F1.length c2] w5 fun e w' => e = .returned (.tuple #[.iface 9 (.string s), .int .i64 0]) ∧ Below w5.heap.size w5 w' := by
        refine (js_Parse _ F1 w5 (HT.out w5 HW5.out) HR5.out.1).mono ?_
        rintro e w' ⟨v, h1, h2, h3⟩
        rw [pe1] at h1
        rw [pj1] at h2
        have hv : v = .iface 9 (.string ⟨b.toArray⟩) := h2
        rw [HSB.out.2] at hv
        exact ⟨by rw [h1, hv], h3⟩
      have CP2 := Lib.hid (fun W (hW : Below w5.heap.size w5 W) => ((js_Parse _ F2 W (HT.out W (HW5.out.trans (hW.mono HW5.out.size))) (argRow_below HR5.out.2 hW)).mono (fun e w' ⟨v, h1, h2, h3⟩ => by
        rw [pe2] at h1
        rw [pj2] at h2
        exact ⟨v, h1, h2, h3⟩) : Calls Tryd.prog 11 #[.slice a3 F2.length c3] W fun e w' => ∃ v, e = .returned (.tuple #[v, .int .i64 0]) ∧ RepJ w' (Nw W.heap.size w') (.obj [(b, .str b)]) v ∧ Below W.heap.size W w'))
      have CT := Lib.hid (fun W => (show Calls Tryd.prog 15 #[.iface 9 (.string s)] W fun e w' => e = .returned (.tuple #[.string s, .bool true]) ∧ w' = W from by
        have h := js_Text (.str b) (fun _ => False) (.iface 9 (.string s)) W (by rw [← HSB.out.2]; rfl)
        rw [show (textJ (.str b)).1 = b from rfl, HSB.out.2] at h
        exact h))
      clear HP1 HP2
      go_upto_region 12 with (go_at_call 11; refine CP1.mono ?_; rintro e w6 ⟨rfl, hb6⟩)
      have CP2' := CP2.out w6 hb6
      clear CP1 CP2
      go_upto_region 13 with (go_at_call 11; refine CP2'.mono ?_; rintro e w7 ⟨v7, rfl, hr7, hb7⟩; have H7 := Lib.hid hr7; clear hr7)
      have hb57 := hb6.trans (hb7.mono hb6.size)
      have CG := js_Get (.obj [(b, .str b)]) (Nw w6.heap.size w7) v7 s w7 H7.out (fun k hk => hk.2) (by have := HL.out.2; have := HL.out.1; rw [form_pair]; simp only [List.length_cons, List.length_append, List.length_nil]; omega)
      have hgf : getJ s.data.toList (.obj [(b, .str b)]) = some (.str b) := by rw [HSB.out.1]; simp [getJ, findM]
      rw [hgf] at CG
      have CG' : Calls Tryd.prog 16 #[v7, .string s] w7 fun e w' => e = .returned (.tuple #[.iface 9 (.string s), .bool true]) ∧ Below w7.heap.size w7 w' := by
        refine CG.mono ?_
        rintro e w' ⟨u, h1, h2, h3⟩
        have hu : u = .iface 9 (.string ⟨b.toArray⟩) := h3
        rw [HSB.out.2] at hu
        exact ⟨by rw [h1, hu]; rfl, h2⟩
      clear CG hgf CP2' hb6 hb7
      go_wp2_with (first | (go_at_call 15; refine (CT.out _).mono ?_; rintro e w8 ⟨rfl, rfl⟩) | (go_at_call 16; refine CG'.mono ?_; rintro e w9 ⟨rfl, hb9⟩; have H9 := Lib.hid hb9; clear hb9))
      go_ret
      exact ⟨rfl, HW5.out.trans ((hb57.trans (H9.out.mono hb57.size)).mono HW5.out.size)⟩
end Go.Proofs.YtljnbbdhmlfhjaaDoor
