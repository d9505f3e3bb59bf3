/-
  The program's JSON parser: value.
-/
import Derived.Test.YtljnbbdhmlfhjaaDoorJsI
import Derived.Test.YtljnbbdhmlfhjaaDoorJsOne
namespace Go.Proofs.YtljnbbdhmlfhjaaDoor
open Go.RowKit
theorem headN_beq (S : Bs) (c : UInt8) (z : Int) (hz : z = c.toNat) (hc : 0 < c.toNat) : ((headN S : Int) == z) = decide (S.head? = some c) := by
  subst hz
  cases S with
  | nil =>
    have : ((0 : Nat) : Int) ≠ (c.toNat : Int) := by omega
    simp [headN, this]
    omega
  | cons d S =>
    rw [Bool.eq_iff_iff]
    simp only [headN, beq_iff_eq, List.head?_cons, Option.some.injEq, decide_eq_true_eq]
    exact ⟨fun h => UInt8.toNat_inj.1 (by omega), fun h => by rw [h]⟩
theorem JS.setDeep {w : World} {p : Nat} {s : Bs} {deep most : Nat} (h : JS w p s deep most) (d : Nat) (z : Int) (hz : z = (d : Int)) : JS (w.setCell ⟨p, 1, none⟩ (.int .i64 z)) p s d most ∧ w.grownBy (w.setCell ⟨p, 1, none⟩ (.int .i64 z)) (some p) := by
  subst hz
  obtain ⟨sv, h⟩ := h
  have hg := gset w p 1 (.int .i64 (d : Int))
  refine ⟨⟨sv, ?_, fun W hW => h.row W (Below.trans (grown_low hg (Nat.le_of_lt h.lt)) hW)⟩, hg⟩
  rw [heap_setCell_same _ _ _ _ _ _ h.own]
  rfl
theorem JS.setMost {w : World} {p : Nat} {s : Bs} {deep most : Nat} (h : JS w p s deep most) (d : Nat) (z : Int) (hz : z = (d : Int)) : JS (w.setCell ⟨p, 2, none⟩ (.int .i64 z)) p s deep d ∧ w.grownBy (w.setCell ⟨p, 2, none⟩ (.int .i64 z)) (some p) := by
  subst hz
  obtain ⟨sv, h⟩ := h
  have hg := gset w p 2 (.int .i64 (d : Int))
  refine ⟨⟨sv, ?_, fun W hW => h.row W (Below.trans (grown_low hg (Nat.le_of_lt h.lt)) hW)⟩, hg⟩
  rw [heap_setCell_same _ _ _ _ _ _ h.own]
  rfl
theorem val_fin {p : Nat} {w W W' : World} {j : J} {r' : Bs} {deep most m : Nat} {v : Value} (hpw : p < w.heap.size) (hg : w.grownBy W (some p)) (hrep : RepJ W (Nw w.heap.size W) j v) (hj' : JS W' p r' deep m) (hg' : W.grownBy W' (some p)) (hm : m = max most (deep + deepJ j)) :
    ValR p w deep most (some (j, r')) (.returned v) W' := by
  subst hm
  refine ⟨v, rfl, hj', hg.trans hg', RepJ.to (fun k hk => ?_) j v hrep⟩
  obtain ⟨h1, h2⟩ := hk
  have := hg'.size
  exact ⟨⟨h1, by omega⟩, fun _ => hg'.block k h2 (fun e => by cases e; omega)⟩
theorem arr_deep (val : Bs → Option (J × Bs)) (s : Bs) (j : J) (r : Bs) (h : arrP val s = some (j, r)) : 1 ≤ deepJ j := by
  unfold arrP at h
  split at h
  · cases h; simp only [deepJ]; omega
  · split at h
    · cases h
    · cases h; simp only [deepJ]; omega
theorem obj_deep (val : Bs → Option (J × Bs)) (s : Bs) (j : J) (r : Bs) (h : objP val s = some (j, r)) : 1 ≤ deepJ j := by
  unfold objP at h
  split at h
  · cases h; simp only [deepJ]; omega
  · split at h
    · cases h
    · cases h; simp only [deepJ]; omega
set_option maxRecDepth 100000 in
set_option maxHeartbeats 40000000 in
theorem js_value (k : Nat) (hIH : ∀ k', k = k' + 1 → Reads (valP k) k') : Reads (valP (k + 1)) k := by
  intro p w s deep most hsk hs2 h hdm hd
  have hpw := h.lt
  have C1 := js_space p w s deep most h
  have hsl := sp_len s
  obtain ⟨S, hS⟩ : ∃ S, sp s = S := ⟨_, rfl⟩
  have hv : valP (k + 1) s = spR (barP (valP k) S) := by rw [valP, hS]
  rw [hv]
  rw [hS] at C1 hsl
  have CSP := Lib.hid (fun W s' m' (hW : JS W p s' deep m') => js_space p W s' deep m' hW)
  have CPK := Lib.hid (fun W (hW : JS W p S deep most) => js_peek p W S deep most hW)
  have e110 := headN_beq S 110 110 rfl (by decide)
  have e116 := headN_beq S 116 116 rfl (by decide)
  have e102 := headN_beq S 102 102 rfl (by decide)
  have e34 := headN_beq S 34 34 rfl (by decide)
  have e91 := headN_beq S 91 91 rfl (by decide)
  have e123 := headN_beq S 123 123 rfl (by decide)
  clear h hS hv
  by_cases h1 : S.head? = some 110
  · have hb : barP (valP k) S = wordP nullB .nul S := by unfold barP; rw [if_pos h1]
    rw [hb]
    rw [decide_eq_true h1] at e110
    have CW := Lib.hid (fun W (hW : JS W p S deep most) => js_word p W S deep most ⟨#[110, 117, 108, 108]⟩ .nilIface .nul (by decide) (by decide) hW)
    rw [show (⟨#[110, 117, 108, 108]⟩ : ByteArray).data.toList = nullB from rfl] at CW
    clear e116 e102 e34 e91 e123 hb h1
    generalize (headN S : Int) = x at *
    cases hr : wordP nullB .nul S with
    | none =>
      rw [hr] at CW
      go_enter Tryd.func23, Tryd.ntmps23
      go_wp2_with (first | (go_at_call 38; refine C1.mono ?_; rintro e w2 ⟨rfl, hj2, hg2⟩; have H2 := Lib.hid (And.intro hj2 hg2); clear hj2 hg2) | (go_at_call 39; refine (CPK.out _ H2.out.1).mono ?_; rintro e w3 ⟨rfl, rfl⟩) | (go_at_call 40; refine (CW.out _ H2.out.1).mono ?_; rintro e w4 ⟨rfl, hg4⟩))
      exact ⟨rfl, rfl, H2.out.2.trans hg4⟩
    | some y =>
      obtain ⟨j, r⟩ := y
      obtain ⟨-, rfl⟩ := word_inv _ _ _ _ _ hr
      rw [hr] at CW
      go_enter Tryd.func23, Tryd.ntmps23
      go_upto_region 25 with (first | (go_at_call 38; refine C1.mono ?_; rintro e w2 ⟨rfl, hj2, hg2⟩; have H2 := Lib.hid (And.intro hj2 hg2); clear hj2 hg2) | (go_at_call 39; refine (CPK.out _ H2.out.1).mono ?_; rintro e w3 ⟨rfl, rfl⟩) | (go_at_call 40; refine (CW.out _ H2.out.1).mono ?_; rintro e w4 ⟨rfl, hj4, hg4⟩; have H4 := Lib.hid (And.intro hj4 hg4); clear hj4 hg4))
      have C2 := CSP.out w4 _ _ H4.out.1
      go_wp2_with (go_at_call 38; refine C2.mono ?_; rintro e w5 ⟨rfl, hj5, hg5⟩; have H5 := Lib.hid (And.intro hj5 hg5); clear hj5 hg5)
      go_ret
      exact val_fin hpw (H2.out.2.trans H4.out.2) rfl H5.out.1 H5.out.2 (by simp only [deepJ]; omega)
  by_cases h2 : S.head? = some 116
  · have hb : barP (valP k) S = wordP trueB (.bool true) S := by unfold barP; rw [if_neg h1, if_pos h2]
    rw [hb]
    rw [decide_eq_true h2] at e116
    rw [decide_eq_false h1] at e110
    have CW := Lib.hid (fun W (hW : JS W p S deep most) => js_word p W S deep most ⟨#[116, 114, 117, 101]⟩ (.iface 4 (.bool true)) (.bool true) (by decide) (by decide) hW)
    rw [show (⟨#[116, 114, 117, 101]⟩ : ByteArray).data.toList = trueB from rfl] at CW
    clear e102 e34 e91 e123 hb h1 h2
    generalize (headN S : Int) = x at *
    cases hr : wordP trueB (.bool true) S with
    | none =>
      rw [hr] at CW
      go_enter Tryd.func23, Tryd.ntmps23
      go_wp2_with (first | (go_at_call 38; refine C1.mono ?_; rintro e w2 ⟨rfl, hj2, hg2⟩; have H2 := Lib.hid (And.intro hj2 hg2); clear hj2 hg2) | (go_at_call 39; refine (CPK.out _ H2.out.1).mono ?_; rintro e w3 ⟨rfl, rfl⟩) | (go_at_call 40; refine (CW.out _ H2.out.1).mono ?_; rintro e w4 ⟨rfl, hg4⟩))
      exact ⟨rfl, rfl, H2.out.2.trans hg4⟩
    | some y =>
      obtain ⟨j, r⟩ := y
      obtain ⟨-, rfl⟩ := word_inv _ _ _ _ _ hr
      rw [hr] at CW
      go_enter Tryd.func23, Tryd.ntmps23
      go_upto_region 25 with (first | (go_at_call 38; refine C1.mono ?_; rintro e w2 ⟨rfl, hj2, hg2⟩; have H2 := Lib.hid (And.intro hj2 hg2); clear hj2 hg2) | (go_at_call 39; refine (CPK.out _ H2.out.1).mono ?_; rintro e w3 ⟨rfl, rfl⟩) | (go_at_call 40; refine (CW.out _ H2.out.1).mono ?_; rintro e w4 ⟨rfl, hj4, hg4⟩; have H4 := Lib.hid (And.intro hj4 hg4); clear hj4 hg4))
      have C2 := CSP.out w4 _ _ H4.out.1
      go_wp2_with (go_at_call 38; refine C2.mono ?_; rintro e w5 ⟨rfl, hj5, hg5⟩; have H5 := Lib.hid (And.intro hj5 hg5); clear hj5 hg5)
      go_ret
      exact val_fin hpw (H2.out.2.trans H4.out.2) rfl H5.out.1 H5.out.2 (by simp only [deepJ]; omega)
  by_cases h3 : S.head? = some 102
  · have hb : barP (valP k) S = wordP falseB (.bool false) S := by unfold barP; rw [if_neg h1, if_neg h2, if_pos h3]
    rw [hb]
    rw [decide_eq_true h3] at e102
    rw [decide_eq_false h1] at e110
    rw [decide_eq_false h2] at e116
    have CW := Lib.hid (fun W (hW : JS W p S deep most) => js_word p W S deep most ⟨#[102, 97, 108, 115, 101]⟩ (.iface 4 (.bool false)) (.bool false) (by decide) (by decide) hW)
    rw [show (⟨#[102, 97, 108, 115, 101]⟩ : ByteArray).data.toList = falseB from rfl] at CW
    clear e34 e91 e123 hb h1 h2 h3
    generalize (headN S : Int) = x at *
    cases hr : wordP falseB (.bool false) S with
    | none =>
      rw [hr] at CW
      go_enter Tryd.func23, Tryd.ntmps23
      go_wp2_with (first | (go_at_call 38; refine C1.mono ?_; rintro e w2 ⟨rfl, hj2, hg2⟩; have H2 := Lib.hid (And.intro hj2 hg2); clear hj2 hg2) | (go_at_call 39; refine (CPK.out _ H2.out.1).mono ?_; rintro e w3 ⟨rfl, rfl⟩) | (go_at_call 40; refine (CW.out _ H2.out.1).mono ?_; rintro e w4 ⟨rfl, hg4⟩))
      exact ⟨rfl, rfl, H2.out.2.trans hg4⟩
    | some y =>
      obtain ⟨j, r⟩ := y
      obtain ⟨-, rfl⟩ := word_inv _ _ _ _ _ hr
      rw [hr] at CW
      go_enter Tryd.func23, Tryd.ntmps23
      go_upto_region 25 with (first | (go_at_call 38; refine C1.mono ?_; rintro e w2 ⟨rfl, hj2, hg2⟩; have H2 := Lib.hid (And.intro hj2 hg2); clear hj2 hg2) | (go_at_call 39; refine (CPK.out _ H2.out.1).mono ?_; rintro e w3 ⟨rfl, rfl⟩) | (go_at_call 40; refine (CW.out _ H2.out.1).mono ?_; rintro e w4 ⟨rfl, hj4, hg4⟩; have H4 := Lib.hid (And.intro hj4 hg4); clear hj4 hg4))
      have C2 := CSP.out w4 _ _ H4.out.1
      go_wp2_with (go_at_call 38; refine C2.mono ?_; rintro e w5 ⟨rfl, hj5, hg5⟩; have H5 := Lib.hid (And.intro hj5 hg5); clear hj5 hg5)
      go_ret
      exact val_fin hpw (H2.out.2.trans H4.out.2) rfl H5.out.1 H5.out.2 (by simp only [deepJ]; omega)
  by_cases h4 : S.head? = some 34
  · have hb : barP (valP k) S = strP S := by unfold barP; rw [if_neg h1, if_neg h2, if_neg h3, if_pos h4]
    rw [hb]
    rw [decide_eq_true h4] at e34
    rw [decide_eq_false h1] at e110
    rw [decide_eq_false h2] at e116
    rw [decide_eq_false h3] at e102
    have CW := Lib.hid (fun W (hW : JS W p S deep most) => js_text p W S deep most hW (by omega))
    clear e91 e123 hb h1 h2 h3 h4
    generalize (headN S : Int) = x at *
    cases hr : textP S with
    | none =>
      have hsp : strP S = none := by unfold strP; rw [hr]
      rw [hsp]
      rw [hr] at CW
      go_enter Tryd.func23, Tryd.ntmps23
      go_wp2_with (first | (go_at_call 38; refine C1.mono ?_; rintro e w2 ⟨rfl, hj2, hg2⟩; have H2 := Lib.hid (And.intro hj2 hg2); clear hj2 hg2) | (go_at_call 39; refine (CPK.out _ H2.out.1).mono ?_; rintro e w3 ⟨rfl, rfl⟩) | (go_at_call 41; refine (CW.out _ H2.out.1).mono ?_; rintro e w4 ⟨rfl, hg4⟩))
      exact ⟨rfl, rfl, H2.out.2.trans hg4⟩
    | some y =>
      obtain ⟨t, r⟩ := y
      have hsp : strP S = some (.str t, r) := by unfold strP; rw [hr]
      rw [hsp]
      rw [hr] at CW
      go_enter Tryd.func23, Tryd.ntmps23
      go_upto_region 25 with (first | (go_at_call 38; refine C1.mono ?_; rintro e w2 ⟨rfl, hj2, hg2⟩; have H2 := Lib.hid (And.intro hj2 hg2); clear hj2 hg2) | (go_at_call 39; refine (CPK.out _ H2.out.1).mono ?_; rintro e w3 ⟨rfl, rfl⟩) | (go_at_call 41; refine (CW.out _ H2.out.1).mono ?_; rintro e w4 ⟨rfl, hj4, hg4⟩; have H4 := Lib.hid (And.intro hj4 hg4); clear hj4 hg4))
      have C2 := CSP.out w4 _ _ H4.out.1
      go_wp2_with (go_at_call 38; refine C2.mono ?_; rintro e w5 ⟨rfl, hj5, hg5⟩; have H5 := Lib.hid (And.intro hj5 hg5); clear hj5 hg5)
      go_ret
      exact val_fin (j := .str t) hpw (H2.out.2.trans H4.out.2) rfl H5.out.1 H5.out.2 (by simp only [deepJ]; omega)
  by_cases h5 : S.head? = some 91
  · have hb : barP (valP k) S = arrP (valP k) (S.drop 1) := by unfold barP; rw [if_neg h1, if_neg h2, if_neg h3, if_neg h4, if_pos h5]
    rw [hb]
    rw [decide_eq_true h5] at e91
    rw [decide_eq_false h1] at e110
    rw [decide_eq_false h2] at e116
    rw [decide_eq_false h3] at e102
    rw [decide_eq_false h4] at e34
    obtain ⟨S', hS'⟩ : ∃ S', S = 91 :: S' := ⟨_, head_cons h5⟩
    have hdr : S.drop 1 = S' := by rw [hS']; rfl
    rw [hdr]
    have hlS := congrArg List.length hS'
    rw [List.length_cons] at hlS
    obtain ⟨k', rfl⟩ : ∃ k', k = k' + 1 := ⟨k - 1, by omega⟩
    have IH := hIH k' rfl
    have CW := Lib.hid (fun W m (hm : deep + 1 ≤ m) (hW : JS W p S (deep + 1) m) => js_array (valP (k' + 1)) k' (val_rdg _) IH p W S' (deep + 1) m (by omega) (by omega) (hS' ▸ hW) hm (by omega))
    have hdp : ∀ j r, arrP (valP (k' + 1)) S' = some (j, r) → 1 ≤ deepJ j := arr_deep _ _
    obtain ⟨Y, hY⟩ : ∃ Y, arrP (valP (k' + 1)) S' = Y := ⟨_, rfl⟩
    rw [hY] at CW hdp ⊢
    have HDP := Lib.hid hdp
    clear e123 hb h1 h2 h3 h4 h5 hS' hdr hlS IH hIH hY hdp
    generalize (headN S : Int) = x at *
    go_enter Tryd.func23, Tryd.ntmps23
    go_upto_region 19 with (first | (go_at_call 38; refine C1.mono ?_; rintro e w2 ⟨rfl, hj2, hg2⟩; have H2 := Lib.hid (And.intro hj2 hg2); clear hj2 hg2) | (go_at_call 39; refine (CPK.out _ H2.out.1).mono ?_; rintro e w3 ⟨rfl, rfl⟩))
    obtain ⟨sv, hst⟩ := H2.out.1
    obtain ⟨⟨-, c1, c2⟩, -, f1, f2⟩ := hst.cells
    clear hst
    go_cut [] from 59 to 65 (fun wx => JS wx p S (deep + 1) most ∧ w2.grownBy wx (some p))
    case first =>
      clear CW HDP CSP CPK C1
      go_wp2
      go_meet
      exact H2.out.1.setDeep (deep + 1) _ (by omega)
    case rest =>
      have H3 := Lib.hid hcut
      obtain ⟨w3, hw3⟩ : ∃ w3 : World, w3 = wc := ⟨_, rfl⟩
      subst hw3
      clear c1 c2 f1 f2 hcut
      obtain ⟨sv, hst⟩ := H3.out.1
      obtain ⟨⟨-, c1, c2⟩, -, f1, f2⟩ := hst.cells
      clear hst
      go_upto_region 20 with fail
      go_cut [] from 66 to 77 (fun wx => JS wx p S (deep + 1) (max most (deep + 1)) ∧ w3.grownBy wx (some p))
      case first =>
        clear CW HDP CSP CPK C1
        have hdr := (Below.refl w3.heap.size w3).drew
        have hm := (H3.out.1.keptB hdr).setMost (max most (deep + 1)) (max (most : Int) ((deep + 1 : Nat) : Int)) (by omega)
        have HM := Lib.hid (And.intro hm.1 ((grown_of_below hdr (some p)).trans hm.2))
        clear hm hdr
        go_region_law (fail)
        all_goals
          go_wp2_with fail
          go_meet
          exact HM.out
      case rest =>
        have H4 := Lib.hid hcut
        obtain ⟨w4, hw4⟩ : ∃ w4 : World, w4 = wc := ⟨_, rfl⟩
        subst hw4
        clear c1 c2 f1 f2 hcut
        have CA := CW.out w4 _ (by omega) H4.out.1
        clear CW
        cases Y with
        | none =>
          go_wp2_with (go_at_call 42; refine CA.mono ?_; rintro e w5 ⟨rfl, hg5⟩)
          exact ⟨rfl, rfl, H2.out.2.trans (H3.out.2.trans (H4.out.2.trans hg5))⟩
        | some y =>
          obtain ⟨j, r⟩ := y
          go_upto_region 24 with (go_at_call 42; refine CA.mono ?_; rintro e w5 ⟨v5, rfl, hj5, hg5, hu5⟩; have H5 := Lib.hid (And.intro hj5 (And.intro hg5 hu5)); clear hj5 hg5 hu5)
          obtain ⟨sv, hst⟩ := H5.out.1
          obtain ⟨⟨-, c1, c2⟩, -, f1, f2⟩ := hst.cells
          clear hst CA
          have hd1 := HDP.out j r rfl
          have hh := H5.out.1
          rw [show max (max most (deep + 1)) (deep + 1 + (deepJ j - 1)) = max most (deep + deepJ j) by omega] at hh
          have H6 := Lib.hid (hh.setDeep deep (deep : Int) rfl)
          have C2 := Lib.hid (CSP.out _ _ _ H6.out.1)
          clear hh hd1
          go_wp2_with (go_at_call 38; refine C2.out.mono ?_; rintro e w7 ⟨rfl, hj7, hg7⟩; have H7 := Lib.hid (And.intro hj7 hg7); clear hj7 hg7)
          go_ret
          have g4 : w.grownBy w4 (some p) := H2.out.2.trans (H3.out.2.trans H4.out.2)
          exact val_fin hpw (g4.trans H5.out.2.1) (RepJ.to (fun k hk => ⟨⟨Nat.le_trans g4.size hk.1, hk.2⟩, fun _ => rfl⟩) j v5 H5.out.2.2) H7.out.1 (H6.out.2.trans H7.out.2) rfl
  by_cases h6 : S.head? = some 123
  · have hb : barP (valP k) S = objP (valP k) (S.drop 1) := by unfold barP; rw [if_neg h1, if_neg h2, if_neg h3, if_neg h4, if_neg h5, if_pos h6]
    rw [hb]
    rw [decide_eq_true h6] at e123
    rw [decide_eq_false h1] at e110
    rw [decide_eq_false h2] at e116
    rw [decide_eq_false h3] at e102
    rw [decide_eq_false h4] at e34
    rw [decide_eq_false h5] at e91
    obtain ⟨S', hS'⟩ : ∃ S', S = 123 :: S' := ⟨_, head_cons h6⟩
    have hdr : S.drop 1 = S' := by rw [hS']; rfl
    rw [hdr]
    have hlS := congrArg List.length hS'
    rw [List.length_cons] at hlS
    obtain ⟨k', rfl⟩ : ∃ k', k = k' + 1 := ⟨k - 1, by omega⟩
    have IH := hIH k' rfl
    have CW := Lib.hid (fun W m (hm : deep + 1 ≤ m) (hW : JS W p S (deep + 1) m) => js_object (valP (k' + 1)) k' (val_rdg _) IH p W S' (deep + 1) m (by omega) (by omega) (hS' ▸ hW) hm (by omega))
    have hdp : ∀ j r, objP (valP (k' + 1)) S' = some (j, r) → 1 ≤ deepJ j := obj_deep _ _
    obtain ⟨Y, hY⟩ : ∃ Y, objP (valP (k' + 1)) S' = Y := ⟨_, rfl⟩
    rw [hY] at CW hdp ⊢
    have HDP := Lib.hid hdp
    clear  hb h1 h2 h3 h4 h5 h6 hS' hdr hlS IH hIH hY hdp
    generalize (headN S : Int) = x at *
    go_enter Tryd.func23, Tryd.ntmps23
    go_upto_region 19 with (first | (go_at_call 38; refine C1.mono ?_; rintro e w2 ⟨rfl, hj2, hg2⟩; have H2 := Lib.hid (And.intro hj2 hg2); clear hj2 hg2) | (go_at_call 39; refine (CPK.out _ H2.out.1).mono ?_; rintro e w3 ⟨rfl, rfl⟩))
    obtain ⟨sv, hst⟩ := H2.out.1
    obtain ⟨⟨-, c1, c2⟩, -, f1, f2⟩ := hst.cells
    clear hst
    go_cut [] from 59 to 65 (fun wx => JS wx p S (deep + 1) most ∧ w2.grownBy wx (some p))
    case first =>
      clear CW HDP CSP CPK C1
      go_wp2
      go_meet
      exact H2.out.1.setDeep (deep + 1) _ (by omega)
    case rest =>
      have H3 := Lib.hid hcut
      obtain ⟨w3, hw3⟩ : ∃ w3 : World, w3 = wc := ⟨_, rfl⟩
      subst hw3
      clear c1 c2 f1 f2 hcut
      obtain ⟨sv, hst⟩ := H3.out.1
      obtain ⟨⟨-, c1, c2⟩, -, f1, f2⟩ := hst.cells
      clear hst
      go_upto_region 20 with fail
      go_cut [] from 66 to 77 (fun wx => JS wx p S (deep + 1) (max most (deep + 1)) ∧ w3.grownBy wx (some p))
      case first =>
        clear CW HDP CSP CPK C1
        have hdr := (Below.refl w3.heap.size w3).drew
        have hm := (H3.out.1.keptB hdr).setMost (max most (deep + 1)) (max (most : Int) ((deep + 1 : Nat) : Int)) (by omega)
        have HM := Lib.hid (And.intro hm.1 ((grown_of_below hdr (some p)).trans hm.2))
        clear hm hdr
        go_region_law (fail)
        all_goals
          go_wp2_with fail
          go_meet
          exact HM.out
      case rest =>
        have H4 := Lib.hid hcut
        obtain ⟨w4, hw4⟩ : ∃ w4 : World, w4 = wc := ⟨_, rfl⟩
        subst hw4
        clear c1 c2 f1 f2 hcut
        have CA := CW.out w4 _ (by omega) H4.out.1
        clear CW
        cases Y with
        | none =>
          go_wp2_with (go_at_call 43; refine CA.mono ?_; rintro e w5 ⟨rfl, hg5⟩)
          exact ⟨rfl, rfl, H2.out.2.trans (H3.out.2.trans (H4.out.2.trans hg5))⟩
        | some y =>
          obtain ⟨j, r⟩ := y
          go_upto_region 24 with (go_at_call 43; refine CA.mono ?_; rintro e w5 ⟨v5, rfl, hj5, hg5, hu5⟩; have H5 := Lib.hid (And.intro hj5 (And.intro hg5 hu5)); clear hj5 hg5 hu5)
          obtain ⟨sv, hst⟩ := H5.out.1
          obtain ⟨⟨-, c1, c2⟩, -, f1, f2⟩ := hst.cells
          clear hst CA
          have hd1 := HDP.out j r rfl
          have hh := H5.out.1
          rw [show max (max most (deep + 1)) (deep + 1 + (deepJ j - 1)) = max most (deep + deepJ j) by omega] at hh
          have H6 := Lib.hid (hh.setDeep deep (deep : Int) rfl)
          have C2 := Lib.hid (CSP.out _ _ _ H6.out.1)
          clear hh hd1
          go_wp2_with (go_at_call 38; refine C2.out.mono ?_; rintro e w7 ⟨rfl, hj7, hg7⟩; have H7 := Lib.hid (And.intro hj7 hg7); clear hj7 hg7)
          go_ret
          have g4 : w.grownBy w4 (some p) := H2.out.2.trans (H3.out.2.trans H4.out.2)
          exact val_fin hpw (g4.trans H5.out.2.1) (RepJ.to (fun k hk => ⟨⟨Nat.le_trans g4.size hk.1, hk.2⟩, fun _ => rfl⟩) j v5 H5.out.2.2) H7.out.1 (H6.out.2.trans H7.out.2) rfl
  have hb : barP (valP k) S = numP S := by unfold barP; rw [if_neg h1, if_neg h2, if_neg h3, if_neg h4, if_neg h5, if_neg h6]
  rw [hb]
  rw [decide_eq_false h1] at e110
  rw [decide_eq_false h2] at e116
  rw [decide_eq_false h3] at e102
  rw [decide_eq_false h4] at e34
  rw [decide_eq_false h5] at e91
  rw [decide_eq_false h6] at e123
  clear hb h1 h2 h3 h4 h5 h6 hIH
  generalize (headN S : Int) = x at *
  obtain ⟨n, hn⟩ : ∃ n, numN S = n := ⟨_, rfl⟩
  by_cases hn0 : n = 0
  · have hp : numP S = none := by unfold numP; rw [hn, if_pos hn0]
    rw [hp]
    go_enter Tryd.func23, Tryd.ntmps23
    go_upto_region 5 with (first | (go_at_call 38; refine C1.mono ?_; rintro e w2 ⟨rfl, hj2, hg2⟩; have H2 := Lib.hid (And.intro hj2 hg2); clear hj2 hg2) | (go_at_call 39; refine (CPK.out _ H2.out.1).mono ?_; rintro e w3 ⟨rfl, rfl⟩))
    clear C1 CPK e110 e116 e102 e34 e91 e123
    obtain ⟨sv, hst⟩ := H2.out.1
    obtain ⟨⟨c0, -, -⟩, -, -, -⟩ := hst.cells
    obtain ⟨a, cap, rfl, g1, g2⟩ := hst.shape
    have CN := js_number _ S w2 (hst.row w2 (Below.refl _ _)) (by omega)
    rw [hn, hn0] at CN
    clear hst hp hn hn0
    go_wp2_with (first | (go_at_call 28; refine CN.mono ?_; rintro e w3 ⟨rfl, hb3⟩) | (go_at_call 24; refine (js_mustnt p _).mono ?_; rintro e w4 ⟨rfl, rfl⟩))
    exact ⟨rfl, rfl, H2.out.2.trans (grown_of_below hb3 _)⟩
  · have hp : numP S = some (.num (S.take n), S.drop n) := by unfold numP; rw [hn, if_neg hn0]
    rw [hp]
    go_enter Tryd.func23, Tryd.ntmps23
    go_upto_region 5 with (first | (go_at_call 38; refine C1.mono ?_; rintro e w2 ⟨rfl, hj2, hg2⟩; have H2 := Lib.hid (And.intro hj2 hg2); clear hj2 hg2) | (go_at_call 39; refine (CPK.out _ H2.out.1).mono ?_; rintro e w3 ⟨rfl, rfl⟩))
    clear C1 CPK e110 e116 e102 e34 e91 e123
    obtain ⟨hnl, -⟩ := num_inv (s := S) (by rw [hn]; exact hn0)
    rw [hn] at hnl
    obtain ⟨sv, hst⟩ := H2.out.1
    obtain ⟨b, off, cap, rfl, g1, g2, gc, gd⟩ := hst.frontK n hnl (by omega)
    obtain ⟨⟨c0, -, -⟩, -, -, -⟩ := hst.cells
    have CN := js_number _ S w2 (hst.row w2 (Below.refl _ _)) (by omega)
    rw [hn] at CN
    have HST := Lib.hid hst
    have HGD := Lib.hid gd
    have HGC := Lib.hid gc
    have hpos : decide ((0 : Int) < (n : Int)) = true := decide_eq_true (by omega)
    have hpos2 : decide (0 < n) = true := decide_eq_true (by omega)
    have hpos3 : 0 < n := by omega
    clear hst hp hn gd gc
    go_upto_region 7 with (first | (go_at_call 28; refine CN.mono ?_; rintro e w3 ⟨rfl, hb3⟩) | (go_at_call 24; refine (js_must p _).mono ?_; rintro e w4 ⟨rfl, rfl⟩))
    have hlt2 := HST.out.lt
    have h3 := HST.out.keptB hb3
    obtain ⟨⟨d0, -, -⟩, e0, -, -⟩ := h3.cells
    have hlb : Below p w2 w3 := hb3.mono (Nat.le_of_lt hlt2)
    have hcv : (convert 22 30 (.slice (some ⟨b, off, none⟩) n cap)).run Tryd.prog w3 = .ok (.string ⟨(S.take n).toArray⟩) w3 := by
      obtain ⟨b', off', cap', hE, -, -, gc3, -⟩ := h3.frontK n hnl (by omega)
      cases hE
      have := conv_cells (P := Tryd.prog) (w := w3) (cap := cap) (src := 22) (dst := 30) (g := b) (off := off) (l := S.take n) Tryd.underlying22 Tryd.underlying5 Tryd.underlying30 (fun j hj => by
        rw [gc3 j (by simp only [List.length_take] at hj; omega)]; simp)
      rwa [List.length_take, Nat.min_eq_left hnl] at this
    have CS8 := Lib.hid (fun (a' : Option Addr) (c' : Nat) (k1 : S.length - n ≤ c') (k2 : c' ≤ cap) (k3 : n < S.length → a' = some ⟨b, off + n, none⟩) =>
      (have hh := h3.nextK (k := n) (sv' := .slice a' (S.length - n) c') (fun W hW => HGD.out a' c' k1 k2 k3 W (hlb.trans hW)) rfl
       (CSP.out _ _ _ hh.1).mono (fun e w' hm => (⟨hm.1, hm.2.1, hh.2.trans hm.2.2⟩ : e = .returned (.tuple #[]) ∧ JS w' p (sp (S.drop n)) deep most ∧ w3.grownBy w' (some p)))))
    have HB3 := Lib.hid hb3
    unfold maxLen at g2
    have hcn : n ≤ cap := by omega
    clear h3 hlb hb3 CN c0 CSP hpos hpos2
    obtain ⟨L, hL⟩ : ∃ L, S.length = L := ⟨_, rfl⟩
    rw [hL] at CS8 d0 g1 hnl
    clear hL
    by_cases hcap : cap = n
    · subst hcap
      obtain rfl : L = cap := by omega
      have hz : L - L = 0 := by omega
      rw [hz] at CS8
      have C8 := CS8.out (some ⟨b, off, none⟩) 0 (by omega) (by omega) (by omega)
      clear CS8
      go_wp2_with (go_at_call 38; refine C8.mono ?_; rintro e w7 ⟨rfl, hj7, hg7⟩; have H7 := Lib.hid (And.intro hj7 hg7); clear hj7 hg7)
      go_ret
      exact val_fin (j := .num (S.take L)) hpw (H2.out.2.trans (grown_of_below HB3.out _)) rfl H7.out.1 H7.out.2 (by simp only [deepJ]; omega)
    · have hcap2 : n < cap := by omega
      have C8 := CS8.out (some ⟨b, off + n, none⟩) (cap - n) (by omega) (by omega) (fun _ => rfl)
      clear CS8
      go_wp2_with (go_at_call 38; refine C8.mono ?_; rintro e w7 ⟨rfl, hj7, hg7⟩; have H7 := Lib.hid (And.intro hj7 hg7); clear hj7 hg7)
      go_ret
      exact val_fin (j := .num (S.take n)) hpw (H2.out.2.trans (grown_of_below HB3.out _)) rfl H7.out.1 H7.out.2 (by simp only [deepJ]; omega)
/-- The program's reader of values is the plain one. -/
theorem js_values : ∀ k, Reads (valP (k + 1)) k
  | 0 => js_value 0 (fun k' h => by cases h)
  | k + 1 => js_value (k + 1) (fun k' h => by cases h; exact js_values k)
end Go.Proofs.YtljnbbdhmlfhjaaDoor
