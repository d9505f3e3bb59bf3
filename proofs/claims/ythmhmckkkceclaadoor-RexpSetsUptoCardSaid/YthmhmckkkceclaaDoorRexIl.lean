/-
  The program's parser: class.
-/
import Derived.Test.YthmhmckkkceclaaDoorRexDl
import Derived.Test.YthmhmckkkceclaaDoorRexAl
namespace Go.Proofs.YthmhmckkkceclaaDoor
open Go.RowKit
/-- What a reading of a part leaves. -/
def FrEnd (X : Nat → Prop) (p : Nat) (w : World) (L : List Nd) (deep most : Nat) : Res Frag → Ending → World → Prop
  | none, e, w' => Fell p w e w'
  | some (f, r), e, w' => e = .returned (.int .i64 ((L.length + f.nodes.length - 1 : Nat) : Int)) ∧ PS X w' p r (L ++ mv L.length f.nodes) deep (max most (deep + f.deep)) ∧ Mvd p w w'
theorem fr_leaf {X : Nat → Prop} {p : Nat} {w w' : World} {L : List Nd} {deep most : Nat} {kind : Int} {set r : List Int} (hdm : deep ≤ most) (h : PS X w' p r (L ++ [⟨kind, [], 0, 0, set⟩]) deep most) (hm : Mvd p w w') :
    FrEnd X p w L deep most (some (leaf kind set, r)) (.returned (.int .i64 (L.length : Int))) w' :=
  ⟨rfl, by rw [show max most (deep + (leaf kind set).deep) = most from by show max most (deep + 0) = most; omega]; exact h, hm⟩
theorem par_next_anyO (p : Nat) (w : World) (ov : Value) (Z : List NdL) (s : List Int) (deep most : Nat) (c : Int) (h : PSo ov Z w p s deep most) :
    ∃ b r, (Calls Tryd.prog 25 #[.pointer (some ⟨p, 0, none⟩), .int .i32 c] w fun e w' => e = .returned (.bool b) ∧ PSo ov Z w' p r deep most ∧ w.grownBy w' (some p)) ∧ ((b = true ∧ nextP c s = some r) ∨ (b = false ∧ nextP c s = none ∧ r = s)) := by
  cases hn : nextP c s with
  | none => exact ⟨false, s, (par_next_no (X := fun _ => False) p w s _ deep most c (h.ps fun _ _ _ _ hx => hx) hn).mono fun e w' ⟨h1, h2⟩ => ⟨h1, by rw [← h2]; exact h, by rw [← h2]; exact World.grownBy.refl _ _⟩, .inr ⟨rfl, rfl, rfl⟩⟩
  | some r =>
    obtain rfl := next_ends hn
    exact ⟨true, r, par_next_yesO p w ov Z r deep most c h, .inl ⟨rfl, rfl⟩⟩
theorem par_next_any {X : Nat → Prop} (p : Nat) (w : World) (s : List Int) (L : List Nd) (deep most : Nat) (c : Int) (h : PS X w p s L deep most) :
    ∃ b r, (Calls Tryd.prog 25 #[.pointer (some ⟨p, 0, none⟩), .int .i32 c] w fun e w' => e = .returned (.bool b) ∧ PS X w' p r L deep most ∧ Mvd p w w') ∧ ((b = true ∧ nextP c s = some r) ∨ (b = false ∧ nextP c s = none ∧ r = s)) := by
  obtain ⟨sv, ov, Z, h, rfl, hf⟩ := h
  obtain ⟨b, r, hc, hb⟩ := par_next_anyO p w ov Z s deep most c ⟨sv, h⟩
  exact ⟨b, r, hc.mono fun e w' ⟨h1, h2, h3⟩ => ⟨h1, h2.ps hf, PSo.mvd ⟨sv, h⟩ h3⟩, hb⟩
theorem grown_trans2 {w w1 w2 : World} {row : Option Nat} (h1 : w.grownBy w1 row) (h2 : w1.grownBy w2 row) : w.grownBy w2 row := h1.trans h2
/-- A row of the call's own grows beside the parser. -/
theorem PSo.app {ov : Value} {Z : List NdL} {w wr w9 : World} {p : Nat} {s0 r : List Int} {deep most deep0 most0 : Nat} {row : Option Nat} (h0 : PSo ov Z w p s0 deep0 most0) (h : PSo ov Z wr p r deep most) (hg : w.grownBy wr (some p)) (h9 : wr.grownBy w9 row) (hr : ∀ k, row = some k → w.heap.size ≤ k) :
    PSo ov Z w9 p r deep most ∧ w.grownBy w9 (some p) := by
  have hg9 : w.grownBy w9 (some p) := ⟨by rw [h9.os, hg.os], by rw [h9.tape, hg.tape], by rw [h9.output, hg.output], Nat.le_trans hg.size h9.size, fun k hk hne => by
    rw [h9.block k (Nat.lt_of_lt_of_le hk hg.size) (fun e => by have := hr k e.symm; omega), hg.block k hk hne]⟩
  have hpl := h0.lt
  obtain ⟨sv0, h0⟩ := h0
  obtain ⟨sv, h⟩ := h
  refine ⟨⟨sv, ?_, fun W hW => h.row W (Below.trans ⟨h9.os, h9.tape, h9.output, h9.size, fun k hk => h9.block k (Nat.lt_trans hk h.lt) (fun e => by have := hr k e.symm; omega)⟩ hW), h0.out.kept hg9 (fun k hk => by cases hk; omega)⟩, hg9⟩
  rw [h9.block p h.lt (fun e => by have := hr p e.symm; omega)]
  exact h.own
set_option maxRecDepth 100000 in
set_option maxHeartbeats 40000000 in
theorem par_class {X : Nat → Prop} (p : Nat) (w : World) (s : List Int) (L : List Nd) (deep most : Nat) (hs : Scal s) (hsl : s.length ≤ 128) (hdm : deep ≤ most) (hL : L.length ≤ 2000) (hX : ∀ k, X k → k < w.heap.size) (h : PS X w p s L deep most) :
    Calls Tryd.prog 41 #[.pointer (some ⟨p, 0, none⟩)] w (FrEnd X p w L deep most (setF (clsP s))) := by
  obtain ⟨sv, ov, Z, h, hZL, hfz⟩ := h
  have h : PSo ov Z w p s deep most := ⟨sv, h⟩
  obtain ⟨no, s1, CN, hcls, hsuf⟩ : ∃ no s1, (Calls Tryd.prog 25 #[.pointer (some ⟨p, 0, none⟩), .int .i32 94] w fun e w' => e = .returned (.bool no) ∧ PSo ov Z w' p s1 deep most ∧ w.grownBy w' (some p)) ∧ clsP s = clsN no s1 ∧ s1 <:+ s := by
    obtain ⟨b, r, hc, hb⟩ := par_next_anyO p w ov Z s deep most 94 h
    rcases hb with ⟨rfl, hn⟩ | ⟨rfl, hn, rfl⟩
    · exact ⟨true, r, hc, by unfold clsP; rw [hn], (next_suf hn).1⟩
    · exact ⟨false, r, hc, by unfold clsP; rw [hn], List.suffix_refl _⟩
  rw [hcls]
  have hs1 := hs.suf hsuf
  have hsl1 : s1.length ≤ 128 := Nat.le_trans hsuf.length_le hsl
  rw [setF_cls]
  obtain ⟨XX, hX1⟩ : ∃ XX, clsL (s1.length + 1) s1 = XX := ⟨_, rfl⟩
  rw [hX1]
  have HX := Lib.hid hX1
  have HS := Lib.hid hs1
  obtain ⟨Y, hY⟩ : ∃ Y, clsF no XX = Y := ⟨_, rfl⟩
  rw [hY]
  have HY := Lib.hid hY
  have H0 := Lib.hid h
  have HZL := Lib.hid hZL
  have HFZ := Lib.hid hfz
  have HXO := Lib.hid hX
  have hpw := h.lt
  clear hcls hsuf hs h hs1 hsl hY hZL hfz hX hX1
  go_enter Tryd.func41, Tryd.ntmps41
  go_upto_region 4 with (go_at_call 25; refine CN.mono ?_; rintro e w1 ⟨rfl, hp, hm⟩; have HP := Lib.hid hp; clear hp)
  go_loopg [4, 5, 6, 7] (s1.length + 1) (fun gk set so mm tt wr => ∃ (acc r : List Int) (b : Bool), so = .bool b ∧ wr.ownsRow w.heap.size 21 1 set acc.length (acc.map rCell) ∧ PSo ov Z wr p r deep most ∧ w.grownBy wr (some p) ∧ r <:+ s1 ∧ clsAt b gk acc r = XX ∧ r.length + 1 ≤ gk ∧ acc.length + 8 * r.length ≤ 8 * s1.length)
  case atStart => exact ⟨[], s1, false, rfl, World.ownsRow_nil _ _ _ _, HP.out, hm, List.suffix_refl _, by rw [clsAt_start]; exact HX.out, by omega, by simp⟩
  case round =>
    obtain ⟨acc, r, b, rfl, hown, hps, hmv, hsf, hat, hgk, hal⟩ := hrel
    obtain ⟨k, rfl⟩ : ∃ k, gk = k + 1 := ⟨gk - 1, by omega⟩
    have hplt := hps.lt
    by_cases hdone : b = true ∧ ∃ r1, nextP 93 r = some r1
    · obtain ⟨rfl, r1, hn⟩ := hdone
      rw [clsAt_done hn] at hat
      obtain rfl := next_ends hn
      have C := par_next_yes p wr r1 L deep most 93 (by rw [← HZL.out]; exact hps.ps HFZ.out)
      have hown := owns_base hown (show p + 1 ≤ w.heap.size from hpw)
      have hmv := H0.out.mvd hmv
      obtain ⟨Q, hQe, hQ, -⟩ := cls_pairs _ HS.out.runes _ _ (HX.out.trans hat.symm)
      have hQl : Q.length ≤ 1000 := by
        rw [hQe, flat_length] at hal
        omega
      obtain ⟨QS, hQS⟩ := prs_pack Q hQ
      have hQSl : QS.length ≤ 1000 := by rw [← List.length_map (f := Subtype.val), hQS]; exact hQl
      obtain ⟨CC, hCC⟩ : ∃ CC, cleanP acc false = CC := ⟨_, rfl⟩
      have CM := Lib.hid (fun W (hW : W.ownsRow (p + 1) 21 1 u4 acc.length (acc.map rCell)) => (by
        have := par_merged W u4 QS (by rw [hQS]; exact hQ) hQSl (by rw [hQS, ← hQe]; exact argRow_owns hW)
        rw [hQS, ← hQe, hCC] at this
        exact this : Calls Tryd.prog 48 #[u4] W fun e w' => ∃ v', e = .returned v' ∧ w'.ownsRow W.heap.size 21 1 v' CC.length (CC.map rCell) ∧ Below W.heap.size W w'))
      have HOWN := Lib.hid (fun W (hW : Mvd p wr W) => own_mvd hown hW (by decide))
      have hYX : Y = some (leaf 2 (cleanP acc no), r1) := by rw [← HY.out, ← hat]; rfl
      have HYX := Lib.hid hYX
      have HMV := Lib.hid hmv
      have HCC := Lib.hid hCC
      have HQ := Lib.hid (And.intro hQe (And.intro hQ hQl))
      clear hown hps hn hmv hYX hCC hQe hQ hQl hQS hQSl hat hal hsf hgk HX HY HS
      clear QS
      cases no with
      | false =>
        go_upto_region 12 with (go_at_call 25; refine C.mono ?_; rintro e w2 ⟨rfl, hp2, hm2⟩; have HP2 := Lib.hid hp2; clear hp2)
        go_upto_region 15 with (go_at_call 48; refine (CM.out _ (HOWN.out _ hm2)).mono ?_; rintro e w3 ⟨v3, rfl, hown3, hb3⟩; obtain ⟨va, vc, rfl⟩ := owns_slice hown3; have HO3 := Lib.hid hown3; clear hown3)
        have hp3 := HP2.out.mvdB hb3
        have CN3 := par_node p w3 r1 L deep most hp3 ⟨2, [], 0, 0, CC⟩ (.slice none 0 0) _ ⟨World.ownsRow_nil _ _ _ _, owns_base HO3.out HP2.out.lt⟩ (fun k hk hx => hk.elim (fun h => by cases h) fun hk => by have := (HO3.out.lt k hk).1; have := HXO.out k hx; have := HMV.out.size; have := hm2.size; omega) (by omega)
        have hm3 := (HMV.out.trans hm2).trans (Mvd.ofBelow hb3 (Nat.le_of_lt HP2.out.lt))
        clear hp3
        go_wp2_with (go_at_call 33; refine CN3.mono ?_; rintro e w4 ⟨rfl, hp4, hm4⟩; have HP4 := Lib.hid hp4; clear hp4)
        go_ret
        rw [HYX.out, HCC.out]
        exact fr_leaf hdm HP4.out (hm3.trans hm4)
      | true =>
        obtain ⟨hQe, hQ, hQl⟩ := HQ.out
        obtain ⟨P, hPe, hPp, hPo⟩ := others_clean2 hQ
        rw [← hQe, HCC.out] at hPe
        rw [← hQe] at hPo
        have hPl : P.length ≤ 2100 := by
          have h1 := cleanP_len Q false
          rw [← hQe, HCC.out, hPe, flat_length] at h1
          omega
        obtain ⟨OO, hOO⟩ : ∃ OO, cleanP acc true = OO := ⟨_, rfl⟩
        have CO := Lib.hid (fun W v3 B (hW : W.ownsRow B 21 1 v3 CC.length (CC.map rCell)) => (by
          have := par_others W v3 P hPp hPl (by rw [← hPe]; exact argRow_owns hW)
          rw [hPo, hOO] at this
          exact this : Calls Tryd.prog 49 #[v3] W fun e w' => ∃ v', e = .returned v' ∧ w'.ownsRow W.heap.size 21 1 v' OO.length (OO.map rCell) ∧ Below W.heap.size W w'))
        rw [hOO] at HYX
        clear hQe hQ hQl hPe hPp hPo hPl hOO HQ HCC
        go_upto_region 12 with (go_at_call 25; refine C.mono ?_; rintro e w2 ⟨rfl, hp2, hm2⟩; have HP2 := Lib.hid hp2; clear hp2)
        go_upto_region 14 with (go_at_call 48; refine (CM.out _ (HOWN.out _ hm2)).mono ?_; rintro e w3 ⟨v3, rfl, hown3, hb3⟩; obtain ⟨va, vc, rfl⟩ := owns_slice hown3; have HO3 := Lib.hid hown3; clear hown3)
        have CO3 := CO.out w3 _ _ HO3.out
        have hp3 := HP2.out.mvdB hb3
        have HP3 := Lib.hid hp3
        have hm3 := (HMV.out.trans hm2).trans (Mvd.ofBelow hb3 (Nat.le_of_lt HP2.out.lt))
        clear hp3 CO CM C CN
        go_upto_region 15 with (go_at_call 49; refine CO3.mono ?_; rintro e w4 ⟨v4, rfl, hown4, hb4⟩; obtain ⟨vb, vd, rfl⟩ := owns_slice hown4; have HO4 := Lib.hid hown4; clear hown4)
        have hp4 := HP3.out.mvdB hb4
        have CN4 := par_node p w4 r1 L deep most hp4 ⟨2, [], 0, 0, OO⟩ (.slice none 0 0) _ ⟨World.ownsRow_nil _ _ _ _, owns_base HO4.out HP3.out.lt⟩ (fun k hk hx => hk.elim (fun h => by cases h) fun hk => by have := (HO4.out.lt k hk).1; have := HXO.out k hx; have := hm3.size; omega) (by omega)
        have hm4 := hm3.trans (Mvd.ofBelow hb4 (Nat.le_of_lt HP3.out.lt))
        clear hp4 CO3
        go_wp2_with (go_at_call 33; refine CN4.mono ?_; rintro e w5 ⟨rfl, hp5, hm5⟩; have HP5 := Lib.hid hp5; clear hp5)
        go_ret
        rw [HYX.out]
        exact fr_leaf hdm HP5.out (hm4.trans hm5)
    · have hno : b = true → nextP 93 r = none := fun hb => by
        cases hn : nextP 93 r with
        | none => rfl
        | some r1 => exact absurd ⟨hb, r1, hn⟩ hdone
      rw [clsAt_body hno] at hat
      have C93 := Lib.hid (fun hb => par_next_no p wr r _ deep most 93 (hps.ps HFZ.out) (hno hb))
      have hsc := HS.out.suf hsf
      have CMm := par_memberO p wr ov Z r deep most hsc hps
      have hlow := (H0.out.mvd hmv).low
      have HSF := Lib.hid hsf
      have HSC := Lib.hid hsc
      have HAT := Lib.hid hat
      have HMV := Lib.hid hmv
      have HOWN := Lib.hid hown
      clear hno hdone hsc hsf hat hmv hown hps CN
      cases hm1 : memP r with
      | none =>
        have hYn : Y = none := by
          rw [← HY.out, ← HAT.out]
          unfold rngP
          rw [hm1]
          rfl
        rw [hm1] at CMm
        have HYN := Lib.hid hYn
        clear hm1 hYn
        cases b
        all_goals
          go_wp2_with (first | (go_at_call 25; refine (C93.out rfl).mono ?_; rintro e w2 ⟨rfl, rfl⟩) | (go_at_call 47; refine CMm.mono ?_; rintro e w3 ⟨rfl, hb3⟩))
          refine ⟨rfl, ?_⟩
          rw [HYN.out]
          exact ⟨rfl, hlow.trans hb3⟩
      | some x =>
        obtain ⟨m, r1⟩ := x
        rw [hm1] at CMm
        have hml := mem_len hm1
        obtain ⟨hsf1, hlt1⟩ := mem_ends r _ _ hm1
        have hsc1 := HSC.out.suf hsf1
        have HSF1 := Lib.hid (hsf1.trans HSF.out)
        have HM1 := Lib.hid hm1
        have hrl := HSF.out.length_le
        clear hm1 hsf1
        cases hn45 : nextP 45 r1 with
        | none =>
          have hat : clsAt true k (acc ++ m) r1 = XX := by
            rw [← HAT.out]
            unfold rngP
            rw [HM1.out]
            simp only
            rw [hn45]
          have HA2 := Lib.hid hat
          have C45 := Lib.hid (fun W (hW : PSo ov Z W p r1 deep most) => par_next_no p W r1 _ deep most 45 (hW.ps HFZ.out) hn45)
          clear hat hn45 hsc1
          cases b
          all_goals
            go_upto_region 7 with (first | (go_at_call 25; refine (C93.out rfl).mono ?_; rintro e w2 ⟨rfl, rfl⟩) | (go_at_call 47; refine CMm.mono ?_; rintro e w3 ⟨v3, rfl, hown3, hp3, hg3⟩; obtain ⟨ma, mc, rfl⟩ := owns_slice hown3; have H3 := Lib.hid (And.intro hown3 (And.intro hp3 hg3)); clear hown3 hp3 hg3))
            have C45' := C45.out _ H3.out.2.1
            go_upto_region 11 with (go_at_call 25; refine C45'.mono ?_; rintro e w4 ⟨rfl, rfl⟩)
            have HO3 := Lib.hid (own_keptX HOWN.out H3.out.2.2 (fun k hk => by cases hk; exact hpw))
            go_wp2_with (at_builtin; go_loud (refine wpList_append_src rfl _ _ _ _ rfl w.heap.size ERn _ acc.length (acc.map rCell) rfl HO3.out _ m.length (m.map rCell) rfl (by exact src_arg Tryd.underlying31 (argRow_owns H3.out.1) (by simp [rCell, Value.oneCell'])) (by unfold maxLen; omega) (by omega) (by have := HMV.out.size; have := H3.out.2.2.size; omega) ?_); intro v9 w9 hown9 hgr9 _ _; have H9 := Lib.hid (And.intro hown9 hgr9); clear hown9 hgr9)
            go_roundg k
            case measure => omega
            case rel =>
              obtain ⟨hown9, hgr9⟩ := H9.out
              obtain ⟨g1, g2⟩ := PSo.app H0.out H3.out.2.1 (grown_trans2 HMV.out H3.out.2.2) hgr9 (fun g hg => (HO3.out.lt g hg).1)
              exact ⟨acc ++ m, r1, true, rfl, by rw [List.length_append, List.map_append]; exact hown9, g1, g2, HSF1.out, HA2.out, by omega, by rw [List.length_append]; omega⟩
        | some r2 =>
          have hr1 := next_ends hn45
          subst hr1
          have hsc2 := hsc1.tail
          have hrng : rngP r = match memP r2 with
              | none => none
              | some (t, r3) => match spanP m t with
                | none => none
                | some u => some (u, r3) := by
            unfold rngP
            rw [HM1.out]
            simp only
            rw [hn45]
            rfl
          have C45 := Lib.hid (fun W (hW : PSo ov Z W p (45 :: r2) deep most) => par_next_yesO p W ov Z r2 deep most 45 hW)
          have CM2 := Lib.hid (fun W (hW : PSo ov Z W p r2 deep most) => par_memberO p W ov Z r2 deep most hsc2 hW)
          clear hn45 hsc1
          cases hm2 : memP r2 with
          | none =>
            rw [hm2] at CM2 hrng
            have hYn : Y = none := by
              rw [← HY.out, ← HAT.out, hrng]
              rfl
            have HYN := Lib.hid hYn
            clear hYn hrng hm2 hsc2
            cases b
            all_goals
              go_upto_region 7 with (first | (go_at_call 25; refine (C93.out rfl).mono ?_; rintro e w2 ⟨rfl, rfl⟩) | (go_at_call 47; refine CMm.mono ?_; rintro e w3 ⟨v3, rfl, hown3, hp3, hg3⟩; obtain ⟨ma, mc, rfl⟩ := owns_slice hown3; have H3 := Lib.hid (And.intro hown3 (And.intro hp3 hg3)); clear hown3 hp3 hg3))
              have C45' := C45.out _ H3.out.2.1
              go_upto_region 8 with (go_at_call 25; refine C45'.mono ?_; rintro e w4 ⟨rfl, hp4, hg4⟩; have H4 := Lib.hid (And.intro hp4 hg4); clear hp4 hg4)
              have CM2' := CM2.out _ H4.out.1
              go_wp2_with (go_at_call 47; refine CM2'.mono ?_; rintro e w5 ⟨rfl, hb5⟩)
              refine ⟨rfl, ?_⟩
              rw [HYN.out]
              exact ⟨rfl, (H0.out.mvd ((HMV.out.trans H3.out.2.2).trans H4.out.2)).low.trans hb5⟩
          | some x =>
            obtain ⟨t, r3⟩ := x
            have htl := mem_len hm2
            obtain ⟨hsf2, hlt2⟩ := mem_ends r2 _ _ hm2
            have HSF2 := Lib.hid (hsf2.trans ((List.suffix_cons 45 r2).trans HSF1.out))
            rw [hm2] at CM2 hrng
            clear hm2 hsf2 hsc2
            cases hsp : spanP m t with
            | none =>
              have hYn : Y = none := by
                rw [← HY.out, ← HAT.out, hrng]
                simp only [hsp]
                rfl
              have HYN := Lib.hid hYn
              have hno := span_none hsp
              have HNO := Lib.hid hno
              clear hYn hrng hsp hno
              cases b
              all_goals
                go_upto_region 7 with (first | (go_at_call 25; refine (C93.out rfl).mono ?_; rintro e w2 ⟨rfl, rfl⟩) | (go_at_call 47; refine CMm.mono ?_; rintro e w3 ⟨v3, rfl, hown3, hp3, hg3⟩; obtain ⟨ma, mc, rfl⟩ := owns_slice hown3; have H3 := Lib.hid (And.intro hown3 (And.intro hp3 hg3)); clear hown3 hp3 hg3))
                have C45' := C45.out _ H3.out.2.1
                go_upto_region 8 with (go_at_call 25; refine C45'.mono ?_; rintro e w4 ⟨rfl, hp4, hg4⟩; have H4 := Lib.hid (And.intro hp4 hg4); clear hp4 hg4)
                have CM2' := CM2.out _ H4.out.1
                go_upto_region 9 with (go_at_call 47; refine CM2'.mono ?_; rintro e w5 ⟨v5, rfl, hown5, hp5, hg5⟩; obtain ⟨ta, tc, rfl⟩ := owns_slice hown5; have H5 := Lib.hid (And.intro hown5 (And.intro hp5 hg5)); clear hown5 hp5 hg5)
                have HM5 := Lib.hid (own_keptX (own_keptX H3.out.1 H4.out.2 (fun k hk => by cases hk; have := HMV.out.size; omega)) H5.out.2.2 (fun k hk => by cases hk; have := HMV.out.size; omega))
                have HLW := Lib.hid (H0.out.mvd (((HMV.out.trans H3.out.2.2).trans H4.out.2).trans H5.out.2.2)).low
                have hH5 := H5.out.1
                have hHM := HM5.out
                rcases HNO.out with h1 | ⟨m0, m1, rfl, h2⟩
                · clear hH5 hHM
                  obtain ⟨mn, hmn⟩ : ∃ n, m.length = n := ⟨_, rfl⟩
                  rw [hmn] at h1 ⊢
                  have hd : ((mn : Int) == 2) = false := by simp; omega
                  clear hmn h1 hml HNO
                  refine wp_region_quiet_tail 36 (by kernel_rfl) (by kernel_rfl) ?_
                  simp only [List.take_succ_cons, List.take_zero, List.drop_succ_cons, List.drop_zero]
                  repeat (go_big_quiet_step (fail))
                  refine wpQuiet_nil ?_
                  change wpList _ _ _ _ _ w5.drew
                  go_wp2_with (go_at_call 18; refine (par_mustnt p _).mono ?_; rintro e w6 ⟨rfl, rfl⟩)
                  exact ⟨rfl, by rw [HYN.out]; exact ⟨rfl, HLW.out.drew⟩⟩
                · obtain ⟨mg, mcc, hmsl, -, hmgl, -, -, -, hmcell⟩ := owns_some hHM (by simp)
                  cases hmsl
                  have q0 := hmcell 0 (by simp)
                  have q1 := hmcell 1 (by simp)
                  simp only [List.map_cons, List.map_nil, List.getElem_cons_zero, List.getElem_cons_succ, rCell] at q0 q1
                  clear hmcell hHM
                  rcases h2 with h2 | ⟨t0, t1, rfl, h3⟩
                  · clear hH5
                    obtain ⟨tn, htn⟩ : ∃ n, t.length = n := ⟨_, rfl⟩
                    rw [htn] at h2 ⊢
                    have hd : ((tn : Int) == 2) = false := by simp; omega
                    clear htn h2 htl HNO
                    refine wp_region_quiet_tail 36 (by kernel_rfl) (by kernel_rfl) ?_
                    simp only [List.take_succ_cons, List.take_zero, List.drop_succ_cons, List.drop_zero]
                    repeat (go_big_quiet_step (fail))
                    refine wpQuiet_nil ?_
                    change wpList _ _ _ _ _ w5.drew
                    go_wp2_with (go_at_call 18; refine (par_mustnt p _).mono ?_; rintro e w6 ⟨rfl, rfl⟩)
                    exact ⟨rfl, by rw [HYN.out]; exact ⟨rfl, HLW.out.drew⟩⟩
                  · obtain ⟨tg, tcc, htsl, -, htgl, -, -, -, htcell⟩ := owns_some hH5 (by simp)
                    cases htsl
                    have q2 := htcell 0 (by simp)
                    have q3 := htcell 1 (by simp)
                    simp only [List.map_cons, List.map_nil, List.getElem_cons_zero, List.getElem_cons_succ, rCell] at q2 q3
                    clear htcell hH5
                    rcases h3 with h3 | ⟨rfl, h4⟩
                    · have hd : (m0 == m1) = false := by simpa using h3
                      refine wp_region_quiet_tail 36 (by kernel_rfl) (by kernel_rfl) ?_
                      simp only [List.take_succ_cons, List.take_zero, List.drop_succ_cons, List.drop_zero]
                      repeat (go_big_quiet_step (fail))
                      refine wpQuiet_nil ?_
                      change wpList _ _ _ _ _ w5.drew
                      go_wp2_with (go_at_call 18; refine (par_mustnt p _).mono ?_; rintro e w6 ⟨rfl, rfl⟩)
                      exact ⟨rfl, by rw [HYN.out]; exact ⟨rfl, HLW.out.drew⟩⟩
                    · rcases h4 with h4 | ⟨rfl, h5⟩
                      · have hd : (t0 == t1) = false := by simpa using h4
                        refine wp_region_quiet_tail 36 (by kernel_rfl) (by kernel_rfl) ?_
                        simp only [List.take_succ_cons, List.take_zero, List.drop_succ_cons, List.drop_zero]
                        repeat (go_big_quiet_step (fail))
                        refine wpQuiet_nil ?_
                        change wpList _ _ _ _ _ w5.drew
                        go_wp2_with (go_at_call 18; refine (par_mustnt p _).mono ?_; rintro e w6 ⟨rfl, rfl⟩)
                        exact ⟨rfl, by rw [HYN.out]; exact ⟨rfl, HLW.out.drew⟩⟩
                      · have hd : decide (m0 ≤ t0) = false := decide_eq_false (by omega)
                        refine wp_region_quiet_tail 36 (by kernel_rfl) (by kernel_rfl) ?_
                        simp only [List.take_succ_cons, List.take_zero, List.drop_succ_cons, List.drop_zero]
                        repeat (go_big_quiet_step (fail))
                        refine wpQuiet_nil ?_
                        change wpList _ _ _ _ _ w5.drew
                        go_wp2_with (go_at_call 18; refine (par_mustnt p _).mono ?_; rintro e w6 ⟨rfl, rfl⟩)
                        exact ⟨rfl, by rw [HYN.out]; exact ⟨rfl, HLW.out.drew⟩⟩
            | some u =>
              obtain ⟨a, b', rfl, rfl, hab, rfl⟩ := span_some hsp
              have hat : clsAt true k (acc ++ [a, b']) r3 = XX := by
                rw [← HAT.out, hrng]
                simp only [hsp]
              have HA2 := Lib.hid hat
              clear hat hsp hrng
              cases b
              all_goals
                go_upto_region 7 with (first | (go_at_call 25; refine (C93.out rfl).mono ?_; rintro e w2 ⟨rfl, rfl⟩) | (go_at_call 47; refine CMm.mono ?_; rintro e w3 ⟨v3, rfl, hown3, hp3, hg3⟩; obtain ⟨ma, mc, rfl⟩ := owns_slice hown3; have H3 := Lib.hid (And.intro hown3 (And.intro hp3 hg3)); clear hown3 hp3 hg3))
                have C45' := C45.out _ H3.out.2.1
                go_upto_region 8 with (go_at_call 25; refine C45'.mono ?_; rintro e w4 ⟨rfl, hp4, hg4⟩; have H4 := Lib.hid (And.intro hp4 hg4); clear hp4 hg4)
                have CM2' := CM2.out _ H4.out.1
                go_upto_region 9 with (go_at_call 47; refine CM2'.mono ?_; rintro e w5 ⟨v5, rfl, hown5, hp5, hg5⟩; obtain ⟨ta, tc, rfl⟩ := owns_slice hown5; have H5 := Lib.hid (And.intro hown5 (And.intro hp5 hg5)); clear hown5 hp5 hg5)
                have HM5 := Lib.hid (own_keptX (own_keptX H3.out.1 H4.out.2 (fun k hk => by cases hk; have := HMV.out.size; omega)) H5.out.2.2 (fun k hk => by cases hk; have := HMV.out.size; omega))
                obtain ⟨mg, mcc, hmsl, -, hmgl, -, -, -, hmcell⟩ := owns_some HM5.out (by simp)
                obtain ⟨tg, tcc, htsl, -, htgl, -, -, -, htcell⟩ := owns_some H5.out.1 (by simp)
                cases hmsl
                cases htsl
                have m0 := hmcell 0 (by simp)
                have m1 := hmcell 1 (by simp)
                have t0 := htcell 0 (by simp)
                have t1 := htcell 1 (by simp)
                simp only [List.map_cons, List.map_nil, List.getElem_cons_zero, List.getElem_cons_succ, rCell] at m0 m1 t0 t1
                clear hmcell htcell
                have hle : decide (a ≤ b') = true := decide_eq_true hab
                refine wp_region_quiet_tail 36 (by kernel_rfl) (by kernel_rfl) ?_
                simp only [List.take_succ_cons, List.take_zero, List.drop_succ_cons, List.drop_zero]
                repeat (go_big_quiet_step (fail))
                refine wpQuiet_nil ?_
                change wpList _ _ _ _ _ w5.drew
                obtain ⟨wd, hwd⟩ : ∃ wd, w5.drew = wd := ⟨_, rfl⟩
                rw [hwd]
                have hbd : Below w5.heap.size w5 wd := by rw [← hwd]; exact (Below.refl _ _).drew
                clear hwd
                have x0 := (hbd.cell (p := ⟨mg, 0, none⟩) hmgl).trans m0
                have x1 := (hbd.cell (p := ⟨tg, 0, none⟩) htgl).trans t0
                clear m0 m1 t0 t1
                go_upto_region 10 with (go_at_call 18; refine (par_must p _).mono ?_; rintro e w6 ⟨rfl, rfl⟩)
                have hsz5 := H5.out.2.2.size
                have hsz4 := H4.out.2.size
                have hsz3 := H3.out.2.2.size
                have hsz0 := HMV.out.size
                have hszd := hbd.size
                refine wp_region_quiet_tail 6 (by kernel_rfl) (by kernel_rfl) ?_
                simp only [List.take_succ_cons, List.take_zero, List.drop_succ_cons, List.drop_zero]
                repeat (go_big_quiet_step (fail))
                refine wpQuiet_nil ?_
                change wpList _ _ _ _ _ wd.drew
                obtain ⟨we, hwe⟩ : ∃ we, wd.drew = we := ⟨_, rfl⟩
                rw [hwe]
                have hbe : Below w5.heap.size w5 we := by rw [← hwe]; exact hbd.drew
                clear hwe x0 x1 hle
                have hsze := hbe.size
                have HO5 := Lib.hid (own_keptX (own_keptX (own_keptX HOWN.out H3.out.2.2 (fun k hk => by cases hk; exact hpw)) H4.out.2 (fun k hk => by cases hk; exact hpw)) H5.out.2.2 (fun k hk => by cases hk; exact hpw))
                go_wp2_with (at_builtin; go_loud (refine wpList_append_src rfl _ _ _ _ rfl w.heap.size ERn _ acc.length (acc.map rCell) rfl (owns_below HO5.out (by (repeat (first | assumption | with_reducible exact Below.refl _ _ | (with_reducible refine belowA' ?_ (by first | omega | (simp; done) | (simp; omega))) | with_reducible refine Below.drew ?_ | with_reducible refine below_dN ?_ _)); done)) _ 2 [.int .i32 a, .int .i32 b'] rfl (by exact src_last (cs := #[.int .i32 a, .int .i32 b']) Tryd.underlying31 2 2 1 (by simp) rfl (by simp [Value.oneCell'])) (by unfold maxLen; omega) (by omega) (by first | omega | (simp; omega)) ?_); intro v9 w9 hown9 hgr9 _ _; have H9 := Lib.hid (And.intro hown9 hgr9); clear hown9 hgr9)
                go_roundg k
                case measure => omega
                case rel =>
                  obtain ⟨hown9, hgr9⟩ := H9.out
                  obtain ⟨g1, g2⟩ := PSo.app H0.out (H5.out.2.1.keptB (by (repeat (first | assumption | with_reducible exact Below.refl _ _ | (with_reducible refine belowA' ?_ (by first | omega | (simp; done) | (simp; omega))) | with_reducible refine Below.drew ?_ | with_reducible refine below_dN ?_ _)); done)) ((((HMV.out.trans H3.out.2.2).trans H4.out.2).trans H5.out.2.2).trans (grown_of_below (show Below w5.heap.size w5 _ from (by (repeat (first | assumption | with_reducible exact Below.refl _ _ | (with_reducible refine belowA' ?_ (by first | omega | (simp; done) | (simp; omega))) | with_reducible refine Below.drew ?_ | with_reducible refine below_dN ?_ _)); done)) _)) hgr9 (fun g hg => (HO5.out.lt g hg).1)
                  exact ⟨acc ++ [a, b'], r3, true, rfl, by rw [List.length_append, List.map_append]; exact hown9, g1, g2, HSF2.out, HA2.out, by simp only [List.length_cons] at *; omega, by rw [List.length_append]; simp only [List.length_cons, List.length_nil] at *; omega⟩
end Go.Proofs.YthmhmckkkceclaaDoor
/-
  The program's parser: atom.
-/
namespace Go.Proofs.YthmhmckkkceclaaDoor
open Go.RowKit
theorem PS.deep {X : Nat → Prop} {w : World} {p : Nat} {s : List Int} {L : List Nd} {deep most : Nat} (h : PS X w p s L deep most) (d : Nat) : PS X (w.setCell ⟨p, 2, none⟩ (.int .i64 (d : Int))) p s L d most ∧ Mvd p w (w.setCell ⟨p, 2, none⟩ (.int .i64 (d : Int))) := by
  obtain ⟨sv, ov, Z, h, hL⟩ := h
  refine ⟨⟨sv, ov, Z, h.set (gset w p 2 _) ?_ (fun W hW => h.row W ((h.mvd_set 2 _).low.trans hW)), hL⟩, h.mvd_set 2 _⟩
  rw [heap_setCell_same _ _ _ _ _ _ h.own]
  rfl
theorem PS.most {X : Nat → Prop} {w : World} {p : Nat} {s : List Int} {L : List Nd} {deep most : Nat} (h : PS X w p s L deep most) (m : Nat) : PS X (w.setCell ⟨p, 3, none⟩ (.int .i64 (m : Int))) p s L deep m ∧ Mvd p w (w.setCell ⟨p, 3, none⟩ (.int .i64 (m : Int))) := by
  obtain ⟨sv, ov, Z, h, hL⟩ := h
  refine ⟨⟨sv, ov, Z, h.set (gset w p 3 _) ?_ (fun W hW => h.row W ((h.mvd_set 3 _).low.trans hW)), hL⟩, h.mvd_set 3 _⟩
  rw [heap_setCell_same _ _ _ _ _ _ h.own]
  rfl
theorem PS.cells {X : Nat → Prop} {w : World} {p : Nat} {s : List Int} {L : List Nd} {deep most : Nat} (h : PS X w p s L deep most) : (w.cell? ⟨p, 2, none⟩ = some (.int .i64 (deep : Int)) ∧ w.cell? ⟨p, 3, none⟩ = some (.int .i64 (most : Int))) ∧ w.frozen? ⟨p, 2, none⟩ = false ∧ w.frozen? ⟨p, 3, none⟩ = false := by
  obtain ⟨sv, ov, Z, h, hL⟩ := h
  have := h.cells
  exact ⟨⟨this.1.2.2.1, this.1.2.2.2⟩, this.2.2.2.1, this.2.2.2.2⟩
/-- What is asked of a call ahead of the runes s. -/
structure Ask (X : Nat → Prop) (p : Nat) (w : World) (s : List Int) (L : List Nd) (deep most : Nat) : Prop where
  scal : Scal s
  len : s.length ≤ 128
  old : ∀ k, X k → k < w.heap.size
  dm : deep ≤ most
  ds : deep + s.length ≤ 1000
  ls : L.length + 4 * s.length ≤ 1000
  ps : PS X w p s L deep most
/-- A function's contract ahead of runes shorter than n. -/
def Does (F : FuncId) (n : Nat) (x : List Int → Res Frag) : Prop := ∀ X p w s L deep most, s.length ≤ n → Ask X p w s L deep most → Calls Tryd.prog F #[.pointer (some ⟨p, 0, none⟩)] w (FrEnd X p w L deep most (x s))
theorem fr_node {X : Nat → Prop} {p : Nat} {w w' : World} {L : List Nd} {deep most : Nat} (kind : Int) (set r : List Int) (hdm : deep ≤ most) (hl : L.length ≤ 100000) (h : PS X w p r L deep most) (hm : Mvd p w' w) (tv : Value) (ht : w.ownsRow (p + 1) 21 1 tv set.length (set.map rCell)) (hzf : ∀ k, tv.ownBlock = some k → ¬ X k) :
    Calls Tryd.prog 33 #[.pointer (some ⟨p, 0, none⟩), .agg #[.int .i64 kind, .slice none 0 0, .int .i64 0, .int .i64 0, tv]] w (FrEnd X p w' L deep most (some (leaf kind set, r))) :=
  (par_node p w r L deep most h ⟨kind, [], 0, 0, set⟩ (.slice none 0 0) tv ⟨World.ownsRow_nil _ _ _ _, ht⟩ (fun k hk => hk.elim (fun h => by cases h) (hzf k)) hl).mono fun e w2 ⟨h1, h2, h3⟩ => by
    subst h1
    exact fr_leaf hdm h2 (hm.trans h3)
/-- A part's end, seen from a world ahead. -/
theorem FrEnd.from {X : Nat → Prop} {p : Nat} {w w1 : World} {L : List Nd} {deep most : Nat} {x : Res Frag} {e : Ending} {w' : World} (h : FrEnd X p w1 L deep most x e w') (hm : Mvd p w w1) : FrEnd X p w L deep most x e w' := by
  cases x with
  | none => exact Fell.after h hm.low
  | some x =>
    obtain ⟨h1, h2, h3⟩ := h
    exact ⟨h1, h2, hm.trans h3⟩
theorem Ask.next {X : Nat → Prop} {p : Nat} {w w' : World} {c : Int} {s : List Int} {L : List Nd} {deep most : Nat} (h : Ask X p w (c :: s) L deep most) (h' : PS X w' p s L deep most) (hs : w.heap.size ≤ w'.heap.size) : Ask X p w' s L deep most :=
  ⟨h.scal.tail, by have := h.len; simp only [List.length_cons] at this; omega, fun k hk => Nat.lt_of_lt_of_le (h.old k hk) hs, h.dm, by have := h.ds; simp only [List.length_cons] at this; omega, by have := h.ls; simp only [List.length_cons] at this; omega, h'⟩
set_option maxRecDepth 100000 in
set_option maxHeartbeats 10000000 in
theorem par_atom_par (n : Nat) (alt : List Int → Res Frag) (IH : Does 17 n alt) (X : Nat → Prop) (p : Nat) (w : World) (s : List Int) (L : List Nd) (deep most : Nat) (hn : s.length ≤ n) (h : Ask X p w (40 :: s) L deep most) :
    Calls Tryd.prog 36 #[.pointer (some ⟨p, 0, none⟩)] w (FrEnd X p w L deep most (parP alt s)) := by
  have C := par_take p w 40 s L deep most h.ps
  have hds := h.ds
  have hls := h.ls
  have hdm := h.dm
  have hlen := h.len
  have HOLD := Lib.hid h.old
  simp only [List.length_cons] at hds hls hlen
  have HSC := Lib.hid h.scal.tail
  have CA := Lib.hid (fun W m (hs : w.heap.size ≤ W.heap.size) (hW : PS X W p s L (deep + 1) m) (hm : deep + 1 ≤ m) => IH X p W s L (deep + 1) m hn ⟨HSC.out, by omega, fun k hk => Nat.lt_of_lt_of_le (HOLD.out k hk) hs, hm, by omega, by omega, hW⟩)
  obtain ⟨Y, hY⟩ : ∃ Y, parP alt s = Y := ⟨_, rfl⟩
  rw [hY]
  have HY := Lib.hid hY
  clear h hY hn IH
  go_enter Tryd.func36, Tryd.ntmps36
  go_upto_region 6 with (go_at_call 40; refine C.mono ?_; rintro e w1 ⟨rfl, hp1, hm1⟩; have H1 := Lib.hid (And.intro hp1 hm1); clear hp1 hm1)
  obtain ⟨⟨c2, c3⟩, f2, f3⟩ := H1.out.1.cells
  go_upto_region 7 with fail
  have H2 := Lib.hid (H1.out.1.deep (deep + 1))
  obtain ⟨w2, hw2⟩ : ∃ w2, w1.setCell ⟨p, 2, none⟩ (.int .i64 ((deep : Int) + 1)) = w2 := ⟨_, rfl⟩
  have hcast : ((deep + 1 : Nat) : Int) = (deep : Int) + 1 := by omega
  rw [hcast, hw2] at H2
  rw [hw2]
  clear hw2 c2 c3 f2 f3 hcast
  obtain ⟨⟨d2, d3⟩, g2, g3⟩ := H2.out.1.cells
  rw [show ((deep + 1 : Nat) : Int) = (deep : Int) + 1 by omega] at d2
  go_region_law (fail)
  all_goals
    have H3 := Lib.hid ((H2.out.1.mvdB (show Below w2.heap.size w2 w2.drew from (Below.refl _ _).drew)).most (max most (deep + 1)))
    obtain ⟨w3, hw3⟩ : ∃ w3, w2.drew.setCell ⟨p, 3, none⟩ (.int .i64 (((max most (deep + 1) : Nat)) : Int)) = w3 := ⟨_, rfl⟩
    rw [hw3] at H3
    rw [show max (most : Int) ((deep : Int) + 1) = ((max most (deep + 1) : Nat) : Int) by omega]
    go_upto_region 8 with fail
    first | rw [hw3] | (rw [show (w2.setCell ⟨p, 3, none⟩ (.int .i64 (((max most (deep + 1) : Nat)) : Int))).drew = w3 from hw3])
    have hm3 : Mvd p w w3 := H1.out.2.trans (H2.out.2.trans ((Mvd.ofBelow (show Below w2.heap.size w2 w2.drew from (Below.refl _ _).drew) (Nat.le_of_lt H2.out.1.lt)).trans H3.out.2))
    have CA3 := CA.out w3 _ hm3.size H3.out.1 (by omega)
    clear hw3 d2 d3 g2 g3
    cases halt : alt s with
    | none =>
      have hYn : Y = none := by
        rw [← HY.out]
        unfold parP
        rw [halt]
      rw [halt] at CA3
      have HYN := Lib.hid hYn
      clear hYn halt
      go_wp2_with (go_at_call 17; refine CA3.mono ?_; rintro e w4 ⟨rfl, hb⟩)
      refine ⟨rfl, ?_⟩
      rw [HYN.out]
      exact ⟨rfl, hm3.low.trans hb⟩
    | some x =>
      obtain ⟨f, r1⟩ := x
      rw [halt] at CA3
      have HA := Lib.hid halt
      clear halt
      obtain ⟨q, hq⟩ : ∃ q, L.length + f.nodes.length - 1 = q := ⟨_, rfl⟩
      have CA4 : Calls Tryd.prog 17 #[.pointer (some ⟨p, 0, none⟩)] w3 fun e w' => e = .returned (.int .i64 (q : Int)) ∧ PS X w' p r1 (L ++ mv L.length f.nodes) (deep + 1) (max (max most (deep + 1)) (deep + 1 + f.deep)) ∧ Mvd p w3 w' := by
        rw [← hq]
        exact CA3
      have HQ := Lib.hid hq
      clear CA3 hq
      go_upto_region 9 with (go_at_call 17; refine CA4.mono ?_; rintro e w4 ⟨rfl, hp4, hm4⟩; have H4 := Lib.hid (And.intro hp4 hm4); clear hp4 hm4)
      cases hn : nextP 41 r1 with
      | none =>
        have hYn : Y = none := by
          rw [← HY.out]
          unfold parP
          rw [HA.out]
          simp only
          rw [hn]
        have HYN := Lib.hid hYn
        have CN := par_next_no p w4 r1 _ _ _ 41 H4.out.1 hn
        clear hYn hn
        go_wp2_with (first | (go_at_call 25; refine CN.mono ?_; rintro e w5 ⟨rfl, rfl⟩) | (go_at_call 18; refine (par_mustnt p _).mono ?_; rintro e w6 ⟨rfl, rfl⟩))
        refine ⟨rfl, ?_⟩
        rw [HYN.out]
        exact ⟨rfl, hm3.low.trans H4.out.2.low⟩
      | some r2 =>
        have hYn : Y = some (upF f, r2) := by
          rw [← HY.out]
          unfold parP
          rw [HA.out]
          simp only
          rw [hn]
        have HYN := Lib.hid hYn
        have hr := next_ends hn
        subst hr
        have CN := par_next_yes p w4 r2 _ _ _ 41 H4.out.1
        clear hYn hn
        go_upto_region 10 with (first | (go_at_call 25; refine CN.mono ?_; rintro e w5 ⟨rfl, hp5, hm5⟩; have H5 := Lib.hid (And.intro hp5 hm5); clear hp5 hm5) | (go_at_call 18; refine (par_must p _).mono ?_; rintro e w6 ⟨rfl, rfl⟩))
        obtain ⟨⟨d2, -⟩, g2, -⟩ := H5.out.1.cells
        rw [show ((deep + 1 : Nat) : Int) = (deep : Int) + 1 by omega] at d2
        have H6 := Lib.hid (H5.out.1.deep deep)
        go_wp2
        go_ret
        rw [HYN.out]
        refine ⟨by rw [← HQ.out]; rfl, ?_, (hm3.trans H4.out.2).trans (H5.out.2.trans H6.out.2)⟩
        rw [show max most (deep + (upF f).deep) = max (max most (deep + 1)) (deep + 1 + f.deep) from by show max most (deep + (f.deep + 1)) = _; omega]
        exact H6.out.1
set_option maxRecDepth 100000 in
set_option maxHeartbeats 10000000 in
theorem par_atom (n : Nat) (alt : List Int → Res Frag) (IH : Does 17 n alt) : Does 36 (n + 1) (atomP alt) := by
  intro X p w s L deep most hn h
  have hold := h.old
  have HOLD := Lib.hid hold
  clear hold
  cases s with
  | nil =>
    show Calls _ _ _ _ (Fell p w)
    have C := par_take_none p w L deep most h.ps
    clear h hn IH
    go_enter Tryd.func36, Tryd.ntmps36
    go_wp2_with (go_at_call 40; refine C.mono ?_; rintro e w' ⟨rfl, hb⟩)
    exact ⟨rfl, rfl, hb⟩
  | cons c s =>
    simp only [List.length_cons] at hn
    by_cases h40 : c = 40
    · subst h40
      rw [show atomP alt (40 :: s) = parP alt s from rfl]
      exact par_atom_par n alt IH X p w s L deep most (by omega) h
    have g40 : (c == 40) = false := by simpa using h40
    obtain ⟨r, hr, hcr⟩ := h.scal c (by simp)
    have C := par_take p w c s L deep most h.ps
    have hst := h.scal.tail
    have hdm := h.dm
    have hls := h.ls
    have hlen := h.len
    simp only [List.length_cons] at hls hlen
    have e1 : atomP alt (c :: s) = if c = 91 then setF (clsP s) else if c = 46 then some (leaf 2 [0, 9, 11, 1114111], s) else if c = 94 then some (leaf 6 [], s) else if c = 36 then some (leaf 7 [], s)
        else if c = 92 then setF (escP s) else if c ∈ special then none else some (leaf 2 [c, c], s) := by
      simp only [atomP, if_neg h40]
    rw [e1]
    clear h e1 IH h40 hn
    by_cases h91 : c = 91
    · subst h91
      rw [if_pos rfl]
      have CC := Lib.hid (fun W (hs : w.heap.size ≤ W.heap.size) hW => par_class p W s L deep most hst (by omega) hdm (by omega) (fun k hk => Nat.lt_of_lt_of_le (HOLD.out k hk) hs) hW)
      obtain ⟨Y, hY⟩ : ∃ Y, setF (clsP s) = Y := ⟨_, rfl⟩
      rw [hY] at CC ⊢
      clear hcr hr hY
      go_enter Tryd.func36, Tryd.ntmps36
      go_upto_region 13 with (go_at_call 40; refine C.mono ?_; rintro e w1 ⟨rfl, hp1, hm1⟩; have H1 := Lib.hid (And.intro hp1 hm1); clear hp1 hm1)
      have CC1 := CC.out _ H1.out.2.size H1.out.1
      cases Y with
      | none =>
        go_wp2_with (go_at_call 41; refine CC1.mono ?_; rintro e w2 ⟨rfl, hb⟩)
        exact ⟨rfl, rfl, H1.out.2.low.trans hb⟩
      | some x =>
        obtain ⟨f, r1⟩ := x
        obtain ⟨q, hq⟩ : ∃ q, L.length + f.nodes.length - 1 = q := ⟨_, rfl⟩
        have CC2 : Calls Tryd.prog 41 #[.pointer (some ⟨p, 0, none⟩)] w1 fun e w' => e = .returned (.int .i64 (q : Int)) ∧ PS X w' p r1 (L ++ mv L.length f.nodes) deep (max most (deep + f.deep)) ∧ Mvd p w1 w' := by
          rw [← hq]
          exact CC1
        have HQ := Lib.hid hq
        clear CC1 hq
        go_wp2_with (go_at_call 41; refine CC2.mono ?_; rintro e w2 ⟨rfl, hp2, hm2⟩; have H2 := Lib.hid (And.intro hp2 hm2); clear hp2 hm2)
        go_ret
        exact ⟨by rw [← HQ.out]; rfl, H2.out.1, H1.out.2.trans H2.out.2⟩
    rw [if_neg h91]
    have g91 : (c == 91) = false := by simpa using h91
    clear h91
    by_cases h46 : c = 46
    · subst h46
      rw [if_pos rfl]
      clear hcr hr g40 g91
      go_enter Tryd.func36, Tryd.ntmps36
      go_upto_region 15 with (go_at_call 40; refine C.mono ?_; rintro e w1 ⟨rfl, hp1, hm1⟩; have H1 := Lib.hid (And.intro hp1 hm1); clear hp1 hm1)
      have hb2 := belowA' (o := .cells #[.int .i32 0, .int .i32 9, .int .i32 11, .int .i32 1114111] 21) (Below.refl w1.heap.size w1) (Nat.le_refl _)
      have ho := owns_new w1 #[.int .i32 0, .int .i32 9, .int .i32 11, .int .i32 1114111] 21 4 (by simp) (by unfold maxLen; omega)
      have CN := fr_node 2 [0, 9, 11, 1114111] s hdm (by omega) (H1.out.1.mvdB hb2) (H1.out.2.trans (Mvd.ofBelow hb2 (Nat.le_of_lt H1.out.1.lt))) _ (owns_base ho H1.out.1.lt) (fun k hk hx => by cases hk; have h1 : w1.heap.size < w.heap.size := HOLD.out _ hx; have := H1.out.2.size; omega)
      clear ho
      go_wp2_with (go_at_call 33; refine CN.mono ?_; rintro e w2 h2; obtain ⟨rfl, hh⟩ := And.intro h2.1 h2; have H2 := Lib.hid hh; clear h2 hh)
      go_ret
      exact H2.out
    rw [if_neg h46]
    have g46 : (c == 46) = false := by simpa using h46
    clear h46
    by_cases h94 : c = 94
    · subst h94
      rw [if_pos rfl]
      clear hcr hr g40 g91 g46
      go_enter Tryd.func36, Tryd.ntmps36
      go_upto_region 17 with (go_at_call 40; refine C.mono ?_; rintro e w1 ⟨rfl, hp1, hm1⟩; have H1 := Lib.hid (And.intro hp1 hm1); clear hp1 hm1)
      have CN := fr_node 6 [] s hdm (by omega) H1.out.1 H1.out.2 (.slice none 0 0) (World.ownsRow_nil _ _ _ _) (fun k hk => by cases hk)
      go_wp2_with (go_at_call 33; refine CN.mono ?_; rintro e w2 h2; obtain ⟨rfl, hh⟩ := And.intro h2.1 h2; have H2 := Lib.hid hh; clear h2 hh)
      go_ret
      exact H2.out
    rw [if_neg h94]
    have g94 : (c == 94) = false := by simpa using h94
    clear h94
    by_cases h36 : c = 36
    · subst h36
      rw [if_pos rfl]
      clear hcr hr g40 g91 g46 g94
      go_enter Tryd.func36, Tryd.ntmps36
      go_upto_region 19 with (go_at_call 40; refine C.mono ?_; rintro e w1 ⟨rfl, hp1, hm1⟩; have H1 := Lib.hid (And.intro hp1 hm1); clear hp1 hm1)
      have CN := fr_node 7 [] s hdm (by omega) H1.out.1 H1.out.2 (.slice none 0 0) (World.ownsRow_nil _ _ _ _) (fun k hk => by cases hk)
      go_wp2_with (go_at_call 33; refine CN.mono ?_; rintro e w2 h2; obtain ⟨rfl, hh⟩ := And.intro h2.1 h2; have H2 := Lib.hid hh; clear h2 hh)
      go_ret
      exact H2.out
    rw [if_neg h36]
    have g36 : (c == 36) = false := by simpa using h36
    clear h36
    by_cases h92 : c = 92
    · subst h92
      rw [if_pos rfl]
      have CE := Lib.hid (fun W hW => par_escape (X := X) p W s L deep most hst hW)
      obtain ⟨XX, hX⟩ : ∃ XX, escP s = XX := ⟨_, rfl⟩
      rw [hX] at CE ⊢
      clear hcr hr g40 g91 g46 g94 g36 hX
      go_enter Tryd.func36, Tryd.ntmps36
      go_upto_region 21 with (go_at_call 40; refine C.mono ?_; rintro e w1 ⟨rfl, hp1, hm1⟩; have H1 := Lib.hid (And.intro hp1 hm1); clear hp1 hm1)
      have CE1 := CE.out _ H1.out.1
      cases XX with
      | none =>
        go_wp2_with (go_at_call 42; refine CE1.mono ?_; rintro e w3 ⟨rfl, hb⟩)
        exact ⟨rfl, rfl, H1.out.2.low.trans hb⟩
      | some x =>
        obtain ⟨u, r1⟩ := x
        have HN := Lib.hid (fun W tv (hp : PS X W p r1 L deep most) (hm : Mvd p w W) ho hz => fr_node (w' := w) 2 u r1 hdm (by omega) hp hm tv ho hz)
        go_wp2_with (first | (go_at_call 42; refine CE1.mono ?_; rintro e w3 ⟨v3, rfl, ho3, hp3, hm3⟩; obtain ⟨va, vc, rfl⟩ := owns_slice ho3; have CN := HN.out _ _ hp3 (H1.out.2.trans hm3) (owns_base ho3 H1.out.1.lt) (fun k hk hx => (by have := (ho3.lt k hk).1; have := HOLD.out k hx; have := H1.out.2.size; omega)); have H3 := Lib.hid (And.intro ho3 (And.intro hp3 hm3)); clear ho3 hp3 hm3) | (go_at_call 33; refine CN.mono ?_; rintro e w2 h2; obtain ⟨rfl, hh⟩ := And.intro h2.1 h2; have H2 := Lib.hid hh; clear h2 hh))
        go_ret
        exact H2.out
    rw [if_neg h92]
    have g92 : (c == 92) = false := by simpa using h92
    clear h92
    have HC := Lib.hid (fun W => contains_special r W hr)
    unfold specialT at HC
    rw [← hcr] at HC
    clear hcr hr
    by_cases hm : c ∈ special
    · rw [if_pos hm]
      rw [decide_eq_true hm] at HC
      clear hm
      show Calls _ _ _ _ (Fell p w)
      go_enter Tryd.func36, Tryd.ntmps36
      go_wp2_with (first | (go_at_call 40; refine C.mono ?_; rintro e w1 ⟨rfl, hp1, hm1⟩; have H1 := Lib.hid (And.intro hp1 hm1); clear hp1 hm1) | (go_at_call 43; refine (HC.out _).mono ?_; rintro e w2 ⟨rfl, hb⟩) | (go_at_call 18; refine (par_mustnt p _).mono ?_; rintro e w3 ⟨rfl, rfl⟩))
      exact ⟨rfl, rfl, H1.out.2.low.trans (hb.mono (Nat.le_of_lt H1.out.1.lt))⟩
    · rw [if_neg hm]
      rw [decide_eq_false hm] at HC
      clear hm
      go_enter Tryd.func36, Tryd.ntmps36
      go_upto_region 4 with (first | (go_at_call 40; refine C.mono ?_; rintro e w1 ⟨rfl, hp1, hm1⟩; have H1 := Lib.hid (And.intro hp1 hm1); clear hp1 hm1) | (go_at_call 43; refine (HC.out _).mono ?_; rintro e w2 ⟨rfl, hb⟩) | (go_at_call 18; refine (par_must p _).mono ?_; rintro e w3 ⟨rfl, rfl⟩))
      have hb2 := belowA' (o := .cells #[.int .i32 c, .int .i32 c] 21) (Below.refl w2.heap.size w2) (Nat.le_refl _)
      have ho := owns_new w2 #[.int .i32 c, .int .i32 c] 21 2 (by simp) (by unfold maxLen; omega)
      have hp2 := H1.out.1.mvdB hb
      have CN := fr_node 2 [c, c] s hdm (by omega) (hp2.mvdB hb2) ((H1.out.2.trans (Mvd.ofBelow hb (Nat.le_of_lt H1.out.1.lt))).trans (Mvd.ofBelow hb2 (Nat.le_of_lt hp2.lt))) _ (owns_base ho hp2.lt) (fun k hk hx => by cases hk; have h1 : w2.heap.size < w.heap.size := HOLD.out _ hx; have := H1.out.2.size; have := hb.size; omega)
      clear ho hp2
      go_wp2_with (go_at_call 33; refine CN.mono ?_; rintro e w4 h2; obtain ⟨rfl, hh⟩ := And.intro h2.1 h2; have H2 := Lib.hid hh; clear h2 hh)
      go_ret
      exact H2.out
end Go.Proofs.YthmhmckkkceclaaDoor
/-
  The program's parser: item, row, alt.
-/
namespace Go.Proofs.YthmhmckkkceclaaDoor
open Go.RowKit
theorem EIn : ElemT Tryd.prog 30 3 (.int .i64 0) 1 8 := ⟨Tryd.underlying30, by kernel_rfl, rfl, by decide⟩
theorem fr_rep {X : Nat → Prop} {p : Nat} {w w' : World} {L : List Nd} {deep most : Nat} {f : Frag} {lo hi : Int} {r : List Int} {q : Nat} (hf : f.nodes ≠ []) (hq : L.length + f.nodes.length - 1 = q) (h : PS X w' p r (L ++ mv L.length f.nodes ++ [⟨5, [q], lo, hi, []⟩]) deep (max most (deep + f.deep))) (hm : Mvd p w w') :
    FrEnd X p w L deep most (some (repF f lo hi, r)) (.returned (.int .i64 (((L ++ mv L.length f.nodes).length : Nat) : Int))) w' := by
  have hpos := List.length_pos_iff.2 hf
  refine ⟨?_, ?_, hm⟩
  · congr 3
    rw [List.length_append, mv_length]
    show _ = L.length + (f.nodes ++ [_]).length - 1
    rw [List.length_append, List.length_singleton]
    omega
  · have e : mv L.length (repF f lo hi).nodes = mv L.length f.nodes ++ [⟨5, [q], lo, hi, []⟩] := by
      show mv L.length (f.nodes ++ [_]) = _
      rw [mv_append]
      congr 1
      show [Nd.mv _ _] = _
      unfold Nd.mv
      simp only [List.map_cons, List.map_nil]
      rw [show f.nodes.length - 1 + L.length = q by omega]
    rw [e, ← List.append_assoc]
    exact h
theorem own_kid (w : World) (q : Nat) : (w.alloc (.cells #[.int .i64 (q : Int)] 3)).ownsRow w.heap.size 3 1 (.slice (some ⟨w.heap.size, 0, none⟩) 1 1) 1 [iCell q] :=
  owns_new w #[.int .i64 (q : Int)] 3 1 rfl (by unfold maxLen; omega)
theorem dig_range {s r : List Int} {d : Int} (h : digP s = some (d, r)) : 0 ≤ d ∧ d ≤ 8 := by
  cases s with
  | nil => cases h
  | cons c s =>
    simp only [digP] at h
    split at h
    · cases h
      omega
    · cases h
/-- The node of a repetition. -/
theorem rep_node {X : Nat → Prop} {p : Nat} {w w1 : World} {L : List Nd} {deep most : Nat} {f : Frag} (lo hi : Int) {r : List Int} {q : Nat} (hf : f.nodes ≠ []) (hq : L.length + f.nodes.length - 1 = q) (hl : L.length + f.nodes.length ≤ 100000) (h : PS X w1 p r (L ++ mv L.length f.nodes) deep (max most (deep + f.deep))) (hm : Mvd p w w1) (hX : ∀ k, X k → k < w.heap.size) :
    Calls Tryd.prog 33 #[.pointer (some ⟨p, 0, none⟩), .agg #[.int .i64 5, .slice (some ⟨w1.heap.size, 0, none⟩) 1 1, .int .i64 lo, .int .i64 hi, .slice none 0 0]] (w1.alloc (.cells #[.int .i64 (q : Int)] 3)) (FrEnd X p w L deep most (some (repF f lo hi, r))) := by
  have hb := belowA' (o := .cells #[.int .i64 (q : Int)] 3) (Below.refl w1.heap.size w1) (Nat.le_refl _)
  refine (par_node p _ r _ deep _ (h.mvdB hb) ⟨5, [q], lo, hi, []⟩ _ (.slice none 0 0) ⟨owns_base (own_kid w1 q) h.lt, World.ownsRow_nil _ _ _ _⟩ (fun k hk hx => hk.elim (fun hk => by cases hk; have h1 : w1.heap.size < w.heap.size := hX _ hx; have := hm.size; omega) (fun h => by cases h)) (by rw [List.length_append, mv_length]; exact hl)).mono ?_
  rintro e w2 ⟨rfl, h2, h3⟩
  exact fr_rep hf hq h2 ((hm.trans (Mvd.ofBelow hb (Nat.le_of_lt h.lt))).trans h3)
set_option maxRecDepth 100000 in
set_option maxHeartbeats 20000000 in
theorem par_item (n : Nat) (alt : List Int → Res Frag) (hpart : ∀ s f r, alt s = some (f, r) → Part 1 s f r) (IH : Does 36 n (atomP alt)) : Does 32 n (itemP alt) := by
  intro X p w s L deep most hn h
  have C := IH X p w s L deep most hn h
  have HOLD := Lib.hid h.old
  have hls := h.ls
  have hru := h.scal.runes
  obtain ⟨Y, hY⟩ : ∃ Y, itemP alt s = Y := ⟨_, rfl⟩
  rw [hY]
  have HY := Lib.hid hY
  cases hat : atomP alt s with
  | none =>
    have hYn : Y = none := by
      rw [← HY.out]
      unfold itemP
      rw [hat]
    rw [hat] at C
    have HYN := Lib.hid hYn
    clear hYn hat hY IH h hru
    go_enter Tryd.func32, Tryd.ntmps32
    go_wp2_with (go_at_call 36; refine C.mono ?_; rintro e w1 ⟨rfl, hb⟩)
    refine ⟨rfl, ?_⟩
    rw [HYN.out]
    exact ⟨rfl, hb⟩
  | some x =>
    obtain ⟨f, r1⟩ := x
    have hpt := atom_part s hpart hat
    have hf := hpt.some
    have hfl := hpt.few
    have hru1 := runes_suf hru hpt.suf
    rw [hat] at C
    have hit : itemP alt s = match repP r1 with
        | none => none
        | some (x, r2) => some (repV f x, r2) := by
      unfold itemP
      rw [hat]
      rfl
    rw [hY] at hit
    have HIT := Lib.hid hit
    have HRU := Lib.hid hru1
    obtain ⟨q, hq⟩ : ∃ q, L.length + f.nodes.length - 1 = q := ⟨_, rfl⟩
    have C1 : Calls Tryd.prog 36 #[.pointer (some ⟨p, 0, none⟩)] w fun e w' => e = .returned (.int .i64 (q : Int)) ∧ PS X w' p r1 (L ++ mv L.length f.nodes) deep (max most (deep + f.deep)) ∧ Mvd p w w' := by
      rw [← hq]
      exact C
    have HQ := Lib.hid hq
    have hlen : L.length + f.nodes.length ≤ 100000 := by omega
    have HND := Lib.hid (fun w1 r lo hi (hp : PS X w1 p r (L ++ mv L.length f.nodes) deep (max most (deep + f.deep))) (hm : Mvd p w w1) => rep_node lo hi hf HQ.out hlen hp hm HOLD.out)
    have HEQ := Lib.hid (fun w1 (hp : PS X w1 p r1 (L ++ mv L.length f.nodes) deep (max most (deep + f.deep))) (hm : Mvd p w w1) => (⟨by rw [HQ.out], hp, hm⟩ : FrEnd X p w L deep most (some (f, r1)) (.returned (.int .i64 (q : Int))) w1))
    clear hY hat C hq hpt hf hfl hru hru1 hit IH h hn HY
    go_enter Tryd.func32, Tryd.ntmps32
    go_upto_region 4 with (go_at_call 36; refine C1.mono ?_; rintro e w1 ⟨rfl, hp1, hm1⟩; have H1 := Lib.hid (And.intro hp1 hm1); clear hp1 hm1)
    clear C1
    cases hn42 : nextP 42 r1 with
    | some r2 =>
      have hYX : Y = some (repF f 0 (-1), r2) := by
        rw [HIT.out]
        unfold repP
        rw [hn42]
        rfl
      have HYX := Lib.hid hYX
      have hr := next_ends hn42
      subst hr
      have CY := par_next_yes p w1 r2 _ _ _ 42 H1.out.1
      clear hYX hn42 
      go_upto_region 15 with (go_at_call 25; refine CY.mono ?_; rintro e w2 ⟨rfl, hp9, hm9⟩; have H2 := Lib.hid (And.intro hp9 hm9); clear hp9 hm9)
      have CND := HND.out w2 r2 (0) (-1) H2.out.1 (H1.out.2.trans H2.out.2)
      go_wp2_with (go_at_call 33; refine CND.mono ?_; rintro e wn hn2; obtain ⟨rfl, hh⟩ := And.intro hn2.1 hn2; have HN2 := Lib.hid hh; clear hn2 hh)
      go_ret
      rw [HYX.out]
      exact HN2.out
    | none =>
      have CN42 := par_next_no p w1 r1 _ _ _ 42 H1.out.1 hn42
      go_upto_region 5 with (go_at_call 25; refine CN42.mono ?_; rintro e wz ⟨rfl, rfl⟩)
      clear CN42
      cases hn43 : nextP 43 r1 with
      | some r2 =>
        have hYX : Y = some (repF f 1 (-1), r2) := by
          rw [HIT.out]
          unfold repP
          rw [hn42]
          simp only
          rw [hn43]
          rfl
        have HYX := Lib.hid hYX
        have hr := next_ends hn43
        subst hr
        have CY := par_next_yes p w1 r2 _ _ _ 43 H1.out.1
        clear hYX hn43 hn42
        go_upto_region 15 with (go_at_call 25; refine CY.mono ?_; rintro e w2 ⟨rfl, hp9, hm9⟩; have H2 := Lib.hid (And.intro hp9 hm9); clear hp9 hm9)
        have CND := HND.out w2 r2 (1) (-1) H2.out.1 (H1.out.2.trans H2.out.2)
        go_wp2_with (go_at_call 33; refine CND.mono ?_; rintro e wn hn2; obtain ⟨rfl, hh⟩ := And.intro hn2.1 hn2; have HN2 := Lib.hid hh; clear hn2 hh)
        go_ret
        rw [HYX.out]
        exact HN2.out
      | none =>
        have CN43 := par_next_no p w1 r1 _ _ _ 43 H1.out.1 hn43
        go_upto_region 7 with (go_at_call 25; refine CN43.mono ?_; rintro e wz ⟨rfl, rfl⟩)
        clear CN43
        cases hn63 : nextP 63 r1 with
        | some r2 =>
          have hYX : Y = some (repF f 0 1, r2) := by
            rw [HIT.out]
            unfold repP
            rw [hn42]
            simp only
            rw [hn43]
            simp only
            rw [hn63]
            rfl
          have HYX := Lib.hid hYX
          have hr := next_ends hn63
          subst hr
          have CY := par_next_yes p w1 r2 _ _ _ 63 H1.out.1
          clear hYX hn63 hn42 hn43
          go_upto_region 15 with (go_at_call 25; refine CY.mono ?_; rintro e w2 ⟨rfl, hp9, hm9⟩; have H2 := Lib.hid (And.intro hp9 hm9); clear hp9 hm9)
          have CND := HND.out w2 r2 (0) (1) H2.out.1 (H1.out.2.trans H2.out.2)
          go_wp2_with (go_at_call 33; refine CND.mono ?_; rintro e wn hn2; obtain ⟨rfl, hh⟩ := And.intro hn2.1 hn2; have HN2 := Lib.hid hh; clear hn2 hh)
          go_ret
          rw [HYX.out]
          exact HN2.out
        | none =>
          have CN63 := par_next_no p w1 r1 _ _ _ 63 H1.out.1 hn63
          go_upto_region 9 with (go_at_call 25; refine CN63.mono ?_; rintro e wz ⟨rfl, rfl⟩)
          clear CN63
          cases hn123 : nextP 123 r1 with
          | none =>
            have hYX : Y = some (f, r1) := by
              rw [HIT.out]
              unfold repP
              rw [hn42]
              simp only
              rw [hn43]
              simp only
              rw [hn63]
              simp only
              rw [hn123]
              rfl
            have HYX := Lib.hid hYX
            have CN := par_next_no p w1 r1 _ _ _ 123 H1.out.1 hn123
            clear hYX hn123 hn42 hn43 hn63
            go_wp2_with (go_at_call 25; refine CN.mono ?_; rintro e wz ⟨rfl, rfl⟩)
            go_ret
            rw [HYX.out]
            exact HEQ.out _ H1.out.1 H1.out.2
          | some r2 =>
            have hYX : Y = match braP r2 with
                | none => none
                | some (x, r3) => some (repF f x.1 x.2, r3) := by
              rw [HIT.out]
              unfold repP
              rw [hn42]
              simp only
              rw [hn43]
              simp only
              rw [hn63]
              simp only
              rw [hn123]
              simp only
              cases braP r2 with
              | none => rfl
              | some x => rfl
            have HYX := Lib.hid hYX
            have hr := next_ends hn123
            subst hr
            have hru2 : Runes r2 := fun c hc => HRU.out c (by simp [hc])
            have HRU2 := Lib.hid hru2
            have CY := par_next_yes p w1 r2 _ _ _ 123 H1.out.1
            clear hYX hn123 hn42 hn43 hn63 hru2
            go_upto_region 10 with (go_at_call 25; refine CY.mono ?_; rintro e w2 ⟨rfl, hp9, hm9⟩; have H2 := Lib.hid (And.intro hp9 hm9); clear hp9 hm9)
            have CD := par_digit p w2 r2 _ _ _ HRU2.out H2.out.1
            have hm2 := H1.out.2.trans H2.out.2
            cases hd : digP r2 with
            | none =>
              have hYN : Y = none := by
                rw [HYX.out]
                unfold braP
                rw [hd]
              have HYN := Lib.hid hYN
              rw [hd] at CD
              clear hYN hd
              go_wp2_with (go_at_call 37; refine CD.mono ?_; rintro e w3 ⟨rfl, hb⟩)
              refine ⟨rfl, ?_⟩
              rw [HYN.out]
              exact ⟨rfl, hm2.low.trans hb⟩
            | some x =>
              obtain ⟨lo, r3⟩ := x
              have hds := (dig_ends _ _ _ hd).1
              have HRU3 := Lib.hid (runes_suf HRU2.out hds)
              have hlr : 0 ≤ lo ∧ lo ≤ 8 := dig_range hd
              have HD := Lib.hid hd
              rw [hd] at CD
              clear hd hds
              obtain ⟨hl0, hl8⟩ := hlr
              go_upto_region 12 with (go_at_call 37; refine CD.mono ?_; rintro e w3 ⟨rfl, hp9, hm9⟩; have H3 := Lib.hid (And.intro hp9 hm9); clear hp9 hm9)
              have hm3 := hm2.trans H3.out.2
              cases hn44 : nextP 44 r3 with
              | none =>
                have CN := par_next_no p w3 r3 _ _ _ 44 H3.out.1 hn44
                have hbr : braP r2 = brEnd lo lo r3 := by
                  unfold braP
                  rw [HD.out]
                  simp only
                  rw [hn44]
                have HBR := Lib.hid hbr
                clear hbr hn44
                go_upto_region 14 with (go_at_call 25; refine CN.mono ?_; rintro e wz ⟨rfl, rfl⟩)
                by_cases hle : lo ≤ lo
                · have hled : decide (lo ≤ lo) = true := decide_eq_true hle
                  cases hn125 : nextP 125 r3 with
                  | none =>
                    have hYN : Y = none := by
                      rw [HYX.out, HBR.out]
                      unfold brEnd
                      rw [if_pos hle, hn125]
                    have HYN := Lib.hid hYN
                    have CN := par_next_no p w3 r3 _ _ _ 125 H3.out.1 hn125
                    clear hYN hn125
                    go_wp2_with (first | (go_at_call 25; refine CN.mono ?_; rintro e wz ⟨rfl, rfl⟩) | (go_at_call 18; refine (par_mustnt p _).mono ?_; rintro e wm ⟨rfl, rfl⟩))
                    refine ⟨rfl, ?_⟩
                    rw [HYN.out]
                    exact ⟨rfl, hm3.low⟩
                  | some r9 =>
                    have hYN : Y = some (repF f lo lo, r9) := by
                      rw [HYX.out, HBR.out]
                      unfold brEnd
                      rw [if_pos hle, hn125]
                    have HYN := Lib.hid hYN
                    have hr := next_ends hn125
                    subst hr
                    have CY := par_next_yes p w3 r9 _ _ _ 125 H3.out.1
                    clear hYN hn125
                    go_upto_region 15 with (first | (go_at_call 25; refine CY.mono ?_; rintro e w9 ⟨rfl, hp9, hm9⟩; have H9 := Lib.hid (And.intro hp9 hm9); clear hp9 hm9) | (go_at_call 18; refine (par_must p _).mono ?_; rintro e wm ⟨rfl, rfl⟩))
                    have CND := HND.out w9 r9 lo lo H9.out.1 (hm3.trans H9.out.2)
                    go_wp2_with (go_at_call 33; refine CND.mono ?_; rintro e wn hn2; obtain ⟨rfl, hh⟩ := And.intro hn2.1 hn2; have HN2 := Lib.hid hh; clear hn2 hh)
                    go_ret
                    rw [HYN.out]
                    exact HN2.out
                · exact absurd (Int.le_refl _) hle
              | some r4 =>
                have hbr : braP r2 = match digP r4 with
                    | none => none
                    | some (hi, r5) => brEnd lo hi r5 := by
                  unfold braP
                  rw [HD.out]
                  simp only
                  rw [hn44]
                  rfl
                have hr := next_ends hn44
                subst hr
                have hru4 : Runes r4 := fun c hc => HRU3.out c (by simp [hc])
                have CY := par_next_yes p w3 r4 _ _ _ 44 H3.out.1
                have HRU4 := Lib.hid hru4
                clear hn44 hru4
                go_upto_region 13 with (go_at_call 25; refine CY.mono ?_; rintro e w4 ⟨rfl, hp9, hm9⟩; have H4 := Lib.hid (And.intro hp9 hm9); clear hp9 hm9)
                have CD2 := par_digit p w4 r4 _ _ _ HRU4.out H4.out.1
                have hm4 := hm3.trans H4.out.2
                cases hd2 : digP r4 with
                | none =>
                  have hYN : Y = none := by
                    rw [HYX.out, hbr, hd2]
                  have HYN := Lib.hid hYN
                  rw [hd2] at CD2
                  clear hYN hd2 hbr
                  go_wp2_with (go_at_call 37; refine CD2.mono ?_; rintro e w5 ⟨rfl, hb⟩)
                  refine ⟨rfl, ?_⟩
                  rw [HYN.out]
                  exact ⟨rfl, hm4.low.trans hb⟩
                | some y =>
                  obtain ⟨hi, r5⟩ := y
                  rw [hd2] at CD2 hbr
                  simp only at hbr
                  obtain ⟨hh0, hh8⟩ := dig_range hd2
                  have HBR := Lib.hid hbr
                  clear hd2 hbr
                  go_upto_region 14 with (go_at_call 37; refine CD2.mono ?_; rintro e w5 ⟨rfl, hp9, hm9⟩; have H5 := Lib.hid (And.intro hp9 hm9); clear hp9 hm9)
                  have hm5 := hm4.trans H5.out.2
                  by_cases hle : lo ≤ hi
                  · have hled : decide (lo ≤ hi) = true := decide_eq_true hle
                    cases hn125 : nextP 125 r5 with
                    | none =>
                      have hYN : Y = none := by
                        rw [HYX.out, HBR.out]
                        unfold brEnd
                        rw [if_pos hle, hn125]
                      have HYN := Lib.hid hYN
                      have CN := par_next_no p w5 r5 _ _ _ 125 H5.out.1 hn125
                      clear hYN hn125
                      go_wp2_with (first | (go_at_call 25; refine CN.mono ?_; rintro e wz ⟨rfl, rfl⟩) | (go_at_call 18; refine (par_mustnt p _).mono ?_; rintro e wm ⟨rfl, rfl⟩))
                      refine ⟨rfl, ?_⟩
                      rw [HYN.out]
                      exact ⟨rfl, hm5.low⟩
                    | some r9 =>
                      have hYN : Y = some (repF f lo hi, r9) := by
                        rw [HYX.out, HBR.out]
                        unfold brEnd
                        rw [if_pos hle, hn125]
                      have HYN := Lib.hid hYN
                      have hr := next_ends hn125
                      subst hr
                      have CY := par_next_yes p w5 r9 _ _ _ 125 H5.out.1
                      clear hYN hn125
                      go_upto_region 15 with (first | (go_at_call 25; refine CY.mono ?_; rintro e w9 ⟨rfl, hp9, hm9⟩; have H9 := Lib.hid (And.intro hp9 hm9); clear hp9 hm9) | (go_at_call 18; refine (par_must p _).mono ?_; rintro e wm ⟨rfl, rfl⟩))
                      have CND := HND.out w9 r9 lo hi H9.out.1 (hm5.trans H9.out.2)
                      go_wp2_with (go_at_call 33; refine CND.mono ?_; rintro e wn hn2; obtain ⟨rfl, hh⟩ := And.intro hn2.1 hn2; have HN2 := Lib.hid hh; clear hn2 hh)
                      go_ret
                      rw [HYN.out]
                      exact HN2.out
                  · have hled : decide (lo ≤ hi) = false := decide_eq_false hle
                    have hYN : Y = none := by
                      rw [HYX.out, HBR.out]
                      unfold brEnd
                      rw [if_neg hle]
                    have HYN := Lib.hid hYN
                    clear hYN
                    go_wp2_with (go_at_call 18; refine (par_mustnt p _).mono ?_; rintro e wm ⟨rfl, rfl⟩)
                    refine ⟨rfl, ?_⟩
                    rw [HYN.out]
                    exact ⟨rfl, hm5.low⟩
/-! ### A row -/
theorem catN_snoc (fs : List Frag) (f : Frag) : catN (fs ++ [f]) = catN fs ++ mv (catN fs).length f.nodes := by
  induction fs with
  | nil =>
    show f.nodes ++ [] = [] ++ mv 0 f.nodes
    rw [mv_zero]
    simp
  | cons g fs ih =>
    show g.nodes ++ mv g.nodes.length (catN (fs ++ [f])) = (g.nodes ++ mv g.nodes.length (catN fs)) ++ mv (g.nodes ++ mv g.nodes.length (catN fs)).length f.nodes
    rw [ih, mv_append, mv_mv, List.length_append, mv_length, List.append_assoc, Nat.add_comm (catN fs).length]
theorem rootsN_snoc (f : Frag) : ∀ (fs : List Frag) (b : Nat), rootsN b (fs ++ [f]) = rootsN b fs ++ [b + (catN fs).length + f.nodes.length - 1]
  | [], b => by simp [rootsN, catN]
  | g :: fs, b => by
    show (b + g.nodes.length - 1) :: rootsN (b + g.nodes.length) (fs ++ [f]) = (b + g.nodes.length - 1) :: rootsN (b + g.nodes.length) fs ++ _
    rw [rootsN_snoc f fs, catN_cons]
    simp [Nat.add_assoc]
theorem rootsN_len : ∀ (fs : List Frag) (b : Nat), (rootsN b fs).length = fs.length
  | [], _ => rfl
  | f :: fs, b => by
    show (rootsN _ fs).length + 1 = _
    rw [rootsN_len fs, List.length_cons]
theorem deepF_snoc (fs : List Frag) (f : Frag) : deepF (fs ++ [f]) = max (deepF fs) f.deep := by
  induction fs with
  | nil => simp [deepF]
  | cons g fs ih =>
    show max g.deep (deepF (fs ++ [f])) = max (max g.deep (deepF fs)) f.deep
    rw [ih]
    omega
theorem rootsN_mv (k : Nat) : ∀ (fs : List Frag) (b : Nat), (∀ f ∈ fs, f.nodes ≠ []) → (rootsN b fs).map (· + k) = rootsN (b + k) fs
  | [], _, _ => rfl
  | f :: fs, b, h => by
    have hp : 0 < f.nodes.length := List.length_pos_iff.2 (h f (by simp))
    show (b + f.nodes.length - 1 + k) :: (rootsN (b + f.nodes.length) fs).map (· + k) = (b + k + f.nodes.length - 1) :: rootsN (b + k + f.nodes.length) fs
    rw [rootsN_mv k fs _ (fun g hg => h g (by simp [hg]))]
    rw [show b + f.nodes.length - 1 + k = b + k + f.nodes.length - 1 by omega, show b + f.nodes.length + k = b + k + f.nodes.length by omega]
/-- Many parts under one node. -/
theorem many_mv (kind : Int) (fs : List Frag) (h1 : fs.length ≠ 1) (h : ∀ f ∈ fs, f.nodes ≠ []) (k : Nat) : mv k (manyP kind fs).nodes = mv k (catN fs) ++ [⟨kind, rootsN k fs, 0, 0, []⟩] ∧ (manyP kind fs).deep = deepF fs := by
  have e : manyP kind fs = ⟨catN fs ++ [⟨kind, rootsN 0 fs, 0, 0, []⟩], deepF fs⟩ := by
    match fs, h1 with
    | [], _ => rfl
    | [f], h1 => exact absurd rfl h1
    | f :: g :: fs, _ => rfl
  rw [e]
  refine ⟨?_, rfl⟩
  show mv k (catN fs ++ [_]) = _
  rw [mv_append]
  congr 1
  show [Nd.mv k _] = _
  unfold Nd.mv
  simp only
  rw [rootsN_mv k fs 0 h, Nat.zero_add]
/-- The end of a row: many. -/
theorem par_many_end {X : Nat → Prop} (p : Nat) (w w1 : World) (L : List Nd) (deep most : Nat) (kind : Int) (fs : List Frag) (r : List Int) (hne : fs ≠ []) (h : ∀ f ∈ fs, f.nodes ≠ []) (hl : L.length + (catN fs).length ≤ 100000)
    (hp : PS X w1 p r (L ++ mv L.length (catN fs)) deep (max most (deep + deepF fs))) (hm : Mvd p w w1) (v : Value) (hv : w1.ownsRow (p + 1) 3 1 v fs.length ((rootsN L.length fs).map iCell)) (hvf : ∀ k, v.ownBlock = some k → ¬ X k) :
    Calls Tryd.prog 26 #[.pointer (some ⟨p, 0, none⟩), .int .i64 kind, v] w1 (FrEnd X p w L deep most (some (manyP kind fs, r))) := by
  by_cases h1 : fs.length = 1
  · match fs, h1 with
    | [f], _ =>
      have hf := List.length_pos_iff.2 (h f (by simp))
      refine (par_many_one p w1 (p + 1) kind v (L.length + f.nodes.length - 1) hv).mono ?_
      rintro e w2 ⟨rfl, rfl⟩
      refine ⟨rfl, ?_, hm⟩
      have e1 : catN [f] = f.nodes := by simp [catN, mv]
      have e2 : deepF [f] = f.deep := by simp [deepF]
      rw [e1, e2] at hp
      exact hp
  · obtain ⟨e1, e2⟩ := many_mv kind fs h1 h L.length
    have hv' : w1.ownsRow (p + 1) 3 1 v (rootsN L.length fs).length ((rootsN L.length fs).map iCell) := by rw [rootsN_len]; exact hv
    refine (par_many p w1 r _ deep _ hp kind v (rootsN L.length fs) (by rw [rootsN_len]; exact h1) hv' hvf (by rw [List.length_append, mv_length]; exact hl)).mono ?_
    rintro e w2 ⟨rfl, h2, h3⟩
    refine ⟨?_, by rw [e1, e2, ← List.append_assoc]; exact h2, hm.trans h3⟩
    have e3 := congrArg List.length e1
    rw [mv_length, List.length_append, mv_length, List.length_singleton] at e3
    rw [e3, List.length_append, mv_length]
    rfl
end Go.Proofs.YthmhmckkkceclaaDoor
/-
  The program's parser: row, alt.
-/
namespace Go.Proofs.YthmhmckkkceclaaDoor
open Go.RowKit
/-- A row of the call's own grows in a block that no node has. -/
theorem PS.beside {X : Nat → Prop} {w0 w w9 : World} {p : Nat} {s : List Int} {L : List Nd} {deep most : Nat} {size n : Nat} {v : Value} {xs : List Value} (h : PS X w p s L deep most) (hm : Mvd p w0 w) (hp0 : p < w0.heap.size) (hg : w.grownBy w9 v.ownBlock) (hv : w.ownsRow w0.heap.size 3 size v n xs) (hX : ∀ k, v.ownBlock = some k → X k) :
    PS X w9 p s L deep most ∧ Mvd p w0 w9 := by
  have hpl := h.lt
  obtain ⟨sv, ov, Z, h, hL, hf⟩ := h
  have hlow : Below p w w9 := ⟨hg.os, hg.tape, hg.output, hg.size, fun k hk => hg.block k (Nat.lt_trans hk hpl) (fun e => by have := (hv.lt k e.symm).1; omega)⟩
  have hkept : ∀ {e : TypeId} {size' n' : Nat} {v' : Value} {xs' : List Value}, w.ownsRow (p + 1) e size' v' n' xs' → (∀ k, v'.ownBlock = some k → v.ownBlock ≠ some k) → w9.ownsRow (p + 1) e size' v' n' xs' := fun ho hne => ho.kept hg (by
    rename_i v' _
    cases hv' : v'.ownBlock with
    | none => exact .inl rfl
    | some j => exact .inr fun e => hne j hv' e.symm)
  refine ⟨⟨sv, ov, Z, ⟨?_, fun W hW => h.row W (hlow.trans hW), ⟨hkept h.out.own fun k hk e => own_apartX hv h.out.own (by decide) e hk, fun z hz => ⟨hkept (h.out.parts z hz).1 fun k hk e => hf z hz k (.inl hk) (hX k e), hkept (h.out.parts z hz).2 fun k hk e => hf z hz k (.inr hk) (hX k e)⟩⟩⟩, hL, hf⟩, hm.low.trans hlow, fun k hk hT => ?_⟩
  · rw [hg.block p hpl (fun e => by have := (hv.lt p e.symm).1; omega)]
    exact h.own
  · rw [hg.block k (Nat.lt_of_lt_of_le hk hm.size) (fun e => by have := (hv.lt k e.symm).1; omega), hm.off k hk hT]
/-- What is new is free. -/
theorem PS.fresh {X : Nat → Prop} {w : World} {p : Nat} {s : List Int} {L : List Nd} {deep most : Nat} (h : PS X w p s L deep most) : PS (fun k => X k ∨ w.heap.size ≤ k) w p s L deep most := by
  obtain ⟨sv, ov, Z, h, hL, hf⟩ := h
  refine ⟨sv, ov, Z, h, hL, fun z hz k hk hx => hx.elim (hf z hz k hk) fun hx => ?_⟩
  rcases hk with hk | hk
  · have := ((h.out.parts z hz).1.lt k hk).2
    omega
  · have := ((h.out.parts z hz).2.lt k hk).2
    omega
/-- The parts so far, one more. -/
theorem parts_more (L : List Nd) (fs : List Frag) (f : Frag) : L ++ mv L.length (catN fs) ++ mv (L ++ mv L.length (catN fs)).length f.nodes = L ++ mv L.length (catN (fs ++ [f])) := by
  rw [catN_snoc, mv_append, mv_mv, List.length_append, mv_length, List.append_assoc, Nat.add_comm L.length]
def rowRest (fs : List Frag) : Res (List Frag) → Res (List Frag)
  | none => none
  | some (gs, r) => some (fs ++ gs, r)
def rowOf : Res (List Frag) → Res Frag
  | none => none
  | some (fs, r) => some (rowF fs, r)
theorem rowP_of (alt : List Int → Res Frag) (s : List Int) : rowP alt s = rowOf (rowL alt s.length s) := by
  unfold rowP
  cases rowL alt s.length s <;> rfl
set_option maxRecDepth 100000 in
set_option maxHeartbeats 20000000 in
theorem par_row (n : Nat) (alt : List Int → Res Frag) (hpart : ∀ s f r, alt s = some (f, r) → Part 1 s f r) (IH : Does 32 n (itemP alt)) : Does 24 n (rowP alt) := by
  intro X p w s L deep most hn h
  have HOLD := Lib.hid h.old
  have HASK := Lib.hid h
  have hdm := h.dm
  have hds := h.ds
  have hls := h.ls
  have hlen := h.len
  have hpw := h.ps.lt
  obtain ⟨XX, hXX⟩ : ∃ XX, rowL alt s.length s = XX := ⟨_, rfl⟩
  obtain ⟨Y, hY⟩ : ∃ Y, rowP alt s = Y := ⟨_, rfl⟩
  have hYX : Y = rowOf XX := by rw [← hY, rowP_of, hXX]
  rw [hY]
  have HYX := Lib.hid hYX
  have HXX := Lib.hid hXX
  have HIT := Lib.hid IH
  clear hY hYX hXX IH h
  go_enter Tryd.func24, Tryd.ntmps24
  go_upto_region 2 with fail
  go_loopg [3] s.length (fun gk v wr => ∃ (fs : List Frag) (r : List Int), wr.ownsRow w.heap.size 3 1 v fs.length ((rootsN L.length fs).map iCell) ∧ PS (fun k => X k ∨ v.ownBlock = some k) wr p r (L ++ mv L.length (catN fs)) deep (max most (deep + deepF fs)) ∧ Mvd p w wr ∧ (∀ f ∈ fs, f.nodes ≠ []) ∧ r <:+ s ∧ (catN fs).length + 4 * r.length ≤ 4 * s.length ∧ rowRest fs (rowL alt gk r) = XX ∧ r.length ≤ gk ∧ fs.length + r.length ≤ s.length)
  case atStart =>
    refine ⟨[], s, World.ownsRow_nil _ _ _ _, ?_, Mvd.refl _ _, by simp, List.suffix_refl _, by simp [catN], ?_, Nat.le_refl _, by simp⟩
    · have e : max most (deep + deepF []) = most := by show max most (deep + 0) = most; omega
      rw [e]
      show PS _ w p s (L ++ mv L.length []) deep most
      rw [show mv L.length [] = [] from rfl, List.append_nil]
      exact HASK.out.ps.sub fun k hk => hk.elim id (fun h => by cases h)
    · rw [HXX.out]
      cases XX with
      | none => rfl
      | some x => rfl
  case round =>
    obtain ⟨fs, r, hown, hps, hmv, hne, hsf, hfew, hrest, hgk, hfl⟩ := hrel
    obtain ⟨va, vc, rfl⟩ := owns_slice hown
    obtain ⟨m, hm⟩ : ∃ m, fs.length = m := ⟨_, rfl⟩
    rw [hm] at hown hps hfl ⊢
    have HM := Lib.hid hm
    have HOWN := Lib.hid hown
    have HPS := Lib.hid hps
    have HMV := Lib.hid hmv
    have HNE := Lib.hid hne
    have HSF := Lib.hid hsf
    have HREST := Lib.hid hrest
    clear hm hown hmv hne hsf hrest
    by_cases hstop : r = [] ∨ ∃ c r', r = c :: r' ∧ (c = 124 ∨ c = 41)
    · have hXe : XX = some (fs, r) := by
        rw [← HREST.out]
        have : rowL alt gk r = some ([], r) := by
          rcases hstop with rfl | ⟨c, r', rfl, hc⟩
          · cases gk <;> rfl
          · cases gk <;> (unfold rowL; rw [if_pos hc])
        rw [this]
        show some (fs ++ [], r) = _
        rw [List.append_nil]
      have HXE := Lib.hid hXe
      obtain ⟨sv, ov, Z, hst, -⟩ := hps
      obtain ⟨⟨c0, -, -, -⟩, f0, -, -, -⟩ := hst.cells
      have HST := Lib.hid hst
      clear hXe hst
      rcases hstop with rfl | ⟨c, r', rfl, rfl | rfl⟩
      · obtain ⟨ba, bc, rfl⟩ := HST.out.back
        clear HST
        go_upto_region 4 with fail
        clear c0 f0
        cases fs with
        | nil =>
          have hm0 : m = 0 := HM.out.symm
          subst hm0
          have hp := HPS.out
          have e : max most (deep + deepF []) = most := by show max most (deep + 0) = most; omega
          rw [e, show mv L.length (catN []) = [] from rfl, List.append_nil] at hp
          have CN := fr_node (w' := w) 1 [] [] hdm (by omega) (hp.sub fun k hk => .inl hk) HMV.out (.slice none 0 0) (World.ownsRow_nil _ _ _ _) (fun k hk => by cases hk)
          clear hp e
          go_wp2_with (go_at_call 33; refine CN.mono ?_; rintro e w2 h2; obtain ⟨rfl, hh⟩ := And.intro h2.1 h2; have H2 := Lib.hid hh; clear h2 hh)
          go_ret
          rw [HYX.out, HXE.out]
          exact H2.out
        | cons g gs =>
          have hm1 : 0 < m := by rw [← HM.out]; simp
          have hmz : ((m : Int) == 0) = false := by simp; omega
          have CM := par_many_end p w wr L deep most 3 (g :: gs) [] (by simp) HNE.out (by simp only [List.length_cons] at *; omega) (HPS.out.sub fun k hk => .inl hk) HMV.out _ (owns_base (by rw [HM.out]; exact HOWN.out) hpw) (fun k hk hx => by have := (HOWN.out.lt k hk).1; have := HOLD.out k hx; omega)
          have HCM := Lib.hid CM
          clear CM
          go_wp2_with (go_at_call 26; refine HCM.out.mono ?_; rintro e w2 h2; obtain ⟨rfl, hh⟩ := And.intro h2.1 h2; have H2 := Lib.hid hh; clear h2 hh)
          go_ret
          rw [HYX.out, HXE.out]
          exact H2.out
      · obtain ⟨b, off, cap, rfl, h1, h2, hc, -⟩ := HST.out.front
        have hl2 : decide (0 < (r'.length : Int) + 1) = true := decide_eq_true (by omega)
        clear HST
        go_upto_region 4 with fail
        clear c0 f0 hl2
        cases fs with
        | nil =>
          have hm0 : m = 0 := HM.out.symm
          subst hm0
          have hp := HPS.out
          have e : max most (deep + deepF []) = most := by show max most (deep + 0) = most; omega
          rw [e, show mv L.length (catN []) = [] from rfl, List.append_nil] at hp
          have CN := fr_node (w' := w) 1 [] (124 :: r') hdm (by omega) (hp.sub fun k hk => .inl hk) HMV.out (.slice none 0 0) (World.ownsRow_nil _ _ _ _) (fun k hk => by cases hk)
          clear hp e
          go_wp2_with (go_at_call 33; refine CN.mono ?_; rintro e w2 h2; obtain ⟨rfl, hh⟩ := And.intro h2.1 h2; have H2 := Lib.hid hh; clear h2 hh)
          go_ret
          rw [HYX.out, HXE.out]
          exact H2.out
        | cons g gs =>
          have hm1 : 0 < m := by rw [← HM.out]; simp
          have hmz : ((m : Int) == 0) = false := by simp; omega
          have CM := par_many_end p w wr L deep most 3 (g :: gs) (124 :: r') (by simp) HNE.out (by simp only [List.length_cons] at *; omega) (HPS.out.sub fun k hk => .inl hk) HMV.out _ (owns_base (by rw [HM.out]; exact HOWN.out) hpw) (fun k hk hx => by have := (HOWN.out.lt k hk).1; have := HOLD.out k hx; omega)
          have HCM := Lib.hid CM
          clear CM
          go_wp2_with (go_at_call 26; refine HCM.out.mono ?_; rintro e w2 h2; obtain ⟨rfl, hh⟩ := And.intro h2.1 h2; have H2 := Lib.hid hh; clear h2 hh)
          go_ret
          rw [HYX.out, HXE.out]
          exact H2.out
      · obtain ⟨b, off, cap, rfl, h1, h2, hc, -⟩ := HST.out.front
        have hl2 : decide (0 < (r'.length : Int) + 1) = true := decide_eq_true (by omega)
        clear HST
        go_upto_region 4 with fail
        clear c0 f0 hl2
        cases fs with
        | nil =>
          have hm0 : m = 0 := HM.out.symm
          subst hm0
          have hp := HPS.out
          have e : max most (deep + deepF []) = most := by show max most (deep + 0) = most; omega
          rw [e, show mv L.length (catN []) = [] from rfl, List.append_nil] at hp
          have CN := fr_node (w' := w) 1 [] (41 :: r') hdm (by omega) (hp.sub fun k hk => .inl hk) HMV.out (.slice none 0 0) (World.ownsRow_nil _ _ _ _) (fun k hk => by cases hk)
          clear hp e
          go_wp2_with (go_at_call 33; refine CN.mono ?_; rintro e w2 h2; obtain ⟨rfl, hh⟩ := And.intro h2.1 h2; have H2 := Lib.hid hh; clear h2 hh)
          go_ret
          rw [HYX.out, HXE.out]
          exact H2.out
        | cons g gs =>
          have hm1 : 0 < m := by rw [← HM.out]; simp
          have hmz : ((m : Int) == 0) = false := by simp; omega
          have CM := par_many_end p w wr L deep most 3 (g :: gs) (41 :: r') (by simp) HNE.out (by simp only [List.length_cons] at *; omega) (HPS.out.sub fun k hk => .inl hk) HMV.out _ (owns_base (by rw [HM.out]; exact HOWN.out) hpw) (fun k hk hx => by have := (HOWN.out.lt k hk).1; have := HOLD.out k hx; omega)
          have HCM := Lib.hid CM
          clear CM
          go_wp2_with (go_at_call 26; refine HCM.out.mono ?_; rintro e w2 h2; obtain ⟨rfl, hh⟩ := And.intro h2.1 h2; have H2 := Lib.hid hh; clear h2 hh)
          go_ret
          rw [HYX.out, HXE.out]
          exact H2.out
    · cases r with
      | nil => exact absurd (.inl rfl) hstop
      | cons c r' =>
        have hc : ¬ (c = 124 ∨ c = 41) := fun h => hstop (.inr ⟨c, r', rfl, h⟩)
        clear hstop
        have hne1 : (c != 124) = true := by simp; omega
        have hne2 : (c != 41) = true := by simp; omega
        obtain ⟨k, rfl⟩ : ∃ k, gk = k + 1 := ⟨gk - 1, by simp only [List.length_cons] at hgk; omega⟩
        have hit : rowL alt (k + 1) (c :: r') = match itemP alt (c :: r') with
            | none => none
            | some (f, r1) => match rowL alt k r1 with
              | none => none
              | some (gs, r2) => some (f :: gs, r2) := by
          rw [rowL, if_neg hc]
          rfl
        have hrest := HREST.out
        rw [hit] at hrest
        have hHL := HSF.out.length_le
        simp only [List.length_cons] at hHL hgk hfl hfew
        have hsc := HASK.out.scal.suf HSF.out
        have CI := HIT.out (fun j => X j ∨ (Value.slice va m vc).ownBlock = some j) p wr (c :: r') (L ++ mv L.length (catN fs)) deep (max most (deep + deepF fs)) (by simp only [List.length_cons]; omega)
          ⟨hsc, by simp only [List.length_cons]; omega, fun j hj => hj.elim (fun hj => Nat.lt_of_lt_of_le (HOLD.out j hj) HMV.out.size) (fun hj => (HOWN.out.lt j hj).2), by omega, by simp only [List.length_cons]; omega, by rw [List.length_append, mv_length]; simp only [List.length_cons]; omega, HPS.out⟩
        obtain ⟨sv, ov, Z, hst, -⟩ := hps
        obtain ⟨⟨c0, -, -, -⟩, f0, -, -, -⟩ := hst.cells
        obtain ⟨b, off, cap, rfl, h1, h2, hcc, -⟩ := hst.front
        have hl2 : decide (0 < (r'.length : Int) + 1) = true := decide_eq_true (by omega)
        clear hst hit hc hsc HREST
        cases hi : itemP alt (c :: r') with
        | none =>
          rw [hi] at CI hrest
          have hYN : Y = none := by
            rw [HYX.out, ← hrest]
            rfl
          have HYN := Lib.hid hYN
          clear hYN hi hrest
          go_wp2_with (go_at_call 32; refine CI.mono ?_; rintro e w2 ⟨rfl, hb⟩)
          refine ⟨rfl, ?_⟩
          rw [HYN.out]
          exact ⟨rfl, HMV.out.low.trans hb⟩
        | some x =>
          obtain ⟨f, r1⟩ := x
          have hpt := item_part _ hpart hi
          have hf := hpt.some
          have hff := hpt.few
          have hr1 := hpt.suf
          have hposf := hpt.pos
          rw [hi] at CI hrest
          obtain ⟨q, hq⟩ : ∃ q, (L ++ mv L.length (catN fs)).length + f.nodes.length - 1 = q := ⟨_, rfl⟩
          have CI2 : Calls Tryd.prog 32 #[.pointer (some ⟨p, 0, none⟩)] wr fun e w' => e = .returned (.int .i64 (q : Int)) ∧ PS (fun j => X j ∨ (Value.slice va m vc).ownBlock = some j) w' p r1 (L ++ mv L.length (catN (fs ++ [f]))) deep (max most (deep + deepF (fs ++ [f]))) ∧ Mvd p wr w' := by
            refine CI.mono ?_
            rintro e w2 ⟨g1, g2, g3⟩
            refine ⟨by rw [g1, hq], ?_, g3⟩
            rw [parts_more] at g2
            rw [deepF_snoc, show max most (deep + max (deepF fs) f.deep) = max (max most (deep + deepF fs)) (deep + f.deep) by omega]
            exact g2
          rw [List.length_append, mv_length] at hq
          have HRT := Lib.hid hrest
          have HQ := Lib.hid hq
          have HPT := Lib.hid hpt
          simp only [List.length_cons, Int.natCast_add, Int.natCast_one] at hff
          clear CI hi hrest hq hpt hf hr1
          go_upto_region 3 with fail
          clear c0 f0 hl2 hcc hne1 hne2
          have HMS := Lib.hid (fun w2 (hm2 : Mvd p wr w2) => own_mvd HOWN.out hm2 (by decide))
          go_wp2_with (first | (go_at_call 32; refine CI2.mono ?_; rintro e w2 ⟨rfl, hp2, hm2⟩; have H2 := Lib.hid (And.intro hp2 hm2); have hsz2 := hm2.size; have hsz1 := HMV.out.size; clear hp2 hm2) | (at_builtin; go_loud (refine wpList_append_src rfl _ _ _ _ rfl w.heap.size EIn _ m ((rootsN L.length fs).map iCell) rfl (owns_below (HMS.out w2 H2.out.2) (by (repeat (first | assumption | with_reducible exact Below.refl _ _ | (with_reducible refine belowA' ?_ (by first | omega | (simp; done) | (simp; omega))) | with_reducible refine Below.drew ?_ | with_reducible refine below_dN ?_ _)); done)) _ 1 [.int .i64 (q : Int)] rfl (by exact src_last (cs := #[.int .i64 (q : Int)]) Tryd.underlying30 1 1 1 (by simp) rfl (by simp [Value.oneCell'])) (by unfold maxLen; omega) (by omega) (by first | omega | (simp; omega)) ?_); intro v9 w9 hown9 hgr9 _ hloc9; have H9 := Lib.hid (And.intro hown9 (And.intro hgr9 hloc9)); clear hown9 hgr9 hloc9))
          go_roundg k
          case measure => omega
          case rel =>
            obtain ⟨hown9, hgr9, hloc9⟩ := H9.out
            have hbA := belowA' (o := .cells #[.int .i64 (q : Int)] 3) (Below.refl w2.heap.size w2) (Nat.le_refl _)
            obtain ⟨g1, g2⟩ := (H2.out.1.fresh.mvdB hbA).beside ((HMV.out.trans H2.out.2).trans (Mvd.ofBelow hbA (Nat.le_of_lt H2.out.1.lt))) hpw hgr9 (owns_below (HMS.out w2 H2.out.2) hbA) (fun j hj => .inl (.inr hj))
            refine ⟨fs ++ [f], r1, ?_, g1.sub ?_, g2, ?_, HPT.out.suf.trans HSF.out, ?_, ?_, ?_, ?_⟩
            · rw [List.length_append, HM.out, List.length_singleton, rootsN_snoc, List.map_append, HQ.out]
              exact hown9
            · rintro j (hj | hj)
              · exact .inl (.inl hj)
              · rcases hloc9 with h | h
                · exact .inl (.inr (h.symm.trans hj))
                · rw [h] at hj
                  cases hj
                  exact .inr (by simp)
            · intro g hg
              rcases List.mem_append.1 hg with hg | hg
              · exact HNE.out g hg
              · rw [List.mem_singleton.1 hg]
                exact HPT.out.some
            · rw [catN_snoc, List.length_append, mv_length]
              omega
            · rw [← HRT.out]
              cases rowL alt k r1 with
              | none => rfl
              | some y => simp [rowRest]
            · have := HPT.out.few
              simp only [List.length_cons] at this
              omega
            · rw [List.length_append, HM.out, List.length_singleton]
              omega
end Go.Proofs.YthmhmckkkceclaaDoor
/-
  The program's parser: alt; all of it, whatever the depth.
-/
namespace Go.Proofs.YthmhmckkkceclaaDoor
open Go.RowKit
/-- Alternatives, some of them read. -/
def altAt (alt : List Int → Res Frag) (k : Nat) (fs : List Frag) (r : List Int) : Res (List Frag) :=
  match nextP 124 r with
  | none => some (fs, r)
  | some r1 =>
    match k with
    | 0 => none
    | k + 1 => rowRest fs (altL alt k r1)
theorem altL_at (alt : List Int → Res Frag) (k : Nat) (s : List Int) : altL alt k s = match rowP alt s with
    | none => none
    | some (f, r) => altAt alt k [f] r := by
  unfold altL altAt
  cases rowP alt s with
  | none => rfl
  | some x =>
    obtain ⟨f, r⟩ := x
    simp only
    cases nextP 124 r with
    | none => rfl
    | some r1 =>
      simp only
      cases k with
      | zero => rfl
      | succ k =>
        simp only
        cases altL alt k r1 <;> rfl
theorem altAt_more (alt : List Int → Res Frag) (k : Nat) (fs : List Frag) (f : Frag) (r : List Int) : rowRest fs (altAt alt k [f] r) = altAt alt k (fs ++ [f]) r := by
  unfold altAt
  cases nextP 124 r with
  | none => rfl
  | some r1 =>
    simp only
    cases k with
    | zero => rfl
    | succ k =>
      simp only
      cases altL alt k r1 with
      | none => rfl
      | some y => simp [rowRest]
def altOf : Res (List Frag) → Res Frag
  | none => none
  | some (fs, r) => some (manyP 4 fs, r)
theorem altB_of (alt : List Int → Res Frag) (s : List Int) : altB alt s = altOf (altL alt s.length s) := by
  unfold altB
  cases altL alt s.length s <;> rfl
set_option maxRecDepth 100000 in
set_option maxHeartbeats 20000000 in
theorem par_alt (n : Nat) (alt : List Int → Res Frag) (hpart : ∀ s f r, alt s = some (f, r) → Part 1 s f r) (IH : Does 24 n (rowP alt)) : Does 17 n (altB alt) := by
  intro X p w s L deep most hn h
  have HOLD := Lib.hid h.old
  have HASK := Lib.hid h
  have hdm := h.dm
  have hds := h.ds
  have hls := h.ls
  have hlen := h.len
  have hpw := h.ps.lt
  have C := IH X p w s L deep most hn h
  obtain ⟨XX, hXX⟩ : ∃ XX, altL alt s.length s = XX := ⟨_, rfl⟩
  obtain ⟨Y, hY⟩ : ∃ Y, altB alt s = Y := ⟨_, rfl⟩
  have hYX : Y = altOf XX := by rw [← hY, altB_of, hXX]
  rw [hY]
  rw [altL_at] at hXX
  have HYX := Lib.hid hYX
  have HIT := Lib.hid IH
  clear hY hYX IH h
  cases hr : rowP alt s with
  | none =>
    rw [hr] at C hXX
    have hYN : Y = none := by
      rw [HYX.out, ← hXX]
      rfl
    have HYN := Lib.hid hYN
    clear hYN hr hXX
    go_enter Tryd.func17, Tryd.ntmps17
    go_wp2_with (go_at_call 24; refine C.mono ?_; rintro e w1 ⟨rfl, hb⟩)
    refine ⟨rfl, ?_⟩
    rw [HYN.out]
    exact ⟨rfl, hb⟩
  | some x =>
    obtain ⟨f, r⟩ := x
    have hpt := row_part hpart hr
    rw [hr] at C hXX
    simp only at hXX
    obtain ⟨q, hq⟩ : ∃ q, L.length + f.nodes.length - 1 = q := ⟨_, rfl⟩
    have C1 : Calls Tryd.prog 24 #[.pointer (some ⟨p, 0, none⟩)] w fun e w' => e = .returned (.int .i64 (q : Int)) ∧ PS X w' p r (L ++ mv L.length f.nodes) deep (max most (deep + f.deep)) ∧ Mvd p w w' := by
      rw [← hq]
      exact C
    have HXX := Lib.hid hXX
    have HQ := Lib.hid hq
    have HPT := Lib.hid hpt
    clear C hXX hq hpt hr
    go_enter Tryd.func17, Tryd.ntmps17
    go_upto_region 2 with (go_at_call 24; refine C1.mono ?_; rintro e w1 ⟨rfl, hp1, hm1⟩; have H1 := Lib.hid (And.intro hp1 hm1); clear hp1 hm1)
    go_loopg [3] s.length (fun gk v wr => ∃ (fs : List Frag) (r : List Int), wr.ownsRow w.heap.size 3 1 v fs.length ((rootsN L.length fs).map iCell) ∧ PS (fun k => X k ∨ v.ownBlock = some k) wr p r (L ++ mv L.length (catN fs)) deep (max most (deep + deepF fs)) ∧ Mvd p w wr ∧ (∀ f ∈ fs, f.nodes ≠ []) ∧ r <:+ s ∧ (catN fs).length + 4 * r.length ≤ 4 * s.length + 1 ∧ altAt alt gk fs r = XX ∧ r.length ≤ gk ∧ fs.length + r.length ≤ s.length + 1 ∧ fs ≠ [])
    case atStart =>
      have hbA := belowA' (o := .cells #[.int .i64 (q : Int)] 3) (Below.refl w1.heap.size w1) (Nat.le_refl _)
      have hfew := HPT.out.few
      have hle := HPT.out.le
      have e1 : catN [f] = f.nodes := by simp [catN, mv]
      refine ⟨[f], r, ?_, ?_, H1.out.2.trans (Mvd.ofBelow hbA (Nat.le_of_lt H1.out.1.lt)), ?_, HPT.out.suf, ?_, HXX.out, hle, ?_, by simp⟩
      · rw [show rootsN L.length [f] = [L.length + f.nodes.length - 1] from rfl, HQ.out]
        exact owns_base (own_kid w1 q) H1.out.2.size
      · rw [e1, show deepF [f] = f.deep from by simp [deepF]]
        refine (H1.out.1.fresh.mvdB hbA).sub ?_
        rintro k (hk | hk)
        · exact .inl hk
        · cases hk
          exact .inr (Nat.le_refl _)
      · intro g hg
        rw [List.mem_singleton.1 hg]
        exact HPT.out.some
      · rw [e1]
        omega
      · simp
        omega
    case round =>
      obtain ⟨fs, r, hown, hps, hmv, hne, hsf, hfew, hrest, hgk, hfl, hfs⟩ := hrel
      obtain ⟨va, vc, rfl⟩ := owns_slice hown
      obtain ⟨m, hm⟩ : ∃ m, fs.length = m := ⟨_, rfl⟩
      rw [hm] at hown hps hfl ⊢
      have HM := Lib.hid hm
      have HOWN := Lib.hid hown
      have HPS := Lib.hid hps
      have HMV := Lib.hid hmv
      have HNE := Lib.hid hne
      have HSF := Lib.hid hsf
      have HFS := Lib.hid hfs
      clear hm hown hmv hne hsf hfs C1
      cases hnx : nextP 124 r with
      | none =>
        have hXe : XX = some (fs, r) := by
          rw [← hrest]
          unfold altAt
          rw [hnx]
        have HXE := Lib.hid hXe
        have CN := par_next_no p wr r _ _ _ 124 hps hnx
        have CM := par_many_end p w wr L deep most 4 fs r HFS.out HNE.out (by omega) (HPS.out.sub fun k hk => .inl hk) HMV.out _ (owns_base (by rw [HM.out]; exact HOWN.out) hpw) (fun k hk hx => by have := (HOWN.out.lt k hk).1; have := HOLD.out k hx; omega)
        have HCM := Lib.hid CM
        clear hXe hrest hnx hps CM
        go_wp2_with (first | (go_at_call 25; refine CN.mono ?_; rintro e w2 ⟨rfl, rfl⟩) | (go_at_call 26; refine HCM.out.mono ?_; rintro e w2 h2; obtain ⟨rfl, hh⟩ := And.intro h2.1 h2; have H2 := Lib.hid hh; clear h2 hh))
        go_ret
        rw [HYX.out, HXE.out]
        exact H2.out
      | some r1 =>
        obtain rfl := next_ends hnx
        have hHL := HSF.out.length_le
        simp only [List.length_cons] at hHL hgk hfl hfew
        obtain ⟨k, rfl⟩ : ∃ k, gk = k + 1 := ⟨gk - 1, by omega⟩
        have hrest2 : rowRest fs (altL alt k r1) = XX := by
          rw [← hrest]
          unfold altAt
          rw [hnx]
        rw [altL_at] at hrest2
        have CY := par_next_yes p wr r1 _ _ _ 124 hps
        have hsc := (HASK.out.scal.suf HSF.out).tail
        have CI := Lib.hid (fun W (hs : Mvd p wr W) hW => HIT.out (fun j => X j ∨ (Value.slice va m vc).ownBlock = some j) p W r1 (L ++ mv L.length (catN fs)) deep (max most (deep + deepF fs)) (by omega)
          ⟨hsc, by omega, fun j hj => hj.elim (fun hj => Nat.lt_of_lt_of_le (HOLD.out j hj) (Nat.le_trans HMV.out.size hs.size)) (fun hj => Nat.lt_of_lt_of_le (HOWN.out.lt j hj).2 hs.size), by omega, by omega, by rw [List.length_append, mv_length]; omega, hW⟩)
        clear hsc hps hnx hrest
        go_upto_region 3 with (go_at_call 25; refine CY.mono ?_; rintro e w2 ⟨rfl, hp2, hm2⟩; have H2 := Lib.hid (And.intro hp2 hm2); clear hp2 hm2)
        have CR := CI.out w2 H2.out.2 H2.out.1
        clear CI CY
        cases hi : rowP alt r1 with
        | none =>
          rw [hi] at CR hrest2
          have hYN : Y = none := by
            rw [HYX.out, ← hrest2]
            rfl
          have HYN := Lib.hid hYN
          clear hYN hi hrest2
          go_wp2_with (go_at_call 24; refine CR.mono ?_; rintro e w3 ⟨rfl, hb⟩)
          refine ⟨rfl, ?_⟩
          rw [HYN.out]
          exact ⟨rfl, HMV.out.low.trans (H2.out.2.low.trans hb)⟩
        | some x =>
          obtain ⟨f, r2⟩ := x
          have hpt := row_part hpart hi
          have hff := hpt.few
          rw [hi] at CR hrest2
          simp only at hrest2
          rw [altAt_more] at hrest2
          obtain ⟨q, hq⟩ : ∃ q, (L ++ mv L.length (catN fs)).length + f.nodes.length - 1 = q := ⟨_, rfl⟩
          have CR2 : Calls Tryd.prog 24 #[.pointer (some ⟨p, 0, none⟩)] w2 fun e w' => e = .returned (.int .i64 (q : Int)) ∧ PS (fun j => X j ∨ (Value.slice va m vc).ownBlock = some j) w' p r2 (L ++ mv L.length (catN (fs ++ [f]))) deep (max most (deep + deepF (fs ++ [f]))) ∧ Mvd p w2 w' := by
            refine CR.mono ?_
            rintro e w3 ⟨g1, g2, g3⟩
            refine ⟨by rw [g1, hq], ?_, g3⟩
            rw [parts_more] at g2
            rw [deepF_snoc, show max most (deep + max (deepF fs) f.deep) = max (max most (deep + deepF fs)) (deep + f.deep) by omega]
            exact g2
          rw [List.length_append, mv_length] at hq
          have HRT := Lib.hid hrest2
          have HQ2 := Lib.hid hq
          have HPT2 := Lib.hid hpt
          have hle2 := hpt.le
          clear CR hi hrest2 hq hpt
          have hsz2 := H2.out.2.size
          have hsz1 := HMV.out.size
          have HMS := Lib.hid (fun w3 (hm3 : Mvd p w2 w3) => own_mvd HOWN.out (H2.out.2.trans hm3) (by decide))
          go_wp2_with (first | (go_at_call 24; refine CR2.mono ?_; rintro e w3 ⟨rfl, hp3, hm3⟩; have H3 := Lib.hid (And.intro hp3 hm3); have hsz3 := hm3.size; clear hp3 hm3) | (at_builtin; go_loud (refine wpList_append_src rfl _ _ _ _ rfl w.heap.size EIn _ m ((rootsN L.length fs).map iCell) rfl (owns_below (HMS.out w3 H3.out.2) (by (repeat (first | assumption | with_reducible exact Below.refl _ _ | (with_reducible refine belowA' ?_ (by first | omega | (simp; done) | (simp; omega))) | with_reducible refine Below.drew ?_ | with_reducible refine below_dN ?_ _)); done)) _ 1 [.int .i64 (q : Int)] rfl (by exact src_last (cs := #[.int .i64 (q : Int)]) Tryd.underlying30 1 1 1 (by simp) rfl (by simp [Value.oneCell'])) (by unfold maxLen; omega) (by omega) (by first | omega | (simp; omega)) ?_); intro v9 w9 hown9 hgr9 _ hloc9; have H9 := Lib.hid (And.intro hown9 (And.intro hgr9 hloc9)); clear hown9 hgr9 hloc9))
          go_roundg k
          case measure => omega
          case rel =>
            obtain ⟨hown9, hgr9, hloc9⟩ := H9.out
            have hbA := belowA' (o := .cells #[.int .i64 (q : Int)] 3) (Below.refl w3.heap.size w3) (Nat.le_refl _)
            obtain ⟨g1, g2⟩ := (H3.out.1.fresh.mvdB hbA).beside (((HMV.out.trans H2.out.2).trans H3.out.2).trans (Mvd.ofBelow hbA (Nat.le_of_lt H3.out.1.lt))) hpw hgr9 (owns_below (HMS.out w3 H3.out.2) hbA) (fun j hj => .inl (.inr hj))
            refine ⟨fs ++ [f], r2, ?_, g1.sub ?_, g2, ?_, HPT2.out.suf.trans ((List.suffix_cons 124 r1).trans HSF.out), ?_, HRT.out, ?_, ?_, by simp⟩
            · rw [List.length_append, HM.out, List.length_singleton, rootsN_snoc, List.map_append, HQ2.out]
              exact hown9
            · rintro j (hj | hj)
              · exact .inl (.inl hj)
              · rcases hloc9 with h | h
                · exact .inl (.inr (h.symm.trans hj))
                · rw [h] at hj
                  cases hj
                  exact .inr (by simp)
            · intro g hg
              rcases List.mem_append.1 hg with hg | hg
              · exact HNE.out g hg
              · rw [List.mem_singleton.1 hg]
                exact HPT2.out.some
            · rw [catN_snoc, List.length_append, mv_length]
              omega
            · omega
            · rw [List.length_append, HM.out, List.length_singleton]
              omega
/-- All patterns, whatever their depth. -/
theorem par_all (n : Nat) : Does 17 n (altN (n + 1)) := by
  induction n with
  | zero =>
    refine par_alt 0 (altN 0) (fun s f r h => altN_part 0 s f r h) (par_row 0 _ (fun s f r h => altN_part 0 s f r h) (par_item 0 _ (fun s f r h => altN_part 0 s f r h) ?_))
    intro X p w s L deep most hn h
    have hs : s = [] := List.eq_nil_of_length_eq_zero (by omega)
    subst hs
    show Calls _ _ _ _ (Fell p w)
    have C := par_take_none p w L deep most h.ps
    clear h hn
    go_enter Tryd.func36, Tryd.ntmps36
    go_wp2_with (go_at_call 40; refine C.mono ?_; rintro e w' ⟨rfl, hb⟩)
    exact ⟨rfl, rfl, hb⟩
  | succ n ih =>
    have hp := fun s f r h => altN_part (n + 1) s f r h
    exact par_alt (n + 1) (altN (n + 1)) hp (par_row (n + 1) _ hp (par_item (n + 1) _ hp (par_atom n _ ih)))
end Go.Proofs.YthmhmckkkceclaaDoor
