/-
  The document's JSON reader: an array.
-/
import Derived.Test.YtljnbbdhmlfhjaaGreatDoorJfTwo
import Derived.Test.YtljnbbdhmlfhjaaGreatDoorUtfAll
import Derived.Test.YtljnbbdhmlfhjaaGreatDoorJsM
namespace Go.Proofs.YtljnbbdhmlfhjaaGreatDoor
open Go.RowKit
def ReadsZ (S : Bs) (val : Bs → Option (J × Bs)) (n : Nat) : Prop :=
  ∀ (p : Nat) (w : World) (s : Bs) (deep most : Nat), s.length ≤ n → ZS S w p s deep most false → deep ≤ most → deep + s.length ≤ 1099511620000 → Calls Tryz.prog 66 #[.pointer (some ⟨p, 0, none⟩)] w (ValF 100 S p w s deep most (val s))
theorem formT_snocZ (j : J) : ∀ l : List J, formT (l ++ [j]) = formT l ++ 44 :: formJ j
  | [] => by simp [formT]
  | x :: l => by simp [formT, formT_snocZ j l]
theorem formL_snocZ (l : List J) (j : J) : formL (l ++ [j]) = (if l.isEmpty then formL l else formL l ++ [44]) ++ formJ j := by
  cases l with
  | nil => simp [formL, formT]
  | cons x l => simp [formL, formT_snocZ]
/-- An array under way. -/
structure ARel (S : Bs) (w : World) (p : Nat) (s : Bs) (deep most : Nat) (X : Option (J × Bs)) (val : Bs → Option (J × Bs)) (gk : Nat) (wr : World) (o : ByteArray) (f : Bool) (l : List J) (r : Bs) (b : Bool) (m : Nat) : Prop where
  st : ZS S wr p r (deep + 1) m b
  gr : w.grownBy wr (some p)
  tl : Tl s r
  good : b = false → o.data.toList = 91 :: formL l ∧ m = max most (deep + 1 + deepL l) ∧ preA l (itemsL val gk r) = X ∧ r.length < gk ∧ f = l.isEmpty ∧ o.size + (if l.isEmpty then 0 else 7) + 7 * r.length ≤ 7 * s.length + 1
  bads : b = true → X = none ∧ o.size + 7 * r.length ≤ 7 * s.length + 101
theorem ba_etaZ (x : ByteArray) : (⟨x.data.toList.toArray⟩ : ByteArray) = x := by
  apply ByteArray.ext
  simp
theorem size_listZ (o : ByteArray) : o.size = o.data.toList.length := by simp [ByteArray.size_data]
/-- The list's end. -/
theorem ARel.fin {S : Bs} {w wr w9 : World} {p : Nat} {s : Bs} {deep most : Nat} {X : Option (J × Bs)} {val : Bs → Option (J × Bs)} {gk : Nat} {o : ByteArray} {f : Bool} {l : List J} {r : Bs} {m : Nat} (h : ARel S w p s deep most X val gk wr o f l r true m) (hz : ZS S w9 p r deep m true) (hg : wr.grownBy w9 (some p)) :
    ValF 100 S p w (91 :: s) deep most X (.returned (.string (o ++ ⟨#[93]⟩))) w9 := by
  obtain ⟨rfl, hl⟩ := h.bads rfl
  refine ⟨(o ++ ⟨#[93]⟩).data.toList, r, true, m, by rw [ba_etaZ], hz, h.gr.trans hg, (tl_drop 1 (91 :: s)).trans h.tl, rfl, ?_⟩
  rw [← size_listZ, ByteArray.size_append, show (⟨#[93]⟩ : ByteArray).size = 1 from rfl, List.length_cons]
  omega
theorem val_done {S : Bs} {w wr w9 : World} {p : Nat} {s : Bs} {deep most : Nat} {o : ByteArray} {l : List J} {r : Bs} (ho : o.data.toList = 91 :: formL l) (hg0 : w.grownBy wr (some p)) (htl : Tl s r) (hz : ZS S w9 p r deep (max most (deep + 1 + deepL l)) false) (hg : wr.grownBy w9 (some p)) :
    ValF 100 S p w (91 :: s) deep most (some (.arr l, r)) (.returned (.string (o ++ ⟨#[93]⟩))) w9 := by
  refine ⟨(o ++ ⟨#[93]⟩).data.toList, r, false, _, by rw [ba_etaZ], hz, hg0.trans hg, (tl_drop 1 (91 :: s)).trans htl, ?_, rfl, rfl, ?_⟩
  · simp [ByteArray.data_append, ho, formJ]
  · simp only [deepJ]
    omega
set_option maxRecDepth 100000 in
set_option maxHeartbeats 40000000 in
theorem z_arr (S : Bs) (p : Nat) (w : World) (s : Bs) (deep most n : Nat) (hS2 : S.length ≤ 1099511620000) (h : ZS S w p (91 :: s) deep most false) (hdm : deep ≤ most) (val : Bs → Option (J × Bs)) (hok : ValOk val) (IH : ReadsZ S val n) (hs : s.length ≤ n) (hd : deep + s.length + 1 ≤ 1099511620000) :
    Calls Tryz.prog 104 #[.pointer (some ⟨p, 0, none⟩), .int .u8 91, .int .u8 93] w (ValF 100 S p w (91 :: s) deep most (arrP val s)) := by
  have hS : S.length ≤ 1099511627776 := by omega
  have HS := Lib.hid hS
  have HS2 := Lib.hid hS2
  have HIH := Lib.hid IH
  have HOK := Lib.hid hok
  have HDM := Lib.hid hdm
  have hsS := h.len
  rw [List.length_cons] at hsS
  have C1 := z_isZ 91 91 rfl S p w (91 :: s) deep most false hS h
  rw [show isF 91 (91 :: s) = s from by simp [isF]] at C1
  have hcv1 := conv_lit 91 91 rfl
  have hcv3 := fun (W : World) (q : Nat) => conv_lit 91 91 rfl (W.drewN q) W.heap.size rfl
  have hcv2 := conv_lit 93 93 rfl
  have HC2 := Lib.hid (fun W m r b (hW : ZS S W p r (deep + 1) m b) => z_isZ 93 93 rfl S p W r (deep + 1) m b hS hW)
  have HC4 := Lib.hid (fun W m r b (hW : ZS S W p r (deep + 1) m b) => z_isZ 44 44 rfl S p W r (deep + 1) m b hS hW)
  have HSP := Lib.hid (fun W m r b (hW : ZS S W p r (deep + 1) m b) => z_space S p W r (deep + 1) m b hS hW)
  obtain ⟨X, hX⟩ : ∃ X, arrP val s = X := ⟨_, rfl⟩
  rw [hX]
  have HXX := Lib.hid hX
  clear h hS hS2 IH hok hdm hX
  go_enter Tryz.func104, Tryz.ntmps104
  go_upto_region 2 with (go_at_call 132; refine C1.mono ?_; rintro e w1 ⟨rfl, hz1, hg1⟩; have H1 := Lib.hid (And.intro hz1 hg1); obtain ⟨⟨-, c2, c3⟩, ff⟩ := hz1.flag; have f2 := ff 2; have f3 := ff 3; clear hz1 hg1 ff)
  go_upto_region 3 with fail
  have hst2 := H1.out.1.begun (Below.refl _ _) ((deep : Int) + 1) (by omega)
  obtain ⟨w2, hw2⟩ : ∃ w2, w1.setCell ⟨p, 2, none⟩ (.int .i64 ((deep : Int) + 1)) = w2 := ⟨_, rfl⟩
  rw [hw2] at hst2 ⊢
  have H2 := Lib.hid (And.intro hst2.1 (H1.out.2.trans hst2.2))
  clear hst2 hw2 c2 c3 f2 f3 C1 H1
  obtain ⟨⟨-, c2, c3⟩, ff⟩ := H2.out.1.flag
  have f3 := ff 3
  clear ff
  obtain ⟨M, hM⟩ : ∃ M, max most (deep + 1) = M := ⟨_, rfl⟩
  have hdw : deep ≤ 1099511627776 := by omega
  by_cases hm : most < deep + 1
  case' pos =>
    have d2 : decide (most < deep + 1) = true := decide_eq_true (by omega)
    have hM2 : M = deep + 1 := by omega
    go_quiet (fail)
    go_upto_region 6 with fail
    have h3 := (H2.out.1.keptB (below_drewN (Below.refl _ _) nq)).setMost M ((deep : Int) + 1) (by omega)
    have h4 := belowAJ (o := .cells #[.int .u8 91] 5) (Below.refl ((w2.drewN nq).setCell ⟨p, 3, none⟩ (.int .i64 ((deep : Int) + 1))).heap.size ((w2.drewN nq).setCell ⟨p, 3, none⟩ (.int .i64 ((deep : Int) + 1)))) (Nat.le_refl _)
    have H6 := Lib.hid (And.intro (h3.1.keptB h4) (((H2.out.2.trans (grown_of_below (below_drewN (Below.refl w2.heap.size w2) nq) _)).trans h3.2).trans (grown_of_below h4 _)))
    clear h3 h4 c2 c3 f3 d2 hM2
    obtain ⟨w6, hw6⟩ : ∃ w6, ((w2.drewN nq).setCell ⟨p, 3, none⟩ (.int .i64 ((deep : Int) + 1))).alloc (.cells #[.int .u8 91] 5) = w6 := ⟨_, rfl⟩
    rw [hw6] at H6 ⊢
    clear hw6
  case' neg =>
    have d2 : decide (most < deep + 1) = false := decide_eq_false (by omega)
    have d3 : decide ((most : Int) < (deep : Int) + 1) = false := decide_eq_false (by omega)
    have hM2 : most = M := by omega
    have h2' : ZS S w2 p s (deep + 1) M false := hM2 ▸ H2.out.1
    go_quiet (fail)
    go_upto_region 6 with fail
    have h4 := belowAJ (o := .cells #[.int .u8 91] 5) (Below.refl (w2.drewN nq).heap.size (w2.drewN nq)) (Nat.le_refl _)
    have H6 := Lib.hid (And.intro ((h2'.keptB (below_drewN (Below.refl _ _) nq)).keptB h4) ((H2.out.2.trans (grown_of_below (below_drewN (Below.refl w2.heap.size w2) nq) _)).trans (grown_of_below h4 _)))
    clear h4 c2 c3 f3 d2 d3 hM2 h2'
    obtain ⟨w6, hw6⟩ : ∃ w6, (w2.drewN nq).alloc (.cells #[.int .u8 91] 5) = w6 := ⟨_, rfl⟩
    rw [hw6] at H6 ⊢
    clear hw6
  all_goals
    have C6 := HSP.out w6 _ s _ H6.out.1
    have HM := Lib.hid hM
    clear hM hm hcv1 hcv3
    go_upto_region 7 with (go_at_call 100; refine C6.mono ?_; rintro e w7 ⟨rfl, hz7, hg7⟩; have H7 := Lib.hid (And.intro hz7 (H6.out.2.trans hg7)); clear hz7 hg7)
    have C7 := HC2.out w7 _ _ _ H7.out.1
    cases hnx : nextB 93 (sp s) with
    | some r =>
      have e : X = some (.arr [], r) := by rw [← HXX.out]; unfold arrP; rw [hnx]
      have HE := Lib.hid e
      obtain ⟨hq1, hq2⟩ := next_has hnx
      rw [hq1, hq2] at C7
      have HTL := Lib.hid (show Tl s r by rw [← hq2]; exact (tl_sp s).trans (tl_isF 93 _))
      clear hnx e hq1 hq2 C6
      go_upto_region 23 with (go_at_call 132; refine C7.mono ?_; rintro e w8 ⟨rfl, hz8, hg8⟩; have HZZ := Lib.hid (And.intro hz8 hg8); clear hz8 hg8)
      obtain ⟨⟨-, c2, -⟩, ff⟩ := HZZ.out.1.flag
      have f2 := ff 2
      clear ff
      have h9 := HZZ.out.1.setDeep deep (deep : Int) rfl
      have h4 := belowAJ (o := .cells #[.int .u8 93] 5) (Below.refl (w8.setCell ⟨p, 2, none⟩ (.int .i64 (deep : Int))).heap.size (w8.setCell ⟨p, 2, none⟩ (.int .i64 (deep : Int)))) (Nat.le_refl _)
      have H9 := Lib.hid (And.intro (h9.1.keptB h4) ((HZZ.out.2.trans h9.2).trans (grown_of_below h4 _)))
      clear h9 h4
      go_wp2
      go_ret
      rw [HE.out]
      refine val_done (l := []) (o := ⟨#[91]⟩) rfl H7.out.2 HTL.out ?_ H9.out.2
      have := H9.out.1
      rwa [← HM.out] at this
    | none =>
      have HX := Lib.hid ((arr_pre val s hnx).symm.trans HXX.out)
      obtain ⟨hq1, hq2⟩ := next_hasnt hnx
      rw [hq1, hq2] at C7
      have hsl := sp_len s
      have HTL := Lib.hid (tl_sp s)
      clear hnx hq1 hq2 C6
      go_upto_region 9 with (go_at_call 132; refine C7.mono ?_; rintro e w8 ⟨rfl, hz8, hg8⟩; have H8 := Lib.hid (And.intro hz8 (H7.out.2.trans hg8)); clear hz8 hg8)
      go_loopg [7, 8] (s.length + 1) (fun gk ov fv wr => ∃ (o : ByteArray) (f : Bool) (l : List J) (r : Bs) (b : Bool) (m : Nat), ov = .string o ∧ fv = .bool f ∧ ARel S w p s deep most X val gk wr o f l r b m)
      case atStart =>
        refine ⟨⟨#[91]⟩, true, [], sp s, false, M, rfl, rfl, H8.out.1, H8.out.2, HTL.out, fun _ => ⟨rfl, ?_, HX.out, by omega, rfl, ?_⟩, fun e => (by cases e)⟩
        · rw [← HM.out, show deepL [] = 0 from rfl, Nat.add_zero]
        · show 1 + 0 + 7 * (sp s).length ≤ _
          omega
      case round =>
        obtain ⟨o, f, l, r, b, m, rfl, rfl, hR⟩ := hrel
        have HR := Lib.hid hR
        obtain ⟨⟨c4, -, -⟩, ff⟩ := hR.st.flag
        have f4 := ff 4
        clear ff H8 H7 H6 HX C7
        cases b with
        | true =>
          have HZZ := Lib.hid (And.intro hR.st (grown_refl wr (some p)))
          have hosz : o.size ≤ 7696581340101 := by have := (hR.bads rfl).2; have := HS2.out; omega
          clear hR
          obtain ⟨⟨-, c2, -⟩, ff⟩ := HZZ.out.1.flag
          have f2 := ff 2
          clear ff
          have h9 := HZZ.out.1.setDeep deep (deep : Int) rfl
          have h4 := belowAJ (o := .cells #[.int .u8 93] 5) (Below.refl (wr.setCell ⟨p, 2, none⟩ (.int .i64 (deep : Int))).heap.size (wr.setCell ⟨p, 2, none⟩ (.int .i64 (deep : Int)))) (Nat.le_refl _)
          have H9 := Lib.hid (And.intro (h9.1.keptB h4) ((HZZ.out.2.trans h9.2).trans (grown_of_below h4 _)))
          clear h9 h4
          go_wp2
          go_ret
          exact HR.out.fin H9.out.1 H9.out.2
        | false =>
          obtain ⟨ho, hm, hx, hgk, rfl, hsz⟩ := hR.good rfl
          obtain ⟨k, rfl⟩ : ∃ k, gk = k + 1 := ⟨gk - 1, by omega⟩
          have hrl := hR.tl.len
          have CV := HIH.out p wr r (deep + 1) m (by omega) hR.st (by omega) (by omega)
          have HX1 := Lib.hid hx
          have HGK := Lib.hid hgk
          have HRL := Lib.hid hrl
          have HMM := Lib.hid hm
          have hosz : o.size ≤ 7696581340101 := by have := HS2.out; omega
          obtain ⟨q, hq⟩ : ∃ q, l.isEmpty = q := ⟨_, rfl⟩
          have HFO := Lib.hid (fun (o1 : ByteArray) (h1 : o1 = if q then o else o ++ ⟨#[44]⟩) => (show (∀ j, (o1.data.toList ++ formJ j) = 91 :: formL (l ++ [j])) ∧ o1.size + 7 * r.length ≤ 7 * s.length + 1 from by
            rw [h1]
            rw [hq] at hsz
            cases q with
            | true =>
              rw [if_pos rfl] at hsz ⊢
              exact ⟨fun j => by rw [ho, formL_snocZ, hq, if_pos rfl]; rfl, by omega⟩
            | false =>
              rw [if_neg Bool.false_ne_true] at hsz ⊢
              refine ⟨fun j => by rw [formL_snocZ, hq, if_neg Bool.false_ne_true, ByteArray.data_append, Array.toList_append, ho]; simp, ?_⟩
              rw [ByteArray.size_append, show (⟨#[44]⟩ : ByteArray).size = 1 from rfl]
              omega))
          rw [hq]
          clear hR ho hm hx hgk hsz hrl hq
          rcases q with _ | _
          case' false =>
            go_upto_region 13 with fail
            have HF1 := HFO.out _ rfl
            rw [if_neg Bool.false_ne_true] at HF1
            have hosz1 : (o ++ ⟨#[44]⟩ : ByteArray).size ≤ 7696581340102 := by rw [ByteArray.size_append, show (⟨#[44]⟩ : ByteArray).size = 1 from rfl]; omega
            obtain ⟨o1, ho1⟩ : ∃ o1, o ++ ⟨#[44]⟩ = o1 := ⟨_, rfl⟩
            rw [ho1] at HF1 hosz1 ⊢
            have HF := Lib.hid HF1
            clear ho1 HF1 hosz
          case' true =>
            go_upto_region 13 with fail
            have HF1 := HFO.out _ rfl
            rw [if_pos rfl] at HF1
            obtain ⟨o1, ho1⟩ : ∃ o1, o = o1 := ⟨_, rfl⟩
            have hosz1 : o1.size ≤ 7696581340102 := by rw [← ho1]; omega
            rw [ho1] at HF1 ⊢
            have HF := Lib.hid HF1
            clear ho1 HF1 hosz
          all_goals
            clear HFO
            cases hv : val r with
            | none =>
              rw [hv] at CV
              have hX : X = none := by rw [← HX1.out]; simp only [itemsL, hv]; rfl
              have HXN := Lib.hid hX
              clear hv hX
              go_upto_region 20 with (go_at_call 66; (refine CV.mono ?_; rintro e w9 ⟨T, r1, b1, m1, rfl, hv9⟩; obtain ⟨TB, hTB⟩ : ∃ TB : ByteArray, (⟨T.toArray⟩ : ByteArray) = TB := ⟨_, rfl⟩; have hTs : TB.size = T.length := (congrArg ByteArray.size hTB).symm; have hbd := hv9.res; have hb1 : b1 = true := hbd.1; have hbd2 := hbd.2; have hTz : TB.size ≤ 7696581340100 := (by (have := HS2.out; have := HRL.out; omega)); rw [hTB]; have H9 := Lib.hid (And.intro hv9 (And.intro hTs hbd2)); clear hv9 hTs hbd hbd2 hTB))
              subst hb1
              obtain ⟨hv9, hTs, hbd⟩ := H9.out
              have hst9 := hv9.st
              have hr1 := hv9.tl.len
              have hsz2 : (o1 ++ TB).size + 7 * r1.length ≤ 7 * s.length + 101 := by
                have := HF.out.2
                rw [ByteArray.size_append]
                omega
              have hosz2 : (o1 ++ TB).size ≤ 7696581340250 := by have := HS2.out; omega
              have HSZ2 := Lib.hid hsz2
              have C9 := HC2.out w9 _ _ _ hst9
              have CB9 := Lib.hid (fun W m r b (hW : ZS S W p r (deep + 1) m b) => HC4.out W m r b hW)
              have HT9 := Lib.hid hv9.tl
              obtain ⟨q93, hq93⟩ : ∃ q, hasB 93 r1 = q := ⟨_, rfl⟩
              rw [hq93] at C9
              clear hv9 hTs hbd hst9 hsz2 hq93 CV
              cases q93 with
              | true =>
                go_upto_region 23 with (go_at_call 132; refine C9.mono ?_; rintro e w10 ⟨rfl, hz10, hg10⟩; have HZZ := Lib.hid (And.intro hz10 hg10); clear hz10 hg10)
                obtain ⟨⟨-, c2, -⟩, ff⟩ := HZZ.out.1.flag
                have f2 := ff 2
                clear ff
                have h9 := HZZ.out.1.setDeep deep (deep : Int) rfl
                have h4 := belowAJ (o := .cells #[.int .u8 93] 5) (Below.refl (w10.setCell ⟨p, 2, none⟩ (.int .i64 (deep : Int))).heap.size (w10.setCell ⟨p, 2, none⟩ (.int .i64 (deep : Int)))) (Nat.le_refl _)
                have H9' := Lib.hid (And.intro (h9.1.keptB h4) (h9.2.trans (grown_of_below h4 _)))
                clear h9 h4
                go_wp2
                go_ret
                refine (ARel.fin (val := val) (gk := 0) (f := false) (l := []) (o := o1 ++ TB) ⟨HZZ.out.1, HR.out.gr.trans (H9.out.1.gr.trans HZZ.out.2), HR.out.tl.trans (HT9.out.trans (tl_isF 93 _)), fun e => (by cases e), fun _ => ⟨HXN.out, ?_⟩⟩ H9'.out.1 H9'.out.2)
                have h1 := (isF_len 93 r1).1
                have h2 := HSZ2.out
                omega
              | false =>
                go_upto_region 21 with (go_at_call 132; refine C9.mono ?_; rintro e w10 ⟨rfl, hz10, hg10⟩; have H10 := Lib.hid (And.intro hz10 hg10); clear hz10 hg10)
                have C10 := HC4.out w10 _ _ _ H10.out.1
                obtain ⟨q44, hq44⟩ : ∃ q, hasB 44 (isF 93 r1) = q := ⟨_, rfl⟩
                rw [hq44] at C10
                clear hq44 C9
                cases q44 with
                | true =>
                  go_wp2_with (go_at_call 132; refine C10.mono ?_; rintro e w11 ⟨rfl, hz11, hg11⟩; have H11 := Lib.hid (And.intro hz11 hg11); clear hz11 hg11)
                  go_roundg k
                  case measure => omega
                  case rel =>
                    refine ⟨_, _, [], _, true, _, rfl, rfl, H11.out.1, HR.out.gr.trans (H9.out.1.gr.trans (H10.out.2.trans H11.out.2)), HR.out.tl.trans (HT9.out.trans ((tl_isF 93 _).trans (tl_isF 44 _))), fun e => (by cases e), fun _ => ⟨HXN.out, ?_⟩⟩
                    have h1 := (isF_len 93 r1).1
                    have h3 := (isF_len 44 (isF 93 r1)).1
                    have h2 := HSZ2.out
                    omega
                | false =>
                  go_wp2_with (go_at_call 132; refine C10.mono ?_; rintro e w11 ⟨rfl, hz11, hg11⟩; have H11 := Lib.hid (And.intro hz11 hg11); obtain ⟨⟨j0, -⟩, jf⟩ := hz11.flag; have j4 := jf 4; clear hz11 hg11 jf)
                  go_roundg k
                  case measure => omega
                  case rel =>
                    have hsb := H11.out.1.setBad true
                    refine ⟨_, _, [], _, true, _, rfl, rfl, hsb.1, HR.out.gr.trans (H9.out.1.gr.trans (H10.out.2.trans (H11.out.2.trans hsb.2))), HR.out.tl.trans (HT9.out.trans ((tl_isF 93 _).trans (tl_isF 44 _))), fun e => (by cases e), fun _ => ⟨HXN.out, ?_⟩⟩
                    have h1 := (isF_len 93 r1).1
                    have h3 := (isF_len 44 (isF 93 r1)).1
                    have h2 := HSZ2.out
                    omega
            | some y =>
              obtain ⟨j, r1⟩ := y
              obtain ⟨hrl1, hrs1, -⟩ := HOK.out r j r1 hv
              have hx1 := HX1.out
              simp only [itemsL, hv] at hx1
              have HX2 := Lib.hid hx1
              have HR1 := Lib.hid (And.intro hrl1 hrs1)
              rw [hv] at CV
              obtain ⟨TB, hTB⟩ : ∃ TB : ByteArray, (⟨(formJ j).toArray⟩ : ByteArray) = TB := ⟨_, rfl⟩
              have hTs : TB.size = (formJ j).length := (congrArg ByteArray.size hTB).symm
              have hTd : TB.data.toList = formJ j := by rw [← hTB]
              obtain ⟨M2, hM2⟩ : ∃ M2, max m (deep + 1 + deepJ j) = M2 := ⟨_, rfl⟩
              have hM3 : M2 = max most (deep + 1 + deepL (l ++ [j])) := by rw [deepL_snoc, ← hM2, HMM.out]; omega
              have HM3 := Lib.hid hM3
              have CV' : Calls Tryz.prog 66 #[.pointer (some ⟨p, 0, none⟩)] wr fun e w' => e = .returned (.string TB) ∧ ZS S w' p r1 (deep + 1) M2 false ∧ wr.grownBy w' (some p) ∧ Tl r r1 := by
                refine CV.mono ?_
                rintro e w' ⟨T, r', b', m', rfl, hvm⟩
                obtain ⟨rfl, rfl, rfl, rfl⟩ := hvm.res
                exact ⟨by rw [hTB], hM2 ▸ hvm.st, hvm.gr, hvm.tl⟩
              have hTz : TB.size ≤ 7696581340100 := by have := HS2.out; have := HRL.out; omega
              have ho2 : (o1 ++ TB).data.toList = 91 :: formL (l ++ [j]) := by rw [ByteArray.data_append, Array.toList_append, hTd]; exact HF.out.1 j
              have hsz2 : (o1 ++ TB).size + 7 * r1.length ≤ 7 * s.length + 1 := by
                have := HF.out.2
                rw [ByteArray.size_append]
                omega
              have hosz2 : (o1 ++ TB).size ≤ 7696581340250 := by have := HS2.out; omega
              have HSZ2 := Lib.hid (And.intro ho2 hsz2)
              clear hv hx1 hrl1 hrs1 CV hTB hTs hTd hM2 hM3 ho2 hsz2
              go_upto_region 20 with (go_at_call 66; refine CV'.mono ?_; rintro e w9 ⟨rfl, hz9, hg9, ht9⟩; have H9 := Lib.hid (And.intro hz9 (And.intro hg9 ht9)); clear hz9 hg9 ht9)
              obtain ⟨o2, ho2⟩ : ∃ o2, o1 ++ TB = o2 := ⟨_, rfl⟩
              rw [ho2] at HSZ2 hosz2 ⊢
              clear ho2 CV'
              have C9 := HC2.out w9 _ _ _ H9.out.1
              cases hn93 : nextB 93 r1 with
              | some r2 =>
                obtain ⟨hq1, hq2⟩ := next_has hn93
                rw [hq1, hq2] at C9
                have hX : X = some (.arr (l ++ [j]), r2) := by
                  rw [← HX2.out]
                  unfold moreP
                  rw [hn93]
                  rfl
                have HXN := Lib.hid hX
                have HTQ := Lib.hid (show Tl r1 r2 by rw [← hq2]; exact tl_isF 93 _)
                clear hn93 hq1 hq2 hX
                go_upto_region 23 with (go_at_call 132; refine C9.mono ?_; rintro e w10 ⟨rfl, hz10, hg10⟩; have HZZ := Lib.hid (And.intro hz10 hg10); clear hz10 hg10)
                obtain ⟨⟨-, c2, -⟩, ff⟩ := HZZ.out.1.flag
                have f2 := ff 2
                clear ff
                have h9 := HZZ.out.1.setDeep deep (deep : Int) rfl
                have h4 := belowAJ (o := .cells #[.int .u8 93] 5) (Below.refl (w10.setCell ⟨p, 2, none⟩ (.int .i64 (deep : Int))).heap.size (w10.setCell ⟨p, 2, none⟩ (.int .i64 (deep : Int)))) (Nat.le_refl _)
                have H9' := Lib.hid (And.intro (h9.1.keptB h4) (h9.2.trans (grown_of_below h4 _)))
                clear h9 h4
                go_wp2
                go_ret
                rw [HXN.out]
                refine val_done (l := l ++ [j]) HSZ2.out.1 (HR.out.gr.trans (H9.out.2.1.trans HZZ.out.2)) (HR.out.tl.trans (H9.out.2.2.trans HTQ.out)) ?_ H9'.out.2
                have := H9'.out.1
                rwa [HM3.out] at this
              | none =>
                obtain ⟨hq1, hq2⟩ := next_hasnt hn93
                rw [hq1, hq2] at C9
                have HN93 := Lib.hid hn93
                clear hn93 hq1 hq2
                go_upto_region 21 with (go_at_call 132; refine C9.mono ?_; rintro e w10 ⟨rfl, hz10, hg10⟩; have H10 := Lib.hid (And.intro hz10 hg10); clear hz10 hg10)
                have C10 := HC4.out w10 _ _ _ H10.out.1
                cases hn44 : nextB 44 r1 with
                | some r2 =>
                  obtain ⟨hq1, hq2⟩ := next_has hn44
                  rw [hq1, hq2] at C10
                  have hX : preA (l ++ [j]) (itemsL val k r2) = X := by
                    rw [← HX2.out]
                    unfold moreP
                    rw [HN93.out, hn44]
                    exact (preA_add _ _ _).symm
                  have HX3 := Lib.hid hX
                  have hl44 := congrArg List.length (next_inv hn44)
                  rw [List.length_cons] at hl44
                  have HL44 := Lib.hid hl44
                  have HTQ := Lib.hid (show Tl r1 r2 by rw [← hq2]; exact tl_isF 44 _)
                  clear hn44 hq1 hq2 hX hl44 C9
                  go_wp2_with (go_at_call 132; refine C10.mono ?_; rintro e w11 ⟨rfl, hz11, hg11⟩; have H11 := Lib.hid (And.intro hz11 hg11); clear hz11 hg11)
                  go_roundg k
                  case measure => omega
                  case rel =>
                    have h1 := HL44.out
                    have h2 := HSZ2.out.2
                    have h3 := HR1.out.1
                    have h4 := HGK.out
                    refine ⟨_, _, l ++ [j], r2, false, M2, rfl, rfl, H11.out.1, HR.out.gr.trans (H9.out.2.1.trans (H10.out.2.trans H11.out.2)), HR.out.tl.trans (H9.out.2.2.trans HTQ.out), fun _ => ⟨HSZ2.out.1, HM3.out, HX3.out, by omega, by simp, ?_⟩, fun e => (by cases e)⟩
                    rw [if_neg (by simp)]
                    omega
                | none =>
                  obtain ⟨hq1, hq2⟩ := next_hasnt hn44
                  rw [hq1, hq2] at C10
                  have hX : X = none := by
                    rw [← HX2.out]
                    unfold moreP
                    rw [HN93.out, hn44]
                    rfl
                  have HXN := Lib.hid hX
                  clear hn44 hq1 hq2 hX C9
                  go_wp2_with (go_at_call 132; refine C10.mono ?_; rintro e w11 ⟨rfl, hz11, hg11⟩; have H11 := Lib.hid (And.intro hz11 hg11); obtain ⟨⟨j0, -⟩, jf⟩ := hz11.flag; have j4 := jf 4; clear hz11 hg11 jf)
                  go_roundg k
                  case measure => omega
                  case rel =>
                    have hsb := H11.out.1.setBad true
                    have h2 := HSZ2.out.2
                    exact ⟨_, _, [], r1, true, M2, rfl, rfl, hsb.1, HR.out.gr.trans (H9.out.2.1.trans (H10.out.2.trans (H11.out.2.trans hsb.2))), HR.out.tl.trans H9.out.2.2, fun e => (by cases e), fun _ => ⟨HXN.out, by omega⟩⟩
end Go.Proofs.YtljnbbdhmlfhjaaGreatDoor
/-
  The document's JSON reader: an object.
-/
namespace Go.Proofs.YtljnbbdhmlfhjaaGreatDoor
open Go.RowKit
theorem quote_lenZ (T : Bs) : (quote T).length ≤ 6 * T.length + 2 := by
  have := escS_len T
  simp only [quote, List.length_cons, List.length_append, List.length_nil]
  omega
theorem formU_snocZ (j : Bs × J) : ∀ l : List (Bs × J), formU (l ++ [j]) = formU l ++ 44 :: formE j
  | [] => by simp [formU]
  | x :: l => by simp [formU, formU_snocZ j l]
theorem formM_snocZ (l : List (Bs × J)) (j : Bs × J) : formM (l ++ [j]) = (if l.isEmpty then formM l else formM l ++ [44]) ++ formE j := by
  cases l with
  | nil => simp [formM, formU]
  | cons x l => simp [formM, formU_snocZ]
/-- A value, where it is bad already. -/
theorem z_value_bad (S : Bs) (p : Nat) (w : World) (s : Bs) (deep most : Nat) (hS2 : S.length ≤ 1099511620000) (h : ZS S w p s deep most true) (hd : deep ≤ 1099511627776) :
    Calls Tryz.prog 66 #[.pointer (some ⟨p, 0, none⟩)] w (ValF 40 S p w s deep most none) :=
  z_value_core 40 (Nat.le_refl _) S p w s deep most true 0 hS2 h (fun e => (by cases e)) (fun S' _ W hW => z_list_bad S p W S' deep most 91 93 hS2 hW hd _) (fun S' _ W hW => z_list_bad S p W S' deep most 123 125 hS2 hW hd _)
/-- An object under way. -/
structure ORel (S : Bs) (w : World) (p : Nat) (s : Bs) (deep most : Nat) (X : Option (J × Bs)) (val : Bs → Option (J × Bs)) (gk : Nat) (wr : World) (o : ByteArray) (f : Bool) (l : List (Bs × J)) (r : Bs) (b : Bool) (m : Nat) : Prop where
  st : ZS S wr p r (deep + 1) m b
  gr : w.grownBy wr (some p)
  tl : Tl s r
  good : b = false → o.data.toList = 123 :: formM l ∧ m = max most (deep + 1 + deepM l) ∧ preO l (memsL val gk r) = X ∧ r.length < gk ∧ f = l.isEmpty ∧ o.size + (if l.isEmpty then 0 else 7) + 7 * r.length ≤ 7 * s.length + 1
  bads : b = true → X = none ∧ o.size + 7 * r.length ≤ 7 * s.length + 101
/-- The list's end. -/
theorem ORel.fin {S : Bs} {w wr w9 : World} {p : Nat} {s : Bs} {deep most : Nat} {X : Option (J × Bs)} {val : Bs → Option (J × Bs)} {gk : Nat} {o : ByteArray} {f : Bool} {l : List (Bs × J)} {r : Bs} {m : Nat} (h : ORel S w p s deep most X val gk wr o f l r true m) (hz : ZS S w9 p r deep m true) (hg : wr.grownBy w9 (some p)) :
    ValF 100 S p w (123 :: s) deep most X (.returned (.string (o ++ ⟨#[125]⟩))) w9 := by
  obtain ⟨rfl, hl⟩ := h.bads rfl
  refine ⟨(o ++ ⟨#[125]⟩).data.toList, r, true, m, by rw [ba_etaZ], hz, h.gr.trans hg, (tl_drop 1 (123 :: s)).trans h.tl, rfl, ?_⟩
  rw [← size_listZ, ByteArray.size_append, show (⟨#[125]⟩ : ByteArray).size = 1 from rfl, List.length_cons]
  omega
theorem obj_done {S : Bs} {w wr w9 : World} {p : Nat} {s : Bs} {deep most : Nat} {o : ByteArray} {l : List (Bs × J)} {r : Bs} (ho : o.data.toList = 123 :: formM l) (hg0 : w.grownBy wr (some p)) (htl : Tl s r) (hz : ZS S w9 p r deep (max most (deep + 1 + deepM l)) false) (hg : wr.grownBy w9 (some p)) :
    ValF 100 S p w (123 :: s) deep most (some (.obj l, r)) (.returned (.string (o ++ ⟨#[125]⟩))) w9 := by
  refine ⟨(o ++ ⟨#[125]⟩).data.toList, r, false, _, by rw [ba_etaZ], hz, hg0.trans hg, (tl_drop 1 (123 :: s)).trans htl, ?_, rfl, rfl, ?_⟩
  · simp [ByteArray.data_append, ho, formJ]
  · simp only [deepJ]
    omega
set_option maxRecDepth 100000 in
set_option maxHeartbeats 40000000 in
theorem z_obj (S : Bs) (p : Nat) (w : World) (s : Bs) (deep most n : Nat) (hS2 : S.length ≤ 1099511620000) (h : ZS S w p (123 :: s) deep most false) (hdm : deep ≤ most) (val : Bs → Option (J × Bs)) (hok : ValOk val) (IH : ReadsZ S val n) (hs : s.length ≤ n) (hd : deep + s.length + 1 ≤ 1099511620000) :
    Calls Tryz.prog 104 #[.pointer (some ⟨p, 0, none⟩), .int .u8 123, .int .u8 125] w (ValF 100 S p w (123 :: s) deep most (objP val s)) := by
  have hS : S.length ≤ 1099511627776 := by omega
  have HS := Lib.hid hS
  have HS2 := Lib.hid hS2
  have HIH := Lib.hid IH
  have HOK := Lib.hid hok
  have HDM := Lib.hid hdm
  have hsS := h.len
  rw [List.length_cons] at hsS
  have C1 := z_isZ 123 123 rfl S p w (123 :: s) deep most false hS h
  rw [show isF 123 (123 :: s) = s from by simp [isF]] at C1
  have hcv1 := conv_lit 123 123 rfl
  have hcv3 := fun (W : World) (q : Nat) => conv_lit 123 123 rfl (W.drewN q) W.heap.size rfl
  have hcv2 := conv_lit 125 125 rfl
  have HC2 := Lib.hid (fun W m r b (hW : ZS S W p r (deep + 1) m b) => z_isZ 125 125 rfl S p W r (deep + 1) m b hS hW)
  have HC4 := Lib.hid (fun W m r b (hW : ZS S W p r (deep + 1) m b) => z_isZ 44 44 rfl S p W r (deep + 1) m b hS hW)
  have HSP := Lib.hid (fun W m r b (hW : ZS S W p r (deep + 1) m b) => z_space S p W r (deep + 1) m b hS hW)
  obtain ⟨X, hX⟩ : ∃ X, objP val s = X := ⟨_, rfl⟩
  rw [hX]
  have HXX := Lib.hid hX
  clear h hS hS2 IH hok hdm hX
  go_enter Tryz.func104, Tryz.ntmps104
  go_upto_region 2 with (go_at_call 132; refine C1.mono ?_; rintro e w1 ⟨rfl, hz1, hg1⟩; have H1 := Lib.hid (And.intro hz1 hg1); obtain ⟨⟨-, c2, c3⟩, ff⟩ := hz1.flag; have f2 := ff 2; have f3 := ff 3; clear hz1 hg1 ff)
  go_upto_region 3 with fail
  have hst2 := H1.out.1.begun (Below.refl _ _) ((deep : Int) + 1) (by omega)
  obtain ⟨w2, hw2⟩ : ∃ w2, w1.setCell ⟨p, 2, none⟩ (.int .i64 ((deep : Int) + 1)) = w2 := ⟨_, rfl⟩
  rw [hw2] at hst2 ⊢
  have H2 := Lib.hid (And.intro hst2.1 (H1.out.2.trans hst2.2))
  clear hst2 hw2 c2 c3 f2 f3 C1 H1
  obtain ⟨⟨-, c2, c3⟩, ff⟩ := H2.out.1.flag
  have f3 := ff 3
  clear ff
  obtain ⟨M, hM⟩ : ∃ M, max most (deep + 1) = M := ⟨_, rfl⟩
  have hdw : deep ≤ 1099511627776 := by omega
  by_cases hm : most < deep + 1
  case' pos =>
    have d2 : decide (most < deep + 1) = true := decide_eq_true (by omega)
    have hM2 : M = deep + 1 := by omega
    go_quiet (fail)
    go_upto_region 6 with fail
    have h3 := (H2.out.1.keptB (below_drewN (Below.refl _ _) nq)).setMost M ((deep : Int) + 1) (by omega)
    have h4 := belowAJ (o := .cells #[.int .u8 123] 5) (Below.refl ((w2.drewN nq).setCell ⟨p, 3, none⟩ (.int .i64 ((deep : Int) + 1))).heap.size ((w2.drewN nq).setCell ⟨p, 3, none⟩ (.int .i64 ((deep : Int) + 1)))) (Nat.le_refl _)
    have H6 := Lib.hid (And.intro (h3.1.keptB h4) (((H2.out.2.trans (grown_of_below (below_drewN (Below.refl w2.heap.size w2) nq) _)).trans h3.2).trans (grown_of_below h4 _)))
    clear h3 h4 c2 c3 f3 d2 hM2
    obtain ⟨w6, hw6⟩ : ∃ w6, ((w2.drewN nq).setCell ⟨p, 3, none⟩ (.int .i64 ((deep : Int) + 1))).alloc (.cells #[.int .u8 123] 5) = w6 := ⟨_, rfl⟩
    rw [hw6] at H6 ⊢
    clear hw6
  case' neg =>
    have d2 : decide (most < deep + 1) = false := decide_eq_false (by omega)
    have d3 : decide ((most : Int) < (deep : Int) + 1) = false := decide_eq_false (by omega)
    have hM2 : most = M := by omega
    have h2' : ZS S w2 p s (deep + 1) M false := hM2 ▸ H2.out.1
    go_quiet (fail)
    go_upto_region 6 with fail
    have h4 := belowAJ (o := .cells #[.int .u8 123] 5) (Below.refl (w2.drewN nq).heap.size (w2.drewN nq)) (Nat.le_refl _)
    have H6 := Lib.hid (And.intro ((h2'.keptB (below_drewN (Below.refl _ _) nq)).keptB h4) ((H2.out.2.trans (grown_of_below (below_drewN (Below.refl w2.heap.size w2) nq) _)).trans (grown_of_below h4 _)))
    clear h4 c2 c3 f3 d2 d3 hM2 h2'
    obtain ⟨w6, hw6⟩ : ∃ w6, (w2.drewN nq).alloc (.cells #[.int .u8 123] 5) = w6 := ⟨_, rfl⟩
    rw [hw6] at H6 ⊢
    clear hw6
  all_goals
    have C6 := HSP.out w6 _ s _ H6.out.1
    have HM := Lib.hid hM
    clear hM hm hcv1 hcv3
    go_upto_region 7 with (go_at_call 100; refine C6.mono ?_; rintro e w7 ⟨rfl, hz7, hg7⟩; have H7 := Lib.hid (And.intro hz7 (H6.out.2.trans hg7)); clear hz7 hg7)
    have C7 := HC2.out w7 _ _ _ H7.out.1
    cases hnx : nextB 125 (sp s) with
    | some r =>
      have e : X = some (.obj [], r) := by rw [← HXX.out]; unfold objP; rw [hnx]
      have HE := Lib.hid e
      obtain ⟨hq1, hq2⟩ := next_has hnx
      rw [hq1, hq2] at C7
      have HTL := Lib.hid (show Tl s r by rw [← hq2]; exact (tl_sp s).trans (tl_isF 125 _))
      clear hnx e hq1 hq2 C6
      go_upto_region 23 with (go_at_call 132; refine C7.mono ?_; rintro e w8 ⟨rfl, hz8, hg8⟩; have HZZ := Lib.hid (And.intro hz8 hg8); clear hz8 hg8)
      obtain ⟨⟨-, c2, -⟩, ff⟩ := HZZ.out.1.flag
      have f2 := ff 2
      clear ff
      have h9 := HZZ.out.1.setDeep deep (deep : Int) rfl
      have h4 := belowAJ (o := .cells #[.int .u8 125] 5) (Below.refl (w8.setCell ⟨p, 2, none⟩ (.int .i64 (deep : Int))).heap.size (w8.setCell ⟨p, 2, none⟩ (.int .i64 (deep : Int)))) (Nat.le_refl _)
      have H9 := Lib.hid (And.intro (h9.1.keptB h4) ((HZZ.out.2.trans h9.2).trans (grown_of_below h4 _)))
      clear h9 h4
      go_wp2
      go_ret
      rw [HE.out]
      refine obj_done (l := []) (o := ⟨#[123]⟩) rfl H7.out.2 HTL.out ?_ H9.out.2
      have := H9.out.1
      rwa [← HM.out] at this
    | none =>
      have HX := Lib.hid ((obj_pre val s hnx).symm.trans HXX.out)
      obtain ⟨hq1, hq2⟩ := next_hasnt hnx
      rw [hq1, hq2] at C7
      have hsl := sp_len s
      have HTL := Lib.hid (tl_sp s)
      clear hnx hq1 hq2 C6
      go_upto_region 9 with (go_at_call 132; refine C7.mono ?_; rintro e w8 ⟨rfl, hz8, hg8⟩; have H8 := Lib.hid (And.intro hz8 (H7.out.2.trans hg8)); clear hz8 hg8)
      go_loopg [7, 8] (s.length + 1) (fun gk ov fv wr => ∃ (o : ByteArray) (f : Bool) (l : List (Bs × J)) (r : Bs) (b : Bool) (m : Nat), ov = .string o ∧ fv = .bool f ∧ ORel S w p s deep most X val gk wr o f l r b m)
      case atStart =>
        refine ⟨⟨#[123]⟩, true, [], sp s, false, M, rfl, rfl, H8.out.1, H8.out.2, HTL.out, fun _ => ⟨rfl, ?_, HX.out, by omega, rfl, ?_⟩, fun e => (by cases e)⟩
        · rw [← HM.out, show deepM [] = 0 from rfl, Nat.add_zero]
        · show 1 + 0 + 7 * (sp s).length ≤ _
          omega
      case round =>
        obtain ⟨o, f, l, r, b, m, rfl, rfl, hR⟩ := hrel
        have HR := Lib.hid hR
        obtain ⟨⟨c4, -, -⟩, ff⟩ := hR.st.flag
        have f4 := ff 4
        clear ff H8 H7 H6 HX C7
        cases b with
        | true =>
          have HZZ := Lib.hid (And.intro hR.st (grown_refl wr (some p)))
          have hosz : o.size ≤ 7696581340101 := by have := (hR.bads rfl).2; have := HS2.out; omega
          clear hR
          obtain ⟨⟨-, c2, -⟩, ff⟩ := HZZ.out.1.flag
          have f2 := ff 2
          clear ff
          have h9 := HZZ.out.1.setDeep deep (deep : Int) rfl
          have h4 := belowAJ (o := .cells #[.int .u8 125] 5) (Below.refl (wr.setCell ⟨p, 2, none⟩ (.int .i64 (deep : Int))).heap.size (wr.setCell ⟨p, 2, none⟩ (.int .i64 (deep : Int)))) (Nat.le_refl _)
          have H9 := Lib.hid (And.intro (h9.1.keptB h4) ((HZZ.out.2.trans h9.2).trans (grown_of_below h4 _)))
          clear h9 h4
          go_wp2
          go_ret
          exact HR.out.fin H9.out.1 H9.out.2
        | false =>
          obtain ⟨ho, hm, hx, hgk, rfl, hsz⟩ := hR.good rfl
          obtain ⟨k, rfl⟩ : ∃ k, gk = k + 1 := ⟨gk - 1, by omega⟩
          have hrl := hR.tl.len
          have HX1 := Lib.hid hx
          have HGK := Lib.hid hgk
          have HRL := Lib.hid hrl
          have HMM := Lib.hid hm
          have hosz : o.size ≤ 7696581340101 := by have := HS2.out; omega
          obtain ⟨q, hq⟩ : ∃ q, l.isEmpty = q := ⟨_, rfl⟩
          have HFO := Lib.hid (fun (o1 : ByteArray) (h1 : o1 = if q then o else o ++ ⟨#[44]⟩) => (show (∀ j, (o1.data.toList ++ formE j) = 123 :: formM (l ++ [j])) ∧ o1.size + 7 * r.length ≤ 7 * s.length + 1 from by
            rw [h1]
            rw [hq] at hsz
            cases q with
            | true =>
              rw [if_pos rfl] at hsz ⊢
              exact ⟨fun j => by rw [ho, formM_snocZ, hq, if_pos rfl]; rfl, by omega⟩
            | false =>
              rw [if_neg Bool.false_ne_true] at hsz ⊢
              refine ⟨fun j => by rw [formM_snocZ, hq, if_neg Bool.false_ne_true, ByteArray.data_append, Array.toList_append, ho]; simp, ?_⟩
              rw [ByteArray.size_append, show (⟨#[44]⟩ : ByteArray).size = 1 from rfl]
              omega))
          rw [hq]
          clear hR ho hm hx hgk hsz hrl hq
          rcases q with _ | _
          case' false =>
            go_upto_region 13 with fail
            have HF1 := HFO.out _ rfl
            rw [if_neg Bool.false_ne_true] at HF1
            have hosz1 : (o ++ ⟨#[44]⟩ : ByteArray).size ≤ 7696581340102 := by rw [ByteArray.size_append, show (⟨#[44]⟩ : ByteArray).size = 1 from rfl]; omega
            obtain ⟨o1, ho1⟩ : ∃ o1, o ++ ⟨#[44]⟩ = o1 := ⟨_, rfl⟩
            rw [ho1] at HF1 hosz1 ⊢
            have HF := Lib.hid HF1
            clear ho1 HF1 hosz
          case' true =>
            go_upto_region 13 with fail
            have HF1 := HFO.out _ rfl
            rw [if_pos rfl] at HF1
            obtain ⟨o1, ho1⟩ : ∃ o1, o = o1 := ⟨_, rfl⟩
            have hosz1 : o1.size ≤ 7696581340102 := by rw [← ho1]; omega
            rw [ho1] at HF1 ⊢
            have HF := Lib.hid HF1
            clear ho1 HF1 hosz
          all_goals
            clear HFO
            have CS1 := HSP.out wr m r false HR.out.st
            have hspr := sp_len r
            have CTX := Lib.hid (fun W (hW : ZS S W p (sp r) (deep + 1) m false) => z_text S p W (sp r) (deep + 1) m false HS.out hW)
            have CQ := Lib.hid (fun (T : Bs) (hT : T.length ≤ 1099511627776) (W : World) => (show Calls Tryz.prog 38 #[.string ⟨T.toArray⟩] W fun e w' => e = .returned (.string ⟨(quote T).toArray⟩) ∧ Below W.heap.size W w' from ref_Quote ⟨T.toArray⟩ W hT))
            cases ht : textP (sp r) with
            | some y =>
              obtain ⟨nm, r1⟩ := y
              obtain ⟨hr1a, hr1b, -⟩ := text_rdg ht
              have hsp1 := sp_len r1
              have hnl : nm.length + r1.length ≤ (sp r).length := by
                unfold textP at ht
                split at ht
                · cases ht
                · rename_i c x he
                  split at ht
                  · have := str_len _ _ _ _ ht
                    rw [he, List.length_cons]
                    omega
                  · cases ht
              obtain ⟨QB, hQB⟩ : ∃ QB : ByteArray, (⟨(quote nm).toArray⟩ : ByteArray) = QB := ⟨_, rfl⟩
              have hQs : QB.size = (quote nm).length := (congrArg ByteArray.size hQB).symm
              have hQd : QB.data.toList = quote nm := by rw [← hQB]
              have hQz : QB.size ≤ 7696581340100 := by have := HS2.out; have := HRL.out; omega
              have CT' := Lib.hid (fun W (hW : ZS S W p (sp r) (deep + 1) m false) => ((CTX.out W hW).mono (fun e w' ⟨T, r', b', h1, h2, h3, h4, _, h6⟩ => by
                rw [if_neg Bool.false_ne_true, ht] at h6
                obtain ⟨rfl, rfl, rfl⟩ := h6
                exact ⟨h1, h2, h3, h4⟩) : Calls Tryz.prog 103 #[.pointer (some ⟨p, 0, none⟩)] W fun e w' => e = .returned (.string ⟨nm.toArray⟩) ∧ ZS S w' p r1 (deep + 1) m false ∧ W.grownBy w' (some p) ∧ Tl (sp r) r1))
              have CQ' := Lib.hid (fun W => hQB ▸ CQ.out nm (by have := HS2.out; have := HRL.out; omega) W)
              have HTT := Lib.hid ht
              have hosz3 : (o1 ++ QB).size ≤ 15393162680250 := by rw [ByteArray.size_append]; omega
              clear ht hQB CTX
              go_upto_region 17 with (first | (go_at_call 100; refine CS1.mono ?_; rintro e wA ⟨rfl, hzA, hgA⟩; have HA := Lib.hid (And.intro hzA hgA); clear hzA hgA CS1) | (go_at_call 103; refine (CT'.out _ HA.out.1).mono ?_; rintro e wB ⟨rfl, hzB, hgB, htB⟩; have HBB := Lib.hid (And.intro hzB (HA.out.2.trans hgB)); have HTB := Lib.hid htB; have CQ2 := CQ'.out wB; clear hzB hgB htB) | (go_at_call 38; refine CQ2.mono ?_; rintro e wC ⟨rfl, hbC⟩; have HCC := Lib.hid (And.intro (HBB.out.1.keptB hbC) (HBB.out.2.trans (grown_of_below hbC (some p)))); have CS2 := HSP.out wC _ _ _ HCC.out.1; clear hbC CQ2) | (go_at_call 100; refine CS2.mono ?_; rintro e wD ⟨rfl, hzD, hgD⟩; have HDD := Lib.hid (And.intro hzD (HCC.out.2.trans hgD)); clear hzD hgD CS2))
              have hot : (o1 ++ QB ++ ⟨#[58]⟩).data.toList = o1.data.toList ++ (quote nm ++ [58]) := by simp [ByteArray.data_append, hQd]
              have hos : (o1 ++ QB ++ ⟨#[58]⟩).size = o1.size + (quote nm).length + 1 := by
                rw [ByteArray.size_append, ByteArray.size_append, hQs]
                rfl
              obtain ⟨o3, ho3⟩ : ∃ o3, o1 ++ QB ++ ⟨#[58]⟩ = o3 := ⟨_, rfl⟩
              rw [ho3] at hot hos ⊢
              have hosz4 : o3.size ≤ 7696581340250 := by have := HS2.out; have := HRL.out; have := HF.out.2; omega
              have HOT := Lib.hid (And.intro hot hos)
              have HTL1 := Lib.hid (show Tl r (sp r1) from (tl_sp r).trans (HTB.out.trans (tl_sp r1)))
              clear hot hos ho3 hosz3
              have C58 := z_isZ 58 58 rfl S p wD (sp r1) (deep + 1) m false HS.out HDD.out.1
              have HMD := Lib.hid (show deep + 1 ≤ m by have := HMM.out; omega)
              cases hn58 : nextB 58 (sp r1) with
              | some r2 =>
                obtain ⟨hq1, hq2⟩ := next_has hn58
                rw [hq1, hq2] at C58
                have hl58 := congrArg List.length (next_inv hn58)
                rw [List.length_cons] at hl58
                have HMP := Lib.hid (show memP' val r = (match val r2 with
                    | none => none
                    | some (j, r'') => some ((nm, j), r'')) by
                  unfold memP'
                  simp only [HTT.out, hn58]
                  cases val r2 <;> rfl)
                have HTL2 := Lib.hid (show Tl (sp r1) r2 by rw [← hq2]; exact tl_isF 58 _)
                have HRL2 := Lib.hid (show r2.length ≤ s.length ∧ r2.length ≤ r.length by have := HRL.out; omega)
                have HF3 := Lib.hid (show o3.size + 7 * r2.length ≤ 7 * s.length + 1 by have := HOT.out.2; have := HF.out.2; omega)
                have HF4 := Lib.hid (show ∀ j, o3.data.toList ++ formJ j = 123 :: formM (l ++ [(nm, j)]) from fun j => by
                  rw [HOT.out.1, ← HF.out.1 (nm, j)]
                  simp [formE])
                clear hn58 hq1 hq2
                go_upto_region 19 with (go_at_call 132; refine C58.mono ?_; rintro e w13 ⟨rfl, hz13, hg13⟩; have H13 := Lib.hid (And.intro hz13 hg13); clear hz13 hg13)
                have HRT := Lib.hid (And.intro (HR.out.gr.trans (HDD.out.2.trans H13.out.2)) (HR.out.tl.trans (HTL1.out.trans HTL2.out)))
                have CV := HIH.out p w13 r2 (deep + 1) m (by have := HRL2.out; omega) H13.out.1 HMD.out (by have := HRL2.out; omega)
                clear C58 hr1a hr1b hsp1 hnl hQs hQd hl58 hspr
                cases hv : val r2 with
                | none =>
                  rw [hv] at CV
                  have hX : X = none := by
                    have hmn : memP' val r = none := by rw [HMP.out, hv]
                    rw [← HX1.out]; simp only [memsL, hmn]; rfl
                  have HXN := Lib.hid hX
                  clear hv hX
                  go_upto_region 20 with (go_at_call 66; (refine CV.mono ?_; rintro e w9 ⟨T, r3, b1, m1, rfl, hv9⟩; obtain ⟨TB, hTB⟩ : ∃ TB : ByteArray, (⟨T.toArray⟩ : ByteArray) = TB := ⟨_, rfl⟩; have hTs : TB.size = T.length := (congrArg ByteArray.size hTB).symm; have hbd := hv9.res; have hb1 : b1 = true := hbd.1; have hbd2 := hbd.2; have hTz : TB.size ≤ 7696581340100 := (by (have := HS2.out; have := HRL2.out; omega)); rw [hTB]; have H9 := Lib.hid (And.intro hv9 (And.intro hTs hbd2)); clear hv9 hTs hbd hbd2 hTB))
                  subst hb1
                  obtain ⟨hv9, hTs, hbd⟩ := H9.out
                  have hst9 := hv9.st
                  have hr1 := hv9.tl.len
                  have hsz2 : (o3 ++ TB).size + 7 * r3.length ≤ 7 * s.length + 101 := by
                    have := HF3.out
                    rw [ByteArray.size_append]
                    omega
                  have hosz2 : (o3 ++ TB).size ≤ 7696581340250 := by have := HS2.out; omega
                  have HSZ2 := Lib.hid hsz2
                  have C9 := HC2.out w9 _ _ _ hst9
                  have HT9 := Lib.hid hv9.tl
                  obtain ⟨q93, hq93⟩ : ∃ q, hasB 125 r3 = q := ⟨_, rfl⟩
                  rw [hq93] at C9
                  clear hv9 hTs hbd hst9 hsz2 hq93 CV
                  cases q93 with
                  | true =>
                    go_upto_region 23 with (go_at_call 132; refine C9.mono ?_; rintro e w10 ⟨rfl, hz10, hg10⟩; have HZZ := Lib.hid (And.intro hz10 hg10); clear hz10 hg10)
                    obtain ⟨⟨-, c2, -⟩, ff⟩ := HZZ.out.1.flag
                    have f2 := ff 2
                    clear ff
                    have h9 := HZZ.out.1.setDeep deep (deep : Int) rfl
                    have h4 := belowAJ (o := .cells #[.int .u8 125] 5) (Below.refl (w10.setCell ⟨p, 2, none⟩ (.int .i64 (deep : Int))).heap.size (w10.setCell ⟨p, 2, none⟩ (.int .i64 (deep : Int)))) (Nat.le_refl _)
                    have H9' := Lib.hid (And.intro (h9.1.keptB h4) (h9.2.trans (grown_of_below h4 _)))
                    clear h9 h4
                    go_wp2
                    go_ret
                    refine (ORel.fin (val := val) (gk := 0) (f := false) (l := []) (o := o3 ++ TB) ⟨HZZ.out.1, HRT.out.1.trans (H9.out.1.gr.trans HZZ.out.2), HRT.out.2.trans (HT9.out.trans (tl_isF 125 _)), fun e => (by cases e), fun _ => ⟨HXN.out, ?_⟩⟩ H9'.out.1 H9'.out.2)
                    have h1 := (isF_len 125 r3).1
                    have h2 := HSZ2.out
                    omega
                  | false =>
                    go_upto_region 21 with (go_at_call 132; refine C9.mono ?_; rintro e w10 ⟨rfl, hz10, hg10⟩; have H10 := Lib.hid (And.intro hz10 hg10); clear hz10 hg10)
                    have C10 := HC4.out w10 _ _ _ H10.out.1
                    obtain ⟨q44, hq44⟩ : ∃ q, hasB 44 (isF 125 r3) = q := ⟨_, rfl⟩
                    rw [hq44] at C10
                    clear hq44 C9
                    cases q44 with
                    | true =>
                      go_wp2_with (go_at_call 132; refine C10.mono ?_; rintro e w11 ⟨rfl, hz11, hg11⟩; have H11 := Lib.hid (And.intro hz11 hg11); clear hz11 hg11)
                      go_roundg k
                      case measure => omega
                      case rel =>
                        refine ⟨_, _, [], _, true, _, rfl, rfl, H11.out.1, HRT.out.1.trans (H9.out.1.gr.trans (H10.out.2.trans H11.out.2)), HRT.out.2.trans (HT9.out.trans ((tl_isF 125 _).trans (tl_isF 44 _))), fun e => (by cases e), fun _ => ⟨HXN.out, ?_⟩⟩
                        have h1 := (isF_len 125 r3).1
                        have h3 := (isF_len 44 (isF 125 r3)).1
                        have h2 := HSZ2.out
                        omega
                    | false =>
                      go_wp2_with (go_at_call 132; refine C10.mono ?_; rintro e w11 ⟨rfl, hz11, hg11⟩; have H11 := Lib.hid (And.intro hz11 hg11); obtain ⟨⟨j0, -⟩, jf⟩ := hz11.flag; have j4 := jf 4; clear hz11 hg11 jf)
                      go_roundg k
                      case measure => omega
                      case rel =>
                        have hsb := H11.out.1.setBad true
                        refine ⟨_, _, [], _, true, _, rfl, rfl, hsb.1, HRT.out.1.trans (H9.out.1.gr.trans (H10.out.2.trans (H11.out.2.trans hsb.2))), HRT.out.2.trans (HT9.out.trans ((tl_isF 125 _).trans (tl_isF 44 _))), fun e => (by cases e), fun _ => ⟨HXN.out, ?_⟩⟩
                        have h1 := (isF_len 125 r3).1
                        have h3 := (isF_len 44 (isF 125 r3)).1
                        have h2 := HSZ2.out
                        omega
                | some y =>
                  obtain ⟨j, r3⟩ := y
                  obtain ⟨hrl1, hrs1, -⟩ := HOK.out r2 j r3 hv
                  have hx1 := HX1.out
                  simp only [memsL, HMP.out, hv] at hx1
                  have HX2 := Lib.hid hx1
                  have HR1 := Lib.hid (And.intro hrl1 hrs1)
                  rw [hv] at CV
                  obtain ⟨TB, hTB⟩ : ∃ TB : ByteArray, (⟨(formJ j).toArray⟩ : ByteArray) = TB := ⟨_, rfl⟩
                  have hTs : TB.size = (formJ j).length := (congrArg ByteArray.size hTB).symm
                  have hTd : TB.data.toList = formJ j := by rw [← hTB]
                  obtain ⟨M2, hM2⟩ : ∃ M2, max m (deep + 1 + deepJ j) = M2 := ⟨_, rfl⟩
                  have hM3 : M2 = max most (deep + 1 + deepM (l ++ [(nm, j)])) := by rw [deepM_snoc, ← hM2, HMM.out]; omega
                  have HM3 := Lib.hid hM3
                  have CV' : Calls Tryz.prog 66 #[.pointer (some ⟨p, 0, none⟩)] w13 fun e w' => e = .returned (.string TB) ∧ ZS S w' p r3 (deep + 1) M2 false ∧ w13.grownBy w' (some p) ∧ Tl r2 r3 := by
                    refine CV.mono ?_
                    rintro e w' ⟨T, r', b', m', rfl, hvm⟩
                    obtain ⟨rfl, rfl, rfl, rfl⟩ := hvm.res
                    exact ⟨by rw [hTB], hM2 ▸ hvm.st, hvm.gr, hvm.tl⟩
                  have hTz : TB.size ≤ 7696581340100 := by have := HS2.out; have := HRL2.out; omega
                  have ho2 : (o3 ++ TB).data.toList = 123 :: formM (l ++ [(nm, j)]) := by rw [ByteArray.data_append, Array.toList_append, hTd]; exact HF4.out j
                  have hsz2 : (o3 ++ TB).size + 7 * r3.length ≤ 7 * s.length + 1 := by
                    have := HF3.out
                    rw [ByteArray.size_append]
                    omega
                  have hosz2 : (o3 ++ TB).size ≤ 7696581340250 := by have := HS2.out; omega
                  have HSZ2 := Lib.hid (And.intro ho2 hsz2)
                  clear hv hx1 hrl1 hrs1 CV hTB hTs hTd hM2 hM3 ho2 hsz2
                  go_upto_region 20 with (go_at_call 66; refine CV'.mono ?_; rintro e w9 ⟨rfl, hz9, hg9, ht9⟩; have H9 := Lib.hid (And.intro hz9 (And.intro hg9 ht9)); clear hz9 hg9 ht9)
                  obtain ⟨o2, ho2⟩ : ∃ o2, o3 ++ TB = o2 := ⟨_, rfl⟩
                  rw [ho2] at HSZ2 hosz2 ⊢
                  clear ho2 CV'
                  have C9 := HC2.out w9 _ _ _ H9.out.1
                  cases hn93 : nextB 125 r3 with
                  | some r4 =>
                    obtain ⟨hq1, hq2⟩ := next_has hn93
                    rw [hq1, hq2] at C9
                    have hX : X = some (.obj (l ++ [(nm, j)]), r4) := by
                      rw [← HX2.out]
                      unfold moreP
                      rw [hn93]
                      rfl
                    have HXN := Lib.hid hX
                    have HTQ := Lib.hid (show Tl r3 r4 by rw [← hq2]; exact tl_isF 125 _)
                    clear hn93 hq1 hq2 hX
                    go_upto_region 23 with (go_at_call 132; refine C9.mono ?_; rintro e w10 ⟨rfl, hz10, hg10⟩; have HZZ := Lib.hid (And.intro hz10 hg10); clear hz10 hg10)
                    obtain ⟨⟨-, c2, -⟩, ff⟩ := HZZ.out.1.flag
                    have f2 := ff 2
                    clear ff
                    have h9 := HZZ.out.1.setDeep deep (deep : Int) rfl
                    have h4 := belowAJ (o := .cells #[.int .u8 125] 5) (Below.refl (w10.setCell ⟨p, 2, none⟩ (.int .i64 (deep : Int))).heap.size (w10.setCell ⟨p, 2, none⟩ (.int .i64 (deep : Int)))) (Nat.le_refl _)
                    have H9' := Lib.hid (And.intro (h9.1.keptB h4) (h9.2.trans (grown_of_below h4 _)))
                    clear h9 h4
                    go_wp2
                    go_ret
                    rw [HXN.out]
                    refine obj_done (l := l ++ [(nm, j)]) HSZ2.out.1 (HRT.out.1.trans (H9.out.2.1.trans HZZ.out.2)) (HRT.out.2.trans (H9.out.2.2.trans HTQ.out)) ?_ H9'.out.2
                    have := H9'.out.1
                    rwa [HM3.out] at this
                  | none =>
                    obtain ⟨hq1, hq2⟩ := next_hasnt hn93
                    rw [hq1, hq2] at C9
                    have HN93 := Lib.hid hn93
                    clear hn93 hq1 hq2
                    go_upto_region 21 with (go_at_call 132; refine C9.mono ?_; rintro e w10 ⟨rfl, hz10, hg10⟩; have H10 := Lib.hid (And.intro hz10 hg10); clear hz10 hg10)
                    have C10 := HC4.out w10 _ _ _ H10.out.1
                    cases hn44 : nextB 44 r3 with
                    | some r4 =>
                      obtain ⟨hq1, hq2⟩ := next_has hn44
                      rw [hq1, hq2] at C10
                      have hX : preO (l ++ [(nm, j)]) (memsL val k r4) = X := by
                        rw [← HX2.out]
                        unfold moreP
                        rw [HN93.out, hn44]
                        exact (preO_add _ _ _).symm
                      have HX3 := Lib.hid hX
                      have hl44 := congrArg List.length (next_inv hn44)
                      rw [List.length_cons] at hl44
                      have HL44 := Lib.hid hl44
                      have HTQ := Lib.hid (show Tl r3 r4 by rw [← hq2]; exact tl_isF 44 _)
                      clear hn44 hq1 hq2 hX hl44 C9
                      go_wp2_with (go_at_call 132; refine C10.mono ?_; rintro e w11 ⟨rfl, hz11, hg11⟩; have H11 := Lib.hid (And.intro hz11 hg11); clear hz11 hg11)
                      go_roundg k
                      case measure => omega
                      case rel =>
                        have h1 := HL44.out
                        have h2 := HSZ2.out.2
                        have h3 := HR1.out.1
                        have h4 := HGK.out
                        have h5 := HRL2.out
                        refine ⟨_, _, l ++ [(nm, j)], r4, false, M2, rfl, rfl, H11.out.1, HRT.out.1.trans (H9.out.2.1.trans (H10.out.2.trans H11.out.2)), HRT.out.2.trans (H9.out.2.2.trans HTQ.out), fun _ => ⟨HSZ2.out.1, HM3.out, HX3.out, by omega, by simp, ?_⟩, fun e => (by cases e)⟩
                        rw [if_neg (by simp)]
                        omega
                    | none =>
                      obtain ⟨hq1, hq2⟩ := next_hasnt hn44
                      rw [hq1, hq2] at C10
                      have hX : X = none := by
                        rw [← HX2.out]
                        unfold moreP
                        rw [HN93.out, hn44]
                        rfl
                      have HXN := Lib.hid hX
                      clear hn44 hq1 hq2 hX C9
                      go_wp2_with (go_at_call 132; refine C10.mono ?_; rintro e w11 ⟨rfl, hz11, hg11⟩; have H11 := Lib.hid (And.intro hz11 hg11); obtain ⟨⟨j0, -⟩, jf⟩ := hz11.flag; have j4 := jf 4; clear hz11 hg11 jf)
                      go_roundg k
                      case measure => omega
                      case rel =>
                        have hsb := H11.out.1.setBad true
                        have h2 := HSZ2.out.2
                        exact ⟨_, _, [], r3, true, M2, rfl, rfl, hsb.1, HRT.out.1.trans (H9.out.2.1.trans (H10.out.2.trans (H11.out.2.trans hsb.2))), HRT.out.2.trans H9.out.2.2, fun e => (by cases e), fun _ => ⟨HXN.out, by omega⟩⟩
              | none =>
                obtain ⟨hq1, hq2⟩ := next_hasnt hn58
                rw [hq1, hq2] at C58
                have hX : X = none := by
                  have hmn : memP' val r = none := by
                    unfold memP'
                    rw [HTT.out]
                    simp only []
                    rw [hn58]
                  rw [← HX1.out]; simp only [memsL, hmn]; rfl
                have HXN := Lib.hid hX
                have HRL2 := Lib.hid (show (sp r1).length ≤ s.length ∧ (sp r1).length ≤ r.length by have := HRL.out; omega)
                have HF3 := Lib.hid (show o3.size + 7 * (sp r1).length ≤ 7 * s.length + 28 by have := HOT.out.2; have := HF.out.2; omega)
                clear hn58 hq1 hq2 hX
                go_upto_region 19 with (go_at_call 132; refine C58.mono ?_; rintro e w12 ⟨rfl, hz13, hg13⟩; have H12 := Lib.hid (And.intro hz13 hg13); obtain ⟨⟨j0, -⟩, jf⟩ := hz13.flag; have j4 := jf 4; clear hz13 hg13 jf)
                have hsb := H12.out.1.setBad true
                obtain ⟨w13, hw13⟩ : ∃ w13, w12.setCell ⟨p, 4, none⟩ (.bool true) = w13 := ⟨_, rfl⟩
                rw [hw13] at hsb ⊢
                have HRT := Lib.hid (And.intro (HR.out.gr.trans (HDD.out.2.trans (H12.out.2.trans hsb.2))) (HR.out.tl.trans HTL1.out))
                have CV := z_value_bad S p w13 (sp r1) (deep + 1) m HS2.out hsb.1 (by omega)
                clear C58 hr1a hr1b hsp1 hnl hQs hQd hspr hsb hw13 j0 j4
                go_upto_region 20 with (go_at_call 66; (refine CV.mono ?_; rintro e w9 ⟨T, r3, b1, m1, rfl, hv9⟩; obtain ⟨TB, hTB⟩ : ∃ TB : ByteArray, (⟨T.toArray⟩ : ByteArray) = TB := ⟨_, rfl⟩; have hTs : TB.size = T.length := (congrArg ByteArray.size hTB).symm; have hbd := hv9.res; have hb1 : b1 = true := hbd.1; have hbd2 := hbd.2; have hTz : TB.size ≤ 7696581340100 := (by (have := HS2.out; have := HRL2.out; omega)); rw [hTB]; have H9 := Lib.hid (And.intro hv9 (And.intro hTs hbd2)); clear hv9 hTs hbd hbd2 hTB))
                subst hb1
                obtain ⟨hv9, hTs, hbd⟩ := H9.out
                have hst9 := hv9.st
                have hr1 := hv9.tl.len
                have hsz2 : (o3 ++ TB).size + 7 * r3.length ≤ 7 * s.length + 101 := by
                  have := HF3.out
                  rw [ByteArray.size_append]
                  omega
                have hosz2 : (o3 ++ TB).size ≤ 7696581340250 := by have := HS2.out; omega
                have HSZ2 := Lib.hid hsz2
                have C9 := HC2.out w9 _ _ _ hst9
                have HT9 := Lib.hid hv9.tl
                obtain ⟨q93, hq93⟩ : ∃ q, hasB 125 r3 = q := ⟨_, rfl⟩
                rw [hq93] at C9
                clear hv9 hTs hbd hst9 hsz2 hq93 CV
                cases q93 with
                | true =>
                  go_upto_region 23 with (go_at_call 132; refine C9.mono ?_; rintro e w10 ⟨rfl, hz10, hg10⟩; have HZZ := Lib.hid (And.intro hz10 hg10); clear hz10 hg10)
                  obtain ⟨⟨-, c2, -⟩, ff⟩ := HZZ.out.1.flag
                  have f2 := ff 2
                  clear ff
                  have h9 := HZZ.out.1.setDeep deep (deep : Int) rfl
                  have h4 := belowAJ (o := .cells #[.int .u8 125] 5) (Below.refl (w10.setCell ⟨p, 2, none⟩ (.int .i64 (deep : Int))).heap.size (w10.setCell ⟨p, 2, none⟩ (.int .i64 (deep : Int)))) (Nat.le_refl _)
                  have H9' := Lib.hid (And.intro (h9.1.keptB h4) (h9.2.trans (grown_of_below h4 _)))
                  clear h9 h4
                  go_wp2
                  go_ret
                  refine (ORel.fin (val := val) (gk := 0) (f := false) (l := []) (o := o3 ++ TB) ⟨HZZ.out.1, HRT.out.1.trans (H9.out.1.gr.trans HZZ.out.2), HRT.out.2.trans (HT9.out.trans (tl_isF 125 _)), fun e => (by cases e), fun _ => ⟨HXN.out, ?_⟩⟩ H9'.out.1 H9'.out.2)
                  have h1 := (isF_len 125 r3).1
                  have h2 := HSZ2.out
                  omega
                | false =>
                  go_upto_region 21 with (go_at_call 132; refine C9.mono ?_; rintro e w10 ⟨rfl, hz10, hg10⟩; have H10 := Lib.hid (And.intro hz10 hg10); clear hz10 hg10)
                  have C10 := HC4.out w10 _ _ _ H10.out.1
                  obtain ⟨q44, hq44⟩ : ∃ q, hasB 44 (isF 125 r3) = q := ⟨_, rfl⟩
                  rw [hq44] at C10
                  clear hq44 C9
                  cases q44 with
                  | true =>
                    go_wp2_with (go_at_call 132; refine C10.mono ?_; rintro e w11 ⟨rfl, hz11, hg11⟩; have H11 := Lib.hid (And.intro hz11 hg11); clear hz11 hg11)
                    go_roundg k
                    case measure => omega
                    case rel =>
                      refine ⟨_, _, [], _, true, _, rfl, rfl, H11.out.1, HRT.out.1.trans (H9.out.1.gr.trans (H10.out.2.trans H11.out.2)), HRT.out.2.trans (HT9.out.trans ((tl_isF 125 _).trans (tl_isF 44 _))), fun e => (by cases e), fun _ => ⟨HXN.out, ?_⟩⟩
                      have h1 := (isF_len 125 r3).1
                      have h3 := (isF_len 44 (isF 125 r3)).1
                      have h2 := HSZ2.out
                      omega
                  | false =>
                    go_wp2_with (go_at_call 132; refine C10.mono ?_; rintro e w11 ⟨rfl, hz11, hg11⟩; have H11 := Lib.hid (And.intro hz11 hg11); obtain ⟨⟨j0, -⟩, jf⟩ := hz11.flag; have j4 := jf 4; clear hz11 hg11 jf)
                    go_roundg k
                    case measure => omega
                    case rel =>
                      have hsb := H11.out.1.setBad true
                      refine ⟨_, _, [], _, true, _, rfl, rfl, hsb.1, HRT.out.1.trans (H9.out.1.gr.trans (H10.out.2.trans (H11.out.2.trans hsb.2))), HRT.out.2.trans (HT9.out.trans ((tl_isF 125 _).trans (tl_isF 44 _))), fun e => (by cases e), fun _ => ⟨HXN.out, ?_⟩⟩
                      have h1 := (isF_len 125 r3).1
                      have h3 := (isF_len 44 (isF 125 r3)).1
                      have h2 := HSZ2.out
                      omega
            | none =>
              have CT' := Lib.hid (fun W (hW : ZS S W p (sp r) (deep + 1) m false) => ((CTX.out W hW).mono (fun e w' ⟨T, r', b', h1, h2, h3, h4, h5, h6⟩ => by
                rw [if_neg Bool.false_ne_true, ht] at h6
                have h6' : b' = true := h6
                subst h6'
                exact ⟨T, r', h1, h2, h3, h4, h5⟩) : Calls Tryz.prog 103 #[.pointer (some ⟨p, 0, none⟩)] W fun e w' => ∃ (T r1 : Bs), e = .returned (.string ⟨T.toArray⟩) ∧ ZS S w' p r1 (deep + 1) m true ∧ W.grownBy w' (some p) ∧ Tl (sp r) r1 ∧ T.length + r1.length ≤ (sp r).length + 4))
              have hX : X = none := by
                have hmn : memP' val r = none := by
                  unfold memP'
                  rw [ht]
                rw [← HX1.out]; simp only [memsL, hmn]; rfl
              have HXN := Lib.hid hX
              clear ht CTX hX
              go_upto_region 17 with (first | (go_at_call 100; refine CS1.mono ?_; rintro e wA ⟨rfl, hzA, hgA⟩; have HA := Lib.hid (And.intro hzA hgA); clear hzA hgA CS1) | (go_at_call 103; (refine (CT'.out _ HA.out.1).mono ?_; rintro e wB ⟨T, r1, rfl, hzB, hgB, htB, hlB⟩; have hTz : T.length ≤ 1099511627776 := (by (have := HS2.out; have := HRL.out; omega)); have CQ1 := CQ.out T hTz wB; obtain ⟨QB, hQB⟩ : ∃ QB : ByteArray, (⟨(quote T).toArray⟩ : ByteArray) = QB := ⟨_, rfl⟩; have hQs : QB.size = (quote T).length := (congrArg ByteArray.size hQB).symm; have hQl := quote_lenZ T; have hQz : QB.size ≤ 7696581340100 := (by (have := HS2.out; have := HRL.out; omega)); have hosz3 : (o1 ++ QB).size ≤ 15393162680250 := (by (rw [ByteArray.size_append]; omega)); rw [hQB] at CQ1; have CQ2 := CQ1; have HBB := Lib.hid (And.intro hzB (HA.out.2.trans hgB)); have HTB := Lib.hid (And.intro htB (And.intro hlB (And.intro hQs hQl))); clear hzB hgB htB hlB CQ1 hQB hQs hQl hTz)) | (go_at_call 38; refine CQ2.mono ?_; rintro e wC ⟨rfl, hbC⟩; have HCC := Lib.hid (And.intro (HBB.out.1.keptB hbC) (HBB.out.2.trans (grown_of_below hbC (some p)))); have CS2 := HSP.out wC _ _ _ HCC.out.1; clear hbC CQ2) | (go_at_call 100; refine CS2.mono ?_; rintro e wD ⟨rfl, hzD, hgD⟩; have HDD := Lib.hid (And.intro hzD (HCC.out.2.trans hgD)); clear hzD hgD CS2))
              have hsp1 := sp_len r1
              have hos : (o1 ++ QB ++ ⟨#[58]⟩).size + 7 * (sp r1).length ≤ 7 * s.length + 28 := by
                rw [ByteArray.size_append, ByteArray.size_append, show (⟨#[58]⟩ : ByteArray).size = 1 from rfl]
                obtain ⟨h1, h2, h3, h4⟩ := HTB.out
                have := h1.len
                have := HF.out.2
                omega
              obtain ⟨o3, ho3⟩ : ∃ o3, o1 ++ QB ++ ⟨#[58]⟩ = o3 := ⟨_, rfl⟩
              rw [ho3] at hos ⊢
              have hosz4 : o3.size ≤ 7696581340250 := by have := HS2.out; have := HRL.out; omega
              have HOS := Lib.hid hos
              have HTL1 := Lib.hid (show Tl r (sp r1) from (tl_sp r).trans (HTB.out.1.trans (tl_sp r1)))
              have C58 := z_isZ 58 58 rfl S p wD (sp r1) (deep + 1) m true HS.out HDD.out.1
              have hif := (isF_len 58 (sp r1)).1
              have htbl := HTB.out.1.len
              obtain ⟨q58, hq58⟩ : ∃ q, hasB 58 (sp r1) = q := ⟨_, rfl⟩
              rw [hq58] at C58
              have HRL2 := Lib.hid (show (isF 58 (sp r1)).length ≤ s.length ∧ (isF 58 (sp r1)).length ≤ r.length by have := HRL.out; omega)
              have HF3 := Lib.hid (show o3.size + 7 * (isF 58 (sp r1)).length ≤ 7 * s.length + 28 by omega)
              clear hos ho3 hosz3 hq58 hif htbl
              cases q58 with
              | true =>
                go_upto_region 19 with (go_at_call 132; refine C58.mono ?_; rintro e w13 ⟨rfl, hz13, hg13⟩; have H13 := Lib.hid (And.intro hz13 hg13); clear hz13 hg13)
                have HRT := Lib.hid (And.intro (HR.out.gr.trans (HDD.out.2.trans H13.out.2)) (HR.out.tl.trans (HTL1.out.trans (tl_isF 58 _))))
                have CV := z_value_bad S p w13 (isF 58 (sp r1)) (deep + 1) m HS2.out H13.out.1 (by omega)
                clear C58 hsp1 hspr
                go_upto_region 20 with (go_at_call 66; (refine CV.mono ?_; rintro e w9 ⟨T, r3, b1, m1, rfl, hv9⟩; obtain ⟨TB, hTB⟩ : ∃ TB : ByteArray, (⟨T.toArray⟩ : ByteArray) = TB := ⟨_, rfl⟩; have hTs : TB.size = T.length := (congrArg ByteArray.size hTB).symm; have hbd := hv9.res; have hb1 : b1 = true := hbd.1; have hbd2 := hbd.2; have hTz : TB.size ≤ 7696581340100 := (by (have := HS2.out; have := HRL2.out; omega)); rw [hTB]; have H9 := Lib.hid (And.intro hv9 (And.intro hTs hbd2)); clear hv9 hTs hbd hbd2 hTB))
                subst hb1
                obtain ⟨hv9, hTs, hbd⟩ := H9.out
                have hst9 := hv9.st
                have hr1 := hv9.tl.len
                have hsz2 : (o3 ++ TB).size + 7 * r3.length ≤ 7 * s.length + 101 := by
                  have := HF3.out
                  rw [ByteArray.size_append]
                  omega
                have hosz2 : (o3 ++ TB).size ≤ 7696581340250 := by have := HS2.out; omega
                have HSZ2 := Lib.hid hsz2
                have C9 := HC2.out w9 _ _ _ hst9
                have HT9 := Lib.hid hv9.tl
                obtain ⟨q93, hq93⟩ : ∃ q, hasB 125 r3 = q := ⟨_, rfl⟩
                rw [hq93] at C9
                clear hv9 hTs hbd hst9 hsz2 hq93 CV
                cases q93 with
                | true =>
                  go_upto_region 23 with (go_at_call 132; refine C9.mono ?_; rintro e w10 ⟨rfl, hz10, hg10⟩; have HZZ := Lib.hid (And.intro hz10 hg10); clear hz10 hg10)
                  obtain ⟨⟨-, c2, -⟩, ff⟩ := HZZ.out.1.flag
                  have f2 := ff 2
                  clear ff
                  have h9 := HZZ.out.1.setDeep deep (deep : Int) rfl
                  have h4 := belowAJ (o := .cells #[.int .u8 125] 5) (Below.refl (w10.setCell ⟨p, 2, none⟩ (.int .i64 (deep : Int))).heap.size (w10.setCell ⟨p, 2, none⟩ (.int .i64 (deep : Int)))) (Nat.le_refl _)
                  have H9' := Lib.hid (And.intro (h9.1.keptB h4) (h9.2.trans (grown_of_below h4 _)))
                  clear h9 h4
                  go_wp2
                  go_ret
                  refine (ORel.fin (val := val) (gk := 0) (f := false) (l := []) (o := o3 ++ TB) ⟨HZZ.out.1, HRT.out.1.trans (H9.out.1.gr.trans HZZ.out.2), HRT.out.2.trans (HT9.out.trans (tl_isF 125 _)), fun e => (by cases e), fun _ => ⟨HXN.out, ?_⟩⟩ H9'.out.1 H9'.out.2)
                  have h1 := (isF_len 125 r3).1
                  have h2 := HSZ2.out
                  omega
                | false =>
                  go_upto_region 21 with (go_at_call 132; refine C9.mono ?_; rintro e w10 ⟨rfl, hz10, hg10⟩; have H10 := Lib.hid (And.intro hz10 hg10); clear hz10 hg10)
                  have C10 := HC4.out w10 _ _ _ H10.out.1
                  obtain ⟨q44, hq44⟩ : ∃ q, hasB 44 (isF 125 r3) = q := ⟨_, rfl⟩
                  rw [hq44] at C10
                  clear hq44 C9
                  cases q44 with
                  | true =>
                    go_wp2_with (go_at_call 132; refine C10.mono ?_; rintro e w11 ⟨rfl, hz11, hg11⟩; have H11 := Lib.hid (And.intro hz11 hg11); clear hz11 hg11)
                    go_roundg k
                    case measure => omega
                    case rel =>
                      refine ⟨_, _, [], _, true, _, rfl, rfl, H11.out.1, HRT.out.1.trans (H9.out.1.gr.trans (H10.out.2.trans H11.out.2)), HRT.out.2.trans (HT9.out.trans ((tl_isF 125 _).trans (tl_isF 44 _))), fun e => (by cases e), fun _ => ⟨HXN.out, ?_⟩⟩
                      have h1 := (isF_len 125 r3).1
                      have h3 := (isF_len 44 (isF 125 r3)).1
                      have h2 := HSZ2.out
                      omega
                  | false =>
                    go_wp2_with (go_at_call 132; refine C10.mono ?_; rintro e w11 ⟨rfl, hz11, hg11⟩; have H11 := Lib.hid (And.intro hz11 hg11); obtain ⟨⟨j0, -⟩, jf⟩ := hz11.flag; have j4 := jf 4; clear hz11 hg11 jf)
                    go_roundg k
                    case measure => omega
                    case rel =>
                      have hsb := H11.out.1.setBad true
                      refine ⟨_, _, [], _, true, _, rfl, rfl, hsb.1, HRT.out.1.trans (H9.out.1.gr.trans (H10.out.2.trans (H11.out.2.trans hsb.2))), HRT.out.2.trans (HT9.out.trans ((tl_isF 125 _).trans (tl_isF 44 _))), fun e => (by cases e), fun _ => ⟨HXN.out, ?_⟩⟩
                      have h1 := (isF_len 125 r3).1
                      have h3 := (isF_len 44 (isF 125 r3)).1
                      have h2 := HSZ2.out
                      omega
              | false =>
                go_upto_region 19 with (go_at_call 132; refine C58.mono ?_; rintro e w12 ⟨rfl, hz13, hg13⟩; have H12 := Lib.hid (And.intro hz13 hg13); obtain ⟨⟨j0, -⟩, jf⟩ := hz13.flag; have j4 := jf 4; clear hz13 hg13 jf)
                have hsb := H12.out.1.setBad true
                obtain ⟨w13, hw13⟩ : ∃ w13, w12.setCell ⟨p, 4, none⟩ (.bool true) = w13 := ⟨_, rfl⟩
                rw [hw13] at hsb ⊢
                have HRT := Lib.hid (And.intro (HR.out.gr.trans (HDD.out.2.trans (H12.out.2.trans hsb.2))) (HR.out.tl.trans (HTL1.out.trans (tl_isF 58 _))))
                have CV := z_value_bad S p w13 (isF 58 (sp r1)) (deep + 1) m HS2.out hsb.1 (by omega)
                clear C58 hsp1 hspr hsb hw13 j0 j4
                go_upto_region 20 with (go_at_call 66; (refine CV.mono ?_; rintro e w9 ⟨T, r3, b1, m1, rfl, hv9⟩; obtain ⟨TB, hTB⟩ : ∃ TB : ByteArray, (⟨T.toArray⟩ : ByteArray) = TB := ⟨_, rfl⟩; have hTs : TB.size = T.length := (congrArg ByteArray.size hTB).symm; have hbd := hv9.res; have hb1 : b1 = true := hbd.1; have hbd2 := hbd.2; have hTz : TB.size ≤ 7696581340100 := (by (have := HS2.out; have := HRL2.out; omega)); rw [hTB]; have H9 := Lib.hid (And.intro hv9 (And.intro hTs hbd2)); clear hv9 hTs hbd hbd2 hTB))
                subst hb1
                obtain ⟨hv9, hTs, hbd⟩ := H9.out
                have hst9 := hv9.st
                have hr1 := hv9.tl.len
                have hsz2 : (o3 ++ TB).size + 7 * r3.length ≤ 7 * s.length + 101 := by
                  have := HF3.out
                  rw [ByteArray.size_append]
                  omega
                have hosz2 : (o3 ++ TB).size ≤ 7696581340250 := by have := HS2.out; omega
                have HSZ2 := Lib.hid hsz2
                have C9 := HC2.out w9 _ _ _ hst9
                have HT9 := Lib.hid hv9.tl
                obtain ⟨q93, hq93⟩ : ∃ q, hasB 125 r3 = q := ⟨_, rfl⟩
                rw [hq93] at C9
                clear hv9 hTs hbd hst9 hsz2 hq93 CV
                cases q93 with
                | true =>
                  go_upto_region 23 with (go_at_call 132; refine C9.mono ?_; rintro e w10 ⟨rfl, hz10, hg10⟩; have HZZ := Lib.hid (And.intro hz10 hg10); clear hz10 hg10)
                  obtain ⟨⟨-, c2, -⟩, ff⟩ := HZZ.out.1.flag
                  have f2 := ff 2
                  clear ff
                  have h9 := HZZ.out.1.setDeep deep (deep : Int) rfl
                  have h4 := belowAJ (o := .cells #[.int .u8 125] 5) (Below.refl (w10.setCell ⟨p, 2, none⟩ (.int .i64 (deep : Int))).heap.size (w10.setCell ⟨p, 2, none⟩ (.int .i64 (deep : Int)))) (Nat.le_refl _)
                  have H9' := Lib.hid (And.intro (h9.1.keptB h4) (h9.2.trans (grown_of_below h4 _)))
                  clear h9 h4
                  go_wp2
                  go_ret
                  refine (ORel.fin (val := val) (gk := 0) (f := false) (l := []) (o := o3 ++ TB) ⟨HZZ.out.1, HRT.out.1.trans (H9.out.1.gr.trans HZZ.out.2), HRT.out.2.trans (HT9.out.trans (tl_isF 125 _)), fun e => (by cases e), fun _ => ⟨HXN.out, ?_⟩⟩ H9'.out.1 H9'.out.2)
                  have h1 := (isF_len 125 r3).1
                  have h2 := HSZ2.out
                  omega
                | false =>
                  go_upto_region 21 with (go_at_call 132; refine C9.mono ?_; rintro e w10 ⟨rfl, hz10, hg10⟩; have H10 := Lib.hid (And.intro hz10 hg10); clear hz10 hg10)
                  have C10 := HC4.out w10 _ _ _ H10.out.1
                  obtain ⟨q44, hq44⟩ : ∃ q, hasB 44 (isF 125 r3) = q := ⟨_, rfl⟩
                  rw [hq44] at C10
                  clear hq44 C9
                  cases q44 with
                  | true =>
                    go_wp2_with (go_at_call 132; refine C10.mono ?_; rintro e w11 ⟨rfl, hz11, hg11⟩; have H11 := Lib.hid (And.intro hz11 hg11); clear hz11 hg11)
                    go_roundg k
                    case measure => omega
                    case rel =>
                      refine ⟨_, _, [], _, true, _, rfl, rfl, H11.out.1, HRT.out.1.trans (H9.out.1.gr.trans (H10.out.2.trans H11.out.2)), HRT.out.2.trans (HT9.out.trans ((tl_isF 125 _).trans (tl_isF 44 _))), fun e => (by cases e), fun _ => ⟨HXN.out, ?_⟩⟩
                      have h1 := (isF_len 125 r3).1
                      have h3 := (isF_len 44 (isF 125 r3)).1
                      have h2 := HSZ2.out
                      omega
                  | false =>
                    go_wp2_with (go_at_call 132; refine C10.mono ?_; rintro e w11 ⟨rfl, hz11, hg11⟩; have H11 := Lib.hid (And.intro hz11 hg11); obtain ⟨⟨j0, -⟩, jf⟩ := hz11.flag; have j4 := jf 4; clear hz11 hg11 jf)
                    go_roundg k
                    case measure => omega
                    case rel =>
                      have hsb := H11.out.1.setBad true
                      refine ⟨_, _, [], _, true, _, rfl, rfl, hsb.1, HRT.out.1.trans (H9.out.1.gr.trans (H10.out.2.trans (H11.out.2.trans hsb.2))), HRT.out.2.trans (HT9.out.trans ((tl_isF 125 _).trans (tl_isF 44 _))), fun e => (by cases e), fun _ => ⟨HXN.out, ?_⟩⟩
                      have h1 := (isF_len 125 r3).1
                      have h3 := (isF_len 44 (isF 125 r3)).1
                      have h2 := HSZ2.out
                      omega
end Go.Proofs.YtljnbbdhmlfhjaaGreatDoor
/-
  The document's Form.
-/
namespace Go.Proofs.YtljnbbdhmlfhjaaGreatDoor
open Go.RowKit
theorem z_values (S : Bs) (hS2 : S.length ≤ 1099511620000) : ∀ k, ReadsZ S (valP (k + 1)) k := by
  intro k
  induction k with
  | zero =>
    intro p w s deep most hs h hdm hd
    have hse : s = [] := List.eq_nil_of_length_eq_zero (by omega)
    subst hse
    exact z_value_core 100 (by decide) S p w [] deep most false 0 hS2 h (fun _ => hdm) (fun S' e => by cases e) (fun S' e => by cases e)
  | succ k ih =>
    intro p w s deep most hs h hdm hd
    have hsl := sp_len s
    have hv := z_value_core 100 (by decide) S p w s deep most false (k + 1) hS2 h (fun _ => hdm) (fun S' e W hW => by
      have hl := congrArg List.length e
      rw [List.length_cons] at hl
      exact z_arr S p W S' deep most k hS2 hW hdm (valP (k + 1)) (val_rdg _) ih (by omega) (by omega)) (fun S' e W hW => by
      have hl := congrArg List.length e
      rw [List.length_cons] at hl
      exact z_obj S p W S' deep most k hS2 hW hdm (valP (k + 1)) (val_rdg _) ih (by omega) (by omega))
    exact hv
theorem zs_new {w : World} {v : Value} {b : Bs} (hv : argRow w v b.length 1 (b.map bCell)) {w3 : World} (hb : Below w.heap.size w w3) : ZS b (w3.alloc (.cells #[v, .int .i64 0, .int .i64 0, .int .i64 0, .bool false] 129)) w3.heap.size b 0 0 false :=
  ⟨v, 0, by simp, rfl, heap_alloc_new w3 _, fun W hW => argRow_below hv (hb.trans ((belowAJ (Below.refl w3.heap.size w3) (Nat.le_refl _)).trans hW |>.mono hb.size))⟩
set_option maxRecDepth 100000 in
set_option maxHeartbeats 20000000 in
theorem ref_Form (v : Value) (b : Bs) (w : World) (hv : argRow w v b.length 1 (b.map bCell)) :
    Calls Tryz.prog 30 #[v] w fun e w' => e = .returned (.tuple #[.string ⟨(oneF b).toArray⟩, .int .i64 (parseE b)]) ∧ Below w.heap.size w w' := by
  obtain ⟨F, hF⟩ : ∃ F, oneF b = F := ⟨_, rfl⟩
  obtain ⟨E, hE⟩ : ∃ E, parseE b = E := ⟨_, rfl⟩
  rw [hF, hE]
  have hbad : E ≠ 0 → F = [] := fun h => by rw [← hF]; unfold oneF; rw [if_neg (by rw [hE]; exact h)]
  have HV := Lib.hid hv
  have hcv := conv_arg hv
  have HE := Lib.hid hE
  have HF := Lib.hid hF
  obtain ⟨-, a, cap, rfl, -⟩ := hv
  clear hF hE
  obtain ⟨n, hn⟩ : ∃ n, b.length = n := ⟨_, rfl⟩
  have HN := Lib.hid hn
  rw [hn] at hcv HV ⊢
  by_cases h1 : 16384 < n
  · have hE4 : E = 4 := by rw [← HE.out]; unfold parseE; rw [if_pos (by rw [hn]; exact h1)]
    subst hE4
    obtain rfl := hbad (by decide)
    have d1 : decide ((16384 : Int) < (n : Int)) = true := decide_eq_true (by omega)
    clear hn hbad
    go_enter Tryz.func30, Tryz.ntmps30
    go_wp2
    go_ret2
    exact ⟨rfl, Below.refl _ _⟩
  · have d1 : decide ((16384 : Int) < (n : Int)) = false := decide_eq_false (by omega)
    have hn2 : n ≤ 16384 := by omega
    have CR := ref_Runes ⟨b.toArray⟩ w (by show b.length ≤ _; omega)
    rw [show (⟨b.toArray⟩ : ByteArray).data.toList = b from by simp] at CR
    obtain ⟨T, hT⟩ : ∃ T : ByteArray, (⟨b.toArray⟩ : ByteArray) = T := ⟨_, rfl⟩
    rw [hT] at CR hcv
    obtain ⟨V, hV⟩ : ∃ V, Lib.validD b = V := ⟨_, rfl⟩
    rw [hV] at CR
    have HVD := Lib.hid hV
    clear hT hV hn h1
    cases V with
    | false =>
      have hE8 : E = 8 := by rw [← HE.out]; unfold parseE; rw [if_neg (by rw [HN.out]; omega), if_pos HVD.out]
      subst hE8
      obtain rfl := hbad (by decide)
      clear hbad
      go_enter Tryz.func30, Tryz.ntmps30
      go_wp2_with (go_at_call 56; refine CR.mono ?_; rintro e w2 ⟨vr, rfl, hor, hb2⟩)
      go_ret2
      exact ⟨rfl, hb2⟩
    | true =>
      have hPE : E = match docJ b with
          | none => 6
          | some j => if 16 < deepJ j then 9 else 0 := by rw [← HE.out]; exact parseE_of (by rw [HN.out]; omega) HVD.out
      have hdoc : docJ b = match valP (n + 1) b with
          | some (j, []) => some j
          | _ => none := by
        unfold docJ
        rw [HN.out]
        rfl
      have HPE := Lib.hid hPE
      have HDOC := Lib.hid hdoc
      have HVAL := Lib.hid (z_values b (by rw [HN.out]; omega) n)
      have HNEW := Lib.hid (fun w3 (hb : Below w.heap.size w w3) => zs_new (w := w) (b := b) (v := .slice a n cap) (by rw [HN.out]; exact HV.out) hb)
      have HBAD := Lib.hid hbad
      clear hPE hdoc hbad
      go_enter Tryz.func30, Tryz.ntmps30
      go_upto_region 6 with (go_at_call 56; refine CR.mono ?_; rintro e w2 ⟨vr, rfl, hor, hb2⟩)
      go_upto_region 7 with fail
      have hz := HNEW.out w2 hb2
      have hb4 : Below w.heap.size w (w2.alloc (.cells #[.slice a n cap, .int .i64 0, .int .i64 0, .int .i64 0, .bool false] 129)) := belowAJ hb2 hb2.size
      obtain ⟨p, hp⟩ : ∃ p, w2.heap.size = p := ⟨_, rfl⟩
      have hpw : w.heap.size ≤ p := by rw [← hp]; exact hb2.size
      rw [hp] at hz ⊢
      generalize w2.alloc (.cells #[.slice a n cap, .int .i64 0, .int .i64 0, .int .i64 0, .bool false] 129) = w4 at *
      have CV := HVAL.out p w4 b 0 0 (by rw [HN.out]; omega) hz (by omega) (by rw [HN.out]; omega)
      have hlt := hz.lt
      have HB4 := Lib.hid hb4
      clear hz hor hb2 hb4 hcv CR hp
      cases hvp : valP (n + 1) b with
      | none =>
        have hE6 : E = 6 := by rw [HPE.out, HDOC.out, hvp]
        rw [hvp] at CV
        subst hE6
        obtain rfl := HBAD.out (by decide)
        clear hvp
        go_upto_region 8 with (go_at_call 66; refine CV.mono ?_; rintro e w5 ⟨T5, r5, b5, m5, rfl, hv5⟩; have hb5 : b5 = true := hv5.res.1; subst hb5; have H5 := Lib.hid hv5; clear hv5)
        obtain ⟨⟨c4, -, c3⟩, -⟩ := H5.out.st.flag
        clear CV
        go_wp2
        go_ret2
        exact ⟨rfl, HB4.out.trans ((grown_low H5.out.gr (by omega)).mono hpw)⟩
      | some y =>
        obtain ⟨j, r⟩ := y
        rw [hvp] at CV
        obtain ⟨T5, hT5⟩ : ∃ T5 : ByteArray, (⟨(formJ j).toArray⟩ : ByteArray) = T5 := ⟨_, rfl⟩
        have CV' : Calls Tryz.prog 66 #[.pointer (some ⟨p, 0, none⟩)] w4 fun e w' => e = .returned (.string T5) ∧ ZS b w' p r 0 (deepJ j) false ∧ w4.grownBy w' (some p) := by
          refine CV.mono ?_
          rintro e w' ⟨T, r', b', m', rfl, hvm⟩
          obtain ⟨rfl, rfl, rfl, hm⟩ := hvm.res
          have hm' : m' = deepJ j := by omega
          exact ⟨by rw [hT5], hm' ▸ hvm.st, hvm.gr⟩
        have HT5 := Lib.hid hT5
        clear CV hT5
        go_upto_region 8 with (go_at_call 66; refine CV'.mono ?_; rintro e w5 ⟨rfl, hz5, hg5⟩; have H5 := Lib.hid (And.intro hz5 hg5); clear hz5 hg5)
        obtain ⟨⟨c4, -, c3⟩, -⟩ := H5.out.1.flag
        obtain ⟨aa5, c5, i5, ⟨-, c1⟩, hi5, -, -⟩ := H5.out.1.place
        have HB5 := Lib.hid (HB4.out.trans ((grown_low H5.out.2 (by omega)).mono hpw))
        rw [HN.out] at hi5
        clear CV' hlt
        cases r with
        | cons c r =>
          have hE6 : E = 6 := by rw [HPE.out, HDOC.out, hvp]
          subst hE6
          obtain rfl := HBAD.out (by decide)
          rw [List.length_cons] at hi5
          have d3 : ((i5 : Int) != (n : Int)) = true := by simp; omega
          have d4 : (i5 != n) = true := by simp; omega
          clear hvp hi5
          go_wp2
          go_ret2
          exact ⟨rfl, HB5.out⟩
        | nil =>
          rw [List.length_nil, Nat.add_zero] at hi5
          subst hi5
          have hdj : docJ b = some j := by rw [HDOC.out, hvp]
          have HDJ := Lib.hid hdj
          clear hvp hdj
          have d3 : ((i5 : Int) != (i5 : Int)) = false := by simp
          by_cases hdp : 16 < deepJ j
          · have d5 : decide ((16 : Int) < (deepJ j : Int)) = true := decide_eq_true (by omega)
            have hE9 : E = 9 := by rw [HPE.out, HDJ.out]; exact if_pos hdp
            subst hE9
            obtain rfl := HBAD.out (by decide)
            go_wp2
            go_ret2
            exact ⟨rfl, HB5.out⟩
          · have d5 : decide ((16 : Int) < (deepJ j : Int)) = false := decide_eq_false (by omega)
            have hE0 : E = 0 := by rw [HPE.out, HDJ.out]; exact if_neg hdp
            have hF : F = formJ j := by
              rw [← HF.out]
              unfold oneF
              rw [HE.out, hE0, if_pos rfl, parseJ_of (by rw [HN.out]; omega) HVD.out HDJ.out hdp]
            subst hE0
            have HFF := Lib.hid hF
            clear hF
            go_wp2
            go_ret2
            exact ⟨by rw [HFF.out, HT5.out]; rfl, HB5.out⟩
end Go.Proofs.YtljnbbdhmlfhjaaGreatDoor
