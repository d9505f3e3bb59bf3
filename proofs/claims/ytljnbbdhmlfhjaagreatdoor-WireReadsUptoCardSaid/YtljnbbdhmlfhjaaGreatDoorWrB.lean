/-
  The law WireReads: its walk, whole.
-/
import Derived.Test.YtljnbbdhmlfhjaaGreatDoorWrA
namespace Go.Proofs.YtljnbbdhmlfhjaaGreatDoor
open Go.RowKit
set_option maxRecDepth 100000 in
set_option maxHeartbeats 80000000 in
theorem reads_walk23 (sv : Value) (Z : List RecL) (w : World) (hT : T23 w) (hZ : RRow w sv Z) (hin : ∀ z ∈ Z, inRec z.1) (hbk : (Z.map fun z => sumL z.1.labs + z.1.line.size + 1).sum ≤ 1048576) :
    Calls Tryz.prog 5 #[sv] w fun e w' => e = .returned (.bool true) ∧ Below w.heap.size w w' := by
  have CA := law23_awake w hT
  obtain ⟨l, hl⟩ : ∃ l, Z.map Prod.fst = l := ⟨_, rfl⟩
  have hbulk : bulkR l ≤ 107 * 1048576 := bulk_of l (by rw [← hl, List.map_map]; exact hbk)
  have hform : (formJ (underJ kRecords (l.map recJ))).length ≤ 200000000 := by
    have h1 := under_form kRecords (l.map recJ)
    have h2 := recs_form l (fun r hr => by
      rw [← hl] at hr
      obtain ⟨z, hz, rfl⟩ := List.mem_map.1 hr
      exact ⟨⟨(hin z hz).1, (hin z hz).2.1⟩, (hin z hz).2.2.1⟩)
    have h3 : kRecords.length = 7 := rfl
    unfold bulkR at hbulk
    omega
  have hlin : ∀ r ∈ l, inRec r ∧ sizeR r ≤ 1048576 := fun r hr => by
    rw [← hl] at hr
    obtain ⟨z, hz, rfl⟩ := List.mem_map.1 hr
    refine ⟨hin z hz, ?_⟩
    have h1 := sum_mem (fun z : RecL => sumL z.1.labs + z.1.line.size + 1) hz
    have h2 := size_sumL z.1
    try simp only at h1
    omega
  have hlab : ∀ r ∈ l, r.labs.length ≤ 1048576 := fun r hr => by
    have h1 := (hlin r hr).2
    have h2 := sum_len r.labs
    unfold sizeR at h1
    omega
  have hone : ∀ r ∈ l, (formJ (recJ r)).length ≤ 10000000 := fun r hr => by
    have h1 := rec_form r ⟨(hlin r hr).1.1, (hlin r hr).1.2.1⟩ (hlin r hr).1.2.2.1
    have h2 := (hlin r hr).2
    omega
  have hlen : l.length ≤ 1048576 := by
    have h1 := sum_one (fun z : RecL => sumL z.1.labs + z.1.line.size) Z
    rw [← hl, List.length_map]
    omega
  have CR := Lib.hid (fun (W : World) (hW : Below w.heap.size w W) => wire_Records sv Z W (hT.to hW) (hZ.below hW) hin (by rw [hl]; omega))
  rw [hl] at CR
  have HZ := Lib.hid (fun (W : World) (hW : Below w.heap.size w W) => hZ.below hW)
  have HL := Lib.hid hl
  have HT := Lib.hid (fun (W : World) (hW : Below w.heap.size w W) => hT.to hW)
  have hokE := okW_recs l
  have hsv := tail_len hZ hl
  obtain ⟨sa, sc, rfl, -, -⟩ := hsv
  obtain ⟨n, hn⟩ : ∃ n, l.length = n := ⟨_, rfl⟩
  have HN := Lib.hid hn
  rw [hn] at CR HZ hlen ⊢
  clear hT hZ hin hbk hl hbulk hn
  cases hall : l.all validR with
  | false =>
    rw [hall] at hokE
    have CR2 := Lib.hid (show ∀ (W : World), Below w.heap.size w W → Calls Tryz.prog 14 #[.slice sa n sc] W fun e w' => e = .returned (.tuple #[.slice none 0 0, .int .i64 1]) ∧ Below W.heap.size W w' from fun W hW => by
      refine (CR.out W hW).mono ?_
      rintro e w' ⟨a, m, c, E, h1, h2, h3⟩
      unfold WOut at h2
      rw [if_neg (by rw [hokE]; exact Bool.false_ne_true)] at h2
      obtain ⟨rfl, h2⟩ := h2
      rw [h2] at h1
      exact ⟨h1, h3⟩)
    clear CR hokE hall
    go_enter Tryz.func5, Tryz.ntmps5
    go_upto_region 3 with (go_at_call 8; refine CA.mono ?_; rintro e w1 ⟨rfl, hb1⟩)
    have CR3 := CR2.out w1 hb1
    go_wp2_with (go_at_call 14; refine CR3.mono ?_; rintro e w2 ⟨rfl, hb2⟩)
    go_ret
    exact ⟨rfl, hb1.trans (hb2.mono hb1.size)⟩
  | true =>
    rw [hall] at hokE
    obtain ⟨J0, hJ0⟩ : ∃ J0, underJ kRecords (l.map recJ) = J0 := ⟨_, rfl⟩
    obtain ⟨F, hF⟩ : ∃ F, formJ (underJ kRecords (l.map recJ)) = F := ⟨_, rfl⟩
    obtain ⟨fl, hfl⟩ : ∃ fl, F.length = fl := ⟨_, rfl⟩
    have HF := Lib.hid (And.intro hF hfl)
    have CR2 := Lib.hid (show ∀ (W : World), Below w.heap.size w W → Calls Tryz.prog 14 #[.slice sa n sc] W fun e w' => ∃ a c, e = .returned (.tuple #[.slice a fl c, .int .i64 0]) ∧ argRow w' (.slice a fl c) F.length 1 (F.map bCell) ∧ Below W.heap.size W w' from fun W hW => by
      refine (CR.out W hW).mono ?_
      rintro e w' ⟨a, m, c, E, h1, h2, h3⟩
      unfold WOut at h2
      rw [if_pos hokE] at h2
      obtain ⟨rfl, h2⟩ := h2
      rw [hF] at h2
      have h2' := h2
      obtain ⟨_, a', c', e', -⟩ := h2
      cases e'
      rw [hfl] at h1
      refine ⟨a, c, h1, ?_, h3⟩
      rw [← hfl]
      exact h2')
    have hokL := okL_recs l hall
    have hok0 : okJ (underJ kRecords (l.map recJ)) := ⟨⟨by decide, hokL⟩, trivial⟩
    have hpar := parse_form hok0
    have hdp := deep_recs l
    rw [hF] at hpar
    have HPAR := Lib.hid (fun (h : fl ≤ 16384) => (hpar (by omega)).1 (by omega))
    have HV := Lib.hid (fun (r : Rec) (hr : r ∈ l) => (show okW 0 (recJ r) = true from by
      rw [okW_recJ r (by omega)]
      exact List.all_eq_true.1 hall r hr))
    have hflb : fl ≤ 200000000 := by rw [← hfl, ← hF]; exact hform
    clear CR hokE hall hokL hok0 hpar hdp hF hfl hform hJ0
    go_enter Tryz.func5, Tryz.ntmps5
    go_upto_region 3 with (go_at_call 8; refine CA.mono ?_; rintro e w1 ⟨rfl, hb1⟩)
    have CR3 := CR2.out w1 hb1
    clear CR2 CA
    by_cases hbig : 16384 < fl
    · have d1 : decide ((16384 : Int) < (fl : Int)) = true := decide_eq_true (by omega)
      go_wp2_with (go_at_call 14; refine CR3.mono ?_; rintro e w2 ⟨a2, c2, rfl, hr2, hb2⟩)
      go_ret
      exact ⟨rfl, hb1.trans (hb2.mono hb1.size)⟩
    · have d1 : decide ((16384 : Int) < (fl : Int)) = false := decide_eq_false (by omega)
      obtain ⟨pe, pj, -⟩ := HPAR.out (by omega)
      go_upto_region 8 with (go_at_call 14; refine CR3.mono ?_; rintro e w2 ⟨a2, c2, rfl, hr2, hb2⟩)
      have h2 := hb1.trans (hb2.mono hb1.size)
      have CP : Calls Tryz.prog 15 #[.slice a2 fl c2] w2 fun e w' => ∃ u, e = .returned (.tuple #[u, .int .i64 0]) ∧ RepJ w' (Nw w2.heap.size w') (underJ kRecords (l.map recJ)) u ∧ Below w2.heap.size w2 w' := by
        refine (js_Parse _ F w2 (HT.out w2 h2).tabs hr2).mono ?_
        rintro e w' ⟨u, h1, h2, h3⟩
        rw [pe] at h1
        rw [pj] at h2
        exact ⟨u, h1, h2, h3⟩
      clear CR3 hr2 HPAR pe pj hbig
      go_upto_region 9 with (go_at_call 15; refine CP.mono ?_; rintro e w3 ⟨u3, rfl, hr3, hb3⟩)
      have h3 := h2.trans (hb3.mono h2.size)
      have CG := get_opt kRecords (underJ kRecords (l.map recJ)) _ u3 w3 hr3 (fun k hk => hk.2) (by rw [HF.out.1, HF.out.2]; omega)
      have hgk : getJ kRecords (underJ kRecords (l.map recJ)) = some (.arr (l.map recJ)) := by simp [getJ, underJ, findM]
      rw [hgk] at CG
      clear CP hgk hr3
      go_upto_region 10 with (go_at_call 16; refine CG.mono ?_; rintro e w4 ⟨u4, rfl, hr4, hb4⟩)
      have h4 := h3.trans (hb4.mono h3.size)
      have hfa : (formJ (.arr (l.map recJ))).length ≤ 1000000000 := by
        have h0 := HF.out
        have h1 : (formJ (underJ kRecords (l.map recJ))).length = fl := by rw [h0.1, h0.2]
        have h2 : (formJ (.arr (l.map recJ))).length ≤ (formJ (underJ kRecords (l.map recJ))).length := get_small (nm := kRecords) (by simp [getJ, underJ, findM])
        omega
      have CI := js_Items (.arr (l.map recJ)) _ u4 w4 (show RepJ w4 (Nw w2.heap.size w3) (.arr (l.map recJ)) u4 from hr4) (fun k hk => Nat.lt_of_lt_of_le hk.2 hb4.size) (by omega)
      have CI2 : Calls Tryz.prog 17 #[u4] w4 fun e w' => ∃ ia ic vs, e = .returned (.tuple #[.slice ia n ic, .bool true]) ∧ argRow w' (.slice ia n ic) n 1 vs ∧ RepL w' (Nw w2.heap.size w3) (l.map recJ) vs ∧ Below w4.heap.size w4 w' := by
        refine CI.mono ?_
        rintro e w' ⟨v, vs, h1, h2, h3, h4⟩
        have e0 : (itemsJ (.arr (l.map recJ))).1.length = n := by show (l.map recJ).length = n; rw [List.length_map, HN.out]
        rw [e0] at h2
        have h2' := argRow_owns h2
        have h5 := h2'
        obtain ⟨_, a, c, rfl, -⟩ := h2'
        exact ⟨a, c, vs, h1, h5, h3, h4⟩
      clear CG CI hr4 hfa
      go_upto_region 11 with (go_at_call 17; refine CI2.mono ?_; rintro e w5 ⟨ia, ic, vs, rfl, hr5, hl5, hb5⟩; have H5 := Lib.hid (And.intro hr5 hl5); clear hr5 hl5)
      have h5 := h4.trans (hb5.mono h4.size)
      have hS : ∀ k, Nw w2.heap.size w3 k → k < w5.heap.size := fun k hk => Nat.lt_of_lt_of_le hk.2 (Nat.le_trans hb4.size hb5.size)
      have HS := Lib.hid hS
      have HITEM := Lib.hid (fun (W : World) (hW : Below w5.heap.size w5 W) => argRow_below H5.out.1 hW)
      have HREP := Lib.hid (fun (W : World) (hW : Below w5.heap.size w5 W) => H5.out.2.low hS hW)
      have HVL := Lib.hid (repL_len H5.out.2)
      have H05 := Lib.hid h5
      have HZ5 := Lib.hid (fun (W : World) (hW : Below w5.heap.size w5 W) => HZ.out W (h5.trans (hW.mono h5.size)))
      have HT5 := Lib.hid (fun (W : World) (hW : Below w5.heap.size w5 W) => HT.out W (h5.trans (hW.mono h5.size)))
      have e2 : ((n : Int) != (n : Int)) = false := by simp
      clear CI2 hS H5 HZ HT hb1 hb2 hb3 hb4 hb5 h2 h3 h4 h5
      go_wp2
      go_loopw [10] (fun iv wr => ∃ k : Nat, iv = .int .i64 k ∧ k ≤ n ∧ Below w5.heap.size w5 wr) (fun iv _ => n - (intOf iv).toNat)
      case atStart => exact ⟨0, rfl, by omega, Below.refl _ _⟩
      case round =>
        obtain ⟨k, rfl, hk, hb⟩ := hrel
        by_cases hkl : k < n
        · have d3 : decide ((k : Int) < (n : Int)) = true := decide_eq_true (by omega)
          have hkR : k < l.length := by rw [HN.out]; exact hkl
          have hkv : k < vs.length := by rw [HVL.out, List.length_map]; exact hkR
          have hkm : k < (l.map recJ).length := by rw [List.length_map]; exact hkR
          obtain ⟨hrl, ra, rc, re, hrc1, hrc2, hrc3⟩ := HITEM.out wr hb
          cases re
          obtain ⟨ib, ioff, rfl, hib, hics⟩ := hrc3 (by omega)
          have hci := hics k hkv
          have hrep := repL_at (HREP.out wr hb) hkm hkv
          rw [List.getElem_map] at hrep
          have HZK := Lib.hid (fun (W : World) (hW : Below w5.heap.size w5 W) => rec_at (HZ5.out W hW) HL.out hkR)
          obtain ⟨r, hr⟩ : ∃ r, l[k] = r := ⟨_, rfl⟩
          have hrm : r ∈ l := by rw [← hr]; exact List.getElem_mem hkR
          rw [hr] at hrep HZK
          obtain ⟨u, hu⟩ : ∃ u, vs[k] = u := ⟨_, rfl⟩
          rw [hu] at hci hrep
          have HRU := Lib.hid hrep
          obtain ⟨usv, uvs, rfl, -⟩ := hrep
          have HW := Lib.hid (fun (W : World) (hW : Below wr.heap.size wr W) => hb.trans (hW.mono hb.size))
          have HCI := Lib.hid (fun (W : World) (hW : Below wr.heap.size wr W) => (show W.cell? ⟨ib, ioff + k, none⟩ = some (.iface 79 usv) from by rw [hW.cell (p := ⟨ib, ioff + k, none⟩) hib]; exact hci))
          have HRW := Lib.hid (fun (W : World) (hW : Below wr.heap.size wr W) => HRU.out.low (fun i hi => Nat.lt_of_lt_of_le (HS.out i hi) hb.size) hW)
          have HSW := Lib.hid (fun (W : World) (hW : Below wr.heap.size wr W) => (show ∀ i, Nw w2.heap.size w3 i → i < W.heap.size from fun i hi => Nat.lt_of_lt_of_le (HS.out i hi) (HW.out W hW).size))
          have hri := hlin r hrm
          have hrf := hone r hrm
          have hrl := hlab r hrm
          obtain ⟨IT, hIT⟩ : ∃ IT : ByteArray, (⟨(Lib.itoa r.time).toArray⟩ : ByteArray) = IT := ⟨_, rfl⟩
          have C1 := Lib.hid (show ∀ (W : World), Below wr.heap.size wr W → Calls Tryz.prog 16 #[.iface 79 usv, .string ⟨#[116, 105, 109, 101]⟩] W fun e w' => e = .returned (.tuple #[.iface 95 (.string IT), .bool true]) ∧ Below W.heap.size W w' from fun W hW => by
            refine (get_opt kTime (recJ r) _ _ W (HRW.out W hW) (HSW.out W hW) (by omega)).mono ?_
            rintro e w' ⟨v, h1, h2, h3⟩
            rw [get_time] at h1 h2
            have hv : v = .iface 95 (.string ⟨(Lib.itoa r.time).toArray⟩) := h2
            rw [hIT] at hv
            exact ⟨by rw [h1, hv]; rfl, h3⟩)
          have C2 := Lib.hid (show ∀ (W : World), Below wr.heap.size wr W → Calls Tryz.prog 16 #[.iface 79 usv, .string ⟨#[108, 105, 110, 101]⟩] W fun e w' => e = .returned (.tuple #[.iface 9 (.string r.line), .bool true]) ∧ Below W.heap.size W w' from fun W hW => by
            refine (get_opt kLine (recJ r) _ _ W (HRW.out W hW) (HSW.out W hW) (by omega)).mono ?_
            rintro e w' ⟨v, h1, h2, h3⟩
            rw [get_line] at h1 h2
            have hv : v = .iface 9 (.string ⟨(bsOf r.line).toArray⟩) := h2
            rw [str_of] at hv
            exact ⟨by rw [h1, hv]; rfl, h3⟩)
          have C3 := Lib.hid (show ∀ (W : World), Below wr.heap.size wr W → Calls Tryz.prog 16 #[.iface 79 usv, .string ⟨#[108, 97, 98, 101, 108, 115]⟩] W fun e w' => ∃ lsv, e = .returned (.tuple #[.iface 79 lsv, .bool true]) ∧ RepJ w' (Nw w2.heap.size w3) (.obj (r.labs.map memOf)) (.iface 79 lsv) ∧ Below W.heap.size W w' from fun W hW => by
            refine (get_opt kLabels (recJ r) _ _ W (HRW.out W hW) (HSW.out W hW) (by omega)).mono ?_
            rintro e w' ⟨v, h1, h2, h3⟩
            rw [get_labels] at h1 h2
            have h2' : RepJ w' (Nw w2.heap.size w3) (.obj (r.labs.map memOf)) v := h2
            have h4 := h2'
            obtain ⟨lsv, lvs, rfl, -⟩ := h2'
            exact ⟨lsv, h1, h4, h3⟩)
          have hlf : (formJ (.obj (r.labs.map memOf))).length ≤ 1099511627776 := by
            have := get_small (get_labels r)
            omega
          have C4 := Lib.hid (show ∀ (W : World) (lsv : Value), Below wr.heap.size wr W → RepJ W (Nw w2.heap.size w3) (.obj (r.labs.map memOf)) (.iface 79 lsv) → Calls Tryz.prog 18 #[.iface 79 lsv] W fun e w' => ∃ na nc, e = .returned (.tuple #[.slice na r.labs.length nc, .bool true]) ∧ argRow w' (.slice na r.labs.length nc) (r.labs.map fun x => bsOf x.1).length 1 ((r.labs.map fun x => bsOf x.1).map strV) ∧ Below W.heap.size W w' from fun W lsv hW hrep => by
            refine (js_Names (.obj (r.labs.map memOf)) _ _ W hrep (HSW.out W hW) hlf).mono ?_
            rintro e w' ⟨v, h1, h2, h3⟩
            rw [names_recJ] at h1 h2
            have h2' := argRow_owns h2
            have h4 := h2'
            obtain ⟨_, a, c, rfl, -⟩ := h2'
            simp only [List.length_map] at h1 h4 ⊢
            exact ⟨a, c, h1, h4, h3⟩)
          have C5 := Lib.hid (show ∀ (W : World), Below wr.heap.size wr W → Calls Tryz.prog 19 #[.iface 95 (.string IT)] W fun e w' => e = .returned (.tuple #[.int .i64 r.time, .bool true]) ∧ Below W.heap.size W w' from fun W hW => by
            have hnl := Lib.itoa_length_le r.time hri.1.1 hri.1.2.1
            have h := js_Int (.num (Lib.itoa r.time)) (fun _ => False) (.iface 95 (.string IT)) W (by rw [← hIT]; rfl) (HT5.out W (HW.out W hW)).errs (by show (Lib.itoa r.time).length ≤ _; omega)
            rw [int_itoa r.time hri.1.1 hri.1.2.1] at h
            exact h)
          have C6 := Lib.hid (show ∀ (W : World), Calls Tryz.prog 20 #[.iface 9 (.string r.line)] W fun e w' => e = .returned (.tuple #[.string r.line, .bool true]) ∧ w' = W from fun W => by
            have h := js_Text (.str (bsOf r.line)) (fun _ => False) (.iface 9 (.string r.line)) W (by rw [← str_of]; rfl)
            have e0 : (.string ⟨(textJ (.str (bsOf r.line))).1.toArray⟩ : Value) = .string r.line := str_of r.line
            rw [e0] at h
            exact h)
          obtain ⟨X, hX⟩ : ∃ X : ByteArray, (⟨(formJ (recJ r)).toArray⟩ : ByteArray) = X := ⟨_, rfl⟩
          obtain ⟨xl, hxl⟩ : ∃ xl, (formJ (recJ r)).length = xl := ⟨_, rfl⟩
          have conv : ∀ (W : World) (v : Value), WOut W v 0 (recJ r) → (convert 22 9 v).run Tryz.prog W = .ok (.string X) W := fun W v h => by
            have h1 := conv_wout h
            rw [if_pos (HV.out r hrm), hX] at h1
            exact h1
          have wz : ∀ (W : World) (v : Value) (E : Int), WOut W v E (recJ r) → E = 0 := fun W v E h => by
            unfold WOut at h
            rw [if_pos (HV.out r hrm)] at h
            exact h.1
          have C7 := Lib.hid (show ∀ (W : World) (lv : Value), Below wr.heap.size wr W → LRow W lv r.labs → Calls Tryz.prog 21 #[recV r lv] W fun e w' => ∃ a m c, e = .returned (.tuple #[.slice a m c, .int .i64 0]) ∧ WOut w' (.slice a m c) 0 (recJ r) ∧ Below W.heap.size W w' from fun W lv hW hL => by
            refine (wire_One r lv W (HT5.out W (HW.out W hW)) hL ⟨hri.1.1, hri.1.2.1⟩ hri.1.2.2.1 hrl (by omega)).mono ?_
            rintro e w' ⟨a, m, c, E, h1, h2, h3⟩
            obtain rfl := wz _ _ _ h2
            exact ⟨a, m, c, h1, h2, h3⟩)
          have C8 := Lib.hid (show ∀ (W : World), Below wr.heap.size wr W → Calls Tryz.prog 22 #[.iface 79 usv] W fun e w' => ∃ a m c, e = .returned (.tuple #[.slice a m c, .int .i64 0]) ∧ WOut w' (.slice a m c) 0 (recJ r) ∧ Below W.heap.size W w' from fun W hW => by
            refine (write_out (recJ r) (nums_recJ r) _ _ W (HT5.out W (HW.out W hW)).tabs (HRW.out W hW) (HSW.out W hW) (by omega)).mono ?_
            rintro e w' ⟨a, m, c, E, h1, h2, h3⟩
            obtain rfl := wz _ _ _ h2
            exact ⟨a, m, c, h1, h2, h3⟩)
          have CONV := Lib.hid conv
          have hz0 := HZK.out wr hb
          obtain ⟨zb, zoff, -, -, rfl, hzb, -, -, -, -, -⟩ := hz0
          have HZW := Lib.hid (fun (W : World) (hW : Below wr.heap.size wr W) => HZK.out W (HW.out W hW))
          have HK := Lib.hid hkl
          have HHB := Lib.hid hb
          have HRR := Lib.hid hrl
          have c1 := HCI.out wr (Below.refl _ _)
          have G1 := C1.out wr (Below.refl _ _)
          clear hrm hr hu hci hrc1 hrc2 hics hri hrf hlf conv wz hX hxl hIT HREP HITEM HRU hkm hkv HVL HZ5 HZK hb hrl HRW HSW C1
          go_upto_region 17 with (go_at_call 16; refine G1.mono ?_; rintro e w6 ⟨rfl, hb6⟩)
          have c2 := HCI.out w6 hb6
          have G2 := C2.out w6 hb6
          clear G1 C2 c1
          go_upto_region 18 with (go_at_call 16; refine G2.mono ?_; rintro e w7 ⟨rfl, hb7'⟩)
          have hb7 := hb6.trans (hb7'.mono hb6.size)
          have c3 := HCI.out w7 hb7
          have G3 := C3.out w7 hb7
          clear G2 C3 c2 hb6 hb7'
          go_upto_region 19 with (go_at_call 16; refine G3.mono ?_; rintro e w8 ⟨lsv, rfl, hr8, hb8'⟩)
          have hb8 := hb7.trans (hb8'.mono hb7.size)
          have G4 := C4.out w8 lsv hb8 hr8
          clear G3 C4 c3 hb7 hb8' hr8
          go_upto_region 20 with (go_at_call 18; refine G4.mono ?_; rintro e w9 ⟨na, nc, rfl, hr9, hb9'⟩; have HN9 := Lib.hid hr9; clear hr9)
          have hb9 := hb8.trans (hb9'.mono hb8.size)
          have G5 := C5.out w9 hb9
          clear G4 C5 hb8 hb9'
          go_upto_region 21 with (go_at_call 19; refine G5.mono ?_; rintro e w10 ⟨rfl, hb10'⟩)
          have hb10 := hb9.trans (hb10'.mono hb9.size)
          have G6 := C6.out w10
          clear G5 C6
          go_upto_region 22 with (go_at_call 20; refine G6.mono ?_; rintro e w11 ⟨rfl, rfl⟩)
          obtain ⟨zb', zoff', la, lc, ze, -, z0, z1, z2, z3, hzL⟩ := HZW.out w11 hb10
          cases ze
          have G7 := C7.out w11 _ hb10 hzL
          unfold recV at G7
          clear G6 C7 hb9 hzL
          go_upto_region 23 with (go_at_call 21; refine G7.mono ?_; rintro e w12 ⟨x1, y1, t1, rfl, ho1, hb12'⟩; have HO1 := Lib.hid ho1; clear ho1)
          have hb12 := hb10.trans (hb12'.mono hb10.size)
          have c4 := HCI.out w12 hb12
          have G8 := C8.out w12 hb12
          clear G7 C8 z0 z1 z2 z3
          go_upto_region 24 with (go_at_call 22; refine G8.mono ?_; rintro e w13 ⟨x2, y2, t2, rfl, ho2, hb13'⟩; have HO2 := Lib.hid ho2; clear ho2)
          have hb13 := hb12.trans (hb13'.mono hb12.size)
          have HN13 := Lib.hid (argRow_below HN9.out (hb10'.trans ((hb12'.trans (hb13'.mono hb12'.size)).mono hb10'.size)))
          have cv1 := CONV.out _ _ (HO1.out.below hb13')
          have cv2 := CONV.out _ _ HO2.out
          obtain ⟨zb', zoff', la', lc', ze, -, z0, z1, z2, z3, hzL⟩ := HZW.out w13 hb13
          cases ze
          have f1 : (r.time != r.time) = false := by simp
          have f2 : (r.line.toList == r.line.toList) = true := by simp
          have f3 : ((r.labs.length : Int) != (r.labs.length : Int)) = false := by simp
          have f4 : (X.toList == X.toList) = true := by simp
          have HZL := Lib.hid hzL
          have HB13 := Lib.hid hb13
          clear G8 c4 hb10' hb12' hb13' hb10 hb12 hzL z1
          obtain ⟨N, hN⟩ : ∃ N, r.labs = N := ⟨_, rfl⟩
          obtain ⟨nl, hnl⟩ : ∃ nl, N.length = nl := ⟨_, rfl⟩
          rw [hN] at HZL HN13 HRR z2 f3 ⊢
          rw [hnl] at HZL HN13 HRR z2 f3 ⊢
          have HNL := Lib.hid hnl
          have hnb := HRR.out
          clear hN hnl
          go_upto_region 26 with fail
          obtain ⟨tt, htt⟩ : ∃ tt, r.time = tt := ⟨_, rfl⟩
          rw [htt] at z0
          clear htt f1 f2 f3 f4 cv1 cv2 z0 z3
          go_wp2
          go_loopw [27] (fun iv wq => ∃ i q : Nat, iv = .int .i64 i ∧ i ≤ nl ∧ wq = w13.drewN q) (fun iv _ => nl - (intOf iv).toNat)
          case atStart => exact ⟨0, 0, rfl, by omega, rfl⟩
          case round =>
            obtain ⟨i, q, rfl, hi, rfl⟩ := hrel
            have hbq : Below w13.heap.size w13 (w13.drewN q) := ⟨rfl, rfl, rfl, Nat.le_refl _, fun i hi => rfl⟩
            by_cases hil : i < nl
            · have d4 : decide ((i : Int) < (nl : Int)) = true := decide_eq_true (by omega)
              have hiN : i < N.length := by rw [HNL.out]; exact hil
              obtain ⟨nb, noff, rfl, hnbl, hnc⟩ := text_at HN13.out (k := i) (by simpa using hiN)
              obtain ⟨lb, loff, rfl, hlbl, l0, l1⟩ := HZL.out.at hiN
              have e0 : toB ((N.map fun x => bsOf x.1)[i]'(by simpa using hiN)) = N[i].1 := by rw [List.getElem_map]; exact toB_of _
              rw [e0] at hnc
              obtain ⟨x, hx⟩ : ∃ x, N[i].1 = x := ⟨_, rfl⟩
              rw [hx] at hnc l0
              have fx : (x.toList == x.toList) = true := by simp
              have i1 : (0 : Int) ≤ (i : Int) := by omega
              have i2 : (i : Int) < (nl : Int) := by omega
              have i3 : (0 : Int) ≤ (k : Int) := by omega
              have i4 : (k : Int) < (n : Int) := by omega
              clear e0 hx l1 hiN
              go_wp2_with fail
              go_quiet (fail)
              go_wp2
              go_roundw
              case rel => exact ⟨i + 1, _, by go_num, by omega, rfl⟩
              case measure => simp [intOf]; omega
            · have d4 : decide ((i : Int) < (nl : Int)) = false := decide_eq_false (by omega)
              have HKQ := Lib.hid (HHB.out.trans ((HB13.out.trans (hbq.mono HB13.out.size)).mono HHB.out.size))
              go_wp2
              go_roundw
              case rel => exact ⟨k + 1, by go_num, HK.out, HKQ.out⟩
              case measure => have := HK.out; simp [intOf]; omega
        · have d3 : decide ((k : Int) < (n : Int)) = false := decide_eq_false (by omega)
          go_wp2
          go_ret
          exact ⟨rfl, H05.out.trans (hb.mono H05.out.size)⟩
end Go.Proofs.YtljnbbdhmlfhjaaGreatDoor
