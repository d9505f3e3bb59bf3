/-
  The contracts of reply.line and reply.end.
-/
import Derived.Test.YtknoimflimhcgaaDoorRepB
namespace Go.Proofs.YtknoimflimhcgaaDoor
open Go.RowKit

def LineEnd (r : Option (Option (Nat × Nat))) (from' : Nat) (e : Ending) : Prop := match r with
  | none => e = .returned (.tuple #[.int .i64 0, .int .i64 0, .bool false])
  | some none => e = .returned (.tuple #[.int .i64 0, .int .i64 (-1), .bool true])
  | some (some (n, k)) => e = .returned (.tuple #[.int .i64 (n : Int), .int .i64 ((from' : Int) + (k : Int)), .bool true])
/-- Where the reading of a line stands. -/
def LineAt (D : Byt) (LP : Option (Option (Nat × Nat))) (j : Nat) : Prop :=
  (∀ c ∈ D.take j, isHex c = true) ∧ (j = 0 → LP = lineP D) ∧ (0 < j → LP = digP j (hexV (D.getD 0 0) == 0) (hexN (D.take j)) (D.drop j))
theorem lineAt_no {D : Byt} {LP : Option (Option (Nat × Nat))} {j : Nat} (h : LineAt D LP j) (hj : j < D.length) (h13 : D[j] ≠ 13) (hbad : ¬ (isHex D[j] = true ∧ j < 8 ∧ (0 < j → (hexV (D.getD 0 0) == 0) = false))) : LP = none := by
  rcases Nat.eq_zero_or_pos j with rfl | h0
  · rw [h.2.1 rfl]
    have hx : ¬ isHex D[0] = true := fun hx => hbad ⟨hx, by omega, fun h => by omega⟩
    cases D with
    | nil => cases hj
    | cons c t => simp only [lineP]; exact if_neg hx
  · rw [h.2.2 h0, List.drop_eq_getElem_cons hj]
    simp only [digP, if_neg h13]
    exact if_neg (fun hh => hbad ⟨hh.1, hh.2.1, fun _ => hh.2.2⟩)
theorem lineAt_next {D : Byt} {LP : Option (Option (Nat × Nat))} {j : Nat} (h : LineAt D LP j) (hj : j < D.length) (hx : isHex D[j] = true) (h8 : j < 8) (hz : 0 < j → (hexV (D.getD 0 0) == 0) = false) : LineAt D LP (j + 1) := by
  have htk : D.take (j + 1) = D.take j ++ [D[j]] := List.take_succ_eq_append_getElem hj
  refine ⟨fun c hc => ?_, fun h => by omega, fun _ => ?_⟩
  · rw [htk] at hc
    rcases List.mem_append.1 hc with h1 | h1
    · exact h.1 c h1
    · simp at h1; rw [h1]; exact hx
  · rcases Nat.eq_zero_or_pos j with rfl | h0
    · rw [h.2.1 rfl]
      cases D with
      | nil => cases hj
      | cons c t =>
        simp only [List.getElem_cons_zero] at hx
        simp only [lineP, hx, if_true, List.getD_cons_zero, List.take_succ_cons, List.take_zero, List.drop_succ_cons, List.drop_zero]
        simp [hexN]
    · rw [h.2.2 h0, List.drop_eq_getElem_cons hj]
      simp only [digP, if_neg (isHex_not13 hx)]
      rw [if_pos ⟨hx, h8, hz h0⟩, htk, hexN_snoc]
theorem lineAt_end {D : Byt} {LP : Option (Option (Nat × Nat))} {j : Nat} (h : LineAt D LP j) (h0 : 0 < j) (hj : D.length ≤ j) : LP = some none := by
  rw [h.2.2 h0, List.drop_of_length_le hj]; rfl
theorem lineAt_cr {D : Byt} {LP : Option (Option (Nat × Nat))} {j : Nat} (h : LineAt D LP j) (hj : j < D.length) (h13 : D[j] = 13) :
    LP = if j = 0 then none else if hn : j + 1 < D.length then (if D[j + 1] = 10 then some (some (hexN (D.take j), j + 2)) else none) else some none := by
  rcases Nat.eq_zero_or_pos j with rfl | h0
  · rw [h.2.1 rfl, if_pos rfl]
    cases D with
    | nil => cases hj
    | cons c t =>
      simp only [List.getElem_cons_zero] at h13
      subst h13
      rfl
  · rw [h.2.2 h0, List.drop_eq_getElem_cons hj, if_neg (by omega)]
    simp only [digP, if_pos h13]
    by_cases hn : j + 1 < D.length
    · rw [dif_pos hn, List.drop_eq_getElem_cons hn]
    · rw [dif_neg hn, List.drop_of_length_le (by omega)]

theorem cellB {w : World} {va : Value} {l : Byt} (h : argRow w va l.length 1 (Lib.byteCells l)) (h0 : 0 < l.length) : ∃ b off cap, va = .slice (some ⟨b, off, none⟩) l.length cap ∧ l.length ≤ cap ∧ cap ≤ maxLen ∧ b < w.heap.size ∧
    ∀ i (hi : i < l.length), w.cell? ⟨b, off + i, none⟩ = some (.int .u8 (l[i].toNat : Int)) := by
  obtain ⟨_, a, cap, rfl, h1, h2, hc⟩ := h
  obtain ⟨b, off, rfl, hb, hcs⟩ := hc h0
  exact ⟨b, off, cap, rfl, h1, h2, hb, fun i hi => by rw [hcs i (by simpa [Lib.byteCells] using hi)]; simp [Lib.byteCells]⟩

theorem hex_tests {c : UInt8} (h : isHex c = true) :
    (decide ((48 : Int) ≤ (c.toNat : Int)) = true ∧ decide ((c.toNat : Int) ≤ 57) = true ∧ decide ((97 : Int) ≤ (c.toNat : Int)) = false ∧ decide ((c.toNat : Int) ≤ 102) = true) ∨
    (decide ((48 : Int) ≤ (c.toNat : Int)) = true ∧ decide ((c.toNat : Int) ≤ 57) = false ∧ decide ((97 : Int) ≤ (c.toNat : Int)) = true ∧ decide ((c.toNat : Int) ≤ 102) = true) := by
  have := of_decide_eq_true h
  simp only [decide_eq_true_eq, decide_eq_false_iff_not]
  omega
theorem nohex_tests {c : UInt8} (h : ¬ isHex c = true) :
    (decide ((48 : Int) ≤ (c.toNat : Int)) = false ∧ decide ((c.toNat : Int) ≤ 57) = true ∧ decide ((97 : Int) ≤ (c.toNat : Int)) = false ∧ decide ((c.toNat : Int) ≤ 102) = true) ∨
    (decide ((48 : Int) ≤ (c.toNat : Int)) = true ∧ decide ((c.toNat : Int) ≤ 57) = false ∧ decide ((97 : Int) ≤ (c.toNat : Int)) = false ∧ decide ((c.toNat : Int) ≤ 102) = true) ∨
    (decide ((48 : Int) ≤ (c.toNat : Int)) = true ∧ decide ((c.toNat : Int) ≤ 57) = false ∧ decide ((97 : Int) ≤ (c.toNat : Int)) = true ∧ decide ((c.toNat : Int) ≤ 102) = false) := by
  have : ¬ ((48 ≤ c.toNat ∧ c.toNat ≤ 57) ∨ (97 ≤ c.toNat ∧ c.toNat ≤ 102)) := fun hh => h (decide_eq_true hh)
  simp only [decide_eq_true_eq, decide_eq_false_iff_not]
  omega

set_option maxRecDepth 100000 in
set_option maxHeartbeats 8000000 in
theorem reply_line (va : Value) (l : Byt) (from' : Nat) (w : World) (hrow : argRow w va l.length 1 (Lib.byteCells l)) (hf : from' < l.length) (hl : l.length ≤ 1000000000) :
    Calls Tryd.prog 17 #[va, .int .i64 (from' : Int)] w fun e w' => LineEnd (lineP (l.drop from')) from' e ∧ Below w.heap.size w w' := by
  have hrow0 := Lib.hid hrow
  obtain ⟨b, off, cap, rfl, hlc, hcm, hbs, hcell⟩ := cellB hrow (by omega)
  have HC := Lib.hid hcell
  clear hcell hrow
  obtain ⟨LP, hLP⟩ : ∃ LP, lineP (l.drop from') = LP := ⟨_, rfl⟩
  rw [hLP]
  have HLP := Lib.hid hLP
  clear hLP
  have hDl : (l.drop from').length = l.length - from' := List.length_drop
  obtain ⟨c0, hc0⟩ : ∃ c0, l[from'] = c0 := ⟨_, rfl⟩
  have hg0 : (l.drop from').getD 0 0 = c0 := by
    rw [← hc0, List.getD_eq_getElem?_getD, List.getElem?_drop, Nat.add_zero, List.getElem?_eq_getElem hf]; rfl
  have hcc0 := HC.out from' hf
  rw [hc0] at hcc0
  have HDL := Lib.hid hDl
  have HG0 := Lib.hid hg0
  clear hDl hg0 hc0
  go_enter Tryd.func17, Tryd.ntmps17
  go_wp2
  go_loop [1] (fun i => ∃ p : Nat, i = .int .i64 (p : Int) ∧ ∃ j, p = from' + j ∧ p ≤ l.length ∧ j ≤ 8 ∧ LineAt (l.drop from') LP j) (fun i => l.length - (intOf i).toNat)
  case atStart => exact ⟨from', rfl, 0, by omega, by omega, by omega, (fun c hc => by cases hc), (fun _ => HLP.out.symm), (fun h => by omega)⟩
  case round =>
    obtain ⟨p, rfl, j, hp, hjl, hj8, hat⟩ := hrel
    have HAT := Lib.hid hat
    clear hat
    have k0 : (p : Int) - (from' : Int) = (j : Int) := by omega
    have kn : p - from' = j := by omega
    have HP := Lib.hid hp
    clear hp
    by_cases hlt : p < l.length
    · have hcj := HC.out p hlt
      have hDj : j < (l.drop from').length := by rw [HDL.out]; omega
      have hDe : (l.drop from')[j] = l[p] := by have hp := HP.out; subst hp; exact List.getElem_drop
      have hno := lineAt_no HAT.out hDj
      have hnx := lineAt_next HAT.out hDj
      have hcr := lineAt_cr HAT.out hDj
      rw [hDe] at hno hnx hcr
      clear hDe
      rw [HG0.out] at hno hnx
      have hb1 : (0 : Int) ≤ (p : Int) := by omega
      have hb2 : (p : Int) < (l.length : Int) := by omega
      have hc256 : l[p].toNat < 256 := l[p].toNat_lt
      obtain ⟨c, hc⟩ : ∃ c, l[p] = c := ⟨_, rfl⟩
      rw [hc] at hcj hno hnx hcr hc256
      by_cases h13 : c.toNat = 13
      · have e13 : ((c.toNat : Int) != 13) = false := by simp; omega
        have hcr' := hcr (UInt8.toNat_inj.1 h13)
        have HCR := Lib.hid hcr'
        clear hcr hcr' hno hnx hc
        by_cases hj0 : j = 0
        · have hfin := HCR.out
          rw [if_pos hj0] at hfin
          have HFIN := Lib.hid hfin
          clear hfin
          have ejf : ((p : Int) == (from' : Int)) = true := beq_iff_eq.2 (by omega)
          have d1 : decide ((p : Int) < (l.length : Int)) = true := decide_eq_true hb2
          go_wp2
          go_ret3
          exact ⟨by rw [HFIN.out]; rfl, Below.refl _ _⟩
        · have hj1 : 0 < j := by omega
          have ejf : ((p : Int) == (from' : Int)) = false := beq_eq_false_iff_ne.2 (by omega)
          have hcr := HCR.out
          rw [if_neg hj0] at hcr
          by_cases hn : p + 1 < l.length
          · rw [dif_pos (by rw [HDL.out]; omega)] at hcr
            have hDe : (l.drop from')[j + 1]'(by rw [HDL.out]; omega) = l[p + 1] := by have hp := HP.out; subst hp; exact List.getElem_drop
            rw [hDe] at hcr
            have hcn := HC.out (p + 1) hn
            have hn2 : (p : Int) + 1 < (l.length : Int) := by omega
            have d1 : decide ((p : Int) + 1 < (l.length : Int)) = true := decide_eq_true hn2
            have d3 : decide ((l.length : Int) ≤ (p : Int) + 1) = false := decide_eq_false (by omega)
            have hb3 : (0 : Int) ≤ (p : Int) + 1 := by omega
            obtain ⟨cn, hcn'⟩ : ∃ cn, l[p + 1] = cn := ⟨_, rfl⟩
            rw [hcn'] at hcn hcr
            clear hDe hcn'
            by_cases h10 : cn.toNat = 10
            · have e10 : ((cn.toNat : Int) != 10) = false := by simp; omega
              rw [if_pos (UInt8.toNat_inj.1 h10)] at hcr
              have HFIN := Lib.hid hcr
              have hhx := HAT.out.1
              have htl : ((l.drop from').take j).length = j := by rw [List.length_take, HDL.out]; omega
              have hrw := argRow_drop hrow0.out (k := from') (by omega) (a' := some ⟨b, off + from', none⟩) (c' := cap - from') (by omega) (fun b' o' e _ => by cases e; rw [Nat.mul_one])
              have hrw2 := argRow_take hrw (k := j) (by omega)
              rw [Nat.mul_one, Nat.mul_one] at hrw2
              have hcells : (List.drop from' (Lib.byteCells l)).take j = Lib.byteCells ((l.drop from').take j) := by simp [Lib.byteCells, List.map_drop, List.map_take]
              rw [hcells] at hrw2
              have HRW := Lib.hid hrw2
              have cP := fun W => strconv_parse ⟨((l.drop from').take j).toArray⟩ W (by simp only [ByteArray.size, List.size_toArray]; rw [htl]; omega) (by simp only [ByteArray.size, List.size_toArray]; rw [htl]; omega) hhx
              rw [show ((⟨((l.drop from').take j).toArray⟩ : ByteArray)).data.toList = (l.drop from').take j from rfl] at cP
              have HTL := Lib.hid htl
              generalize (l.drop from').take j = ds at *
              have hcv : ∀ c', (convert 22 9 (.slice (some ⟨b, off + from', none⟩) j c')).run Tryd.prog w = .ok (.string ⟨ds.toArray⟩) w := fun c' => by
                have hh := conv_cells (P := Tryd.prog) (w := w) (cap := c') (src := 22) (dst := 9) (g := b) (off := off + from') (l := ds) Tryd.underlying22 Tryd.underlying5 Tryd.underlying9 (fun i hi => by
                  obtain ⟨_, _, _, e, _, _, hc⟩ := HRW.out
                  cases e
                  obtain ⟨_, _, e, _, hcs⟩ := hc (by omega)
                  cases e
                  rw [hcs i (by simpa [Lib.byteCells] using hi)]
                  simp [Lib.byteCells])
                rw [HTL.out] at hh
                exact hh
              have i3 : (0 : Int) ≤ (from' : Int) := by omega
              have i4 : (from' : Int) ≤ (p : Int) := by omega
              have i5 : (p : Int) ≤ (cap : Int) := by omega
              clear hcr hhx htl hrw hrw2 hcells HCR
              generalize hexN ds = N at *
              go_wp2_with (go_at_call 24; refine (cP _).mono ?_; rintro e w1 ⟨rfl, hb1'⟩)
              go_ret3
              exact ⟨by rw [HFIN.out]; unfold LineEnd; simp only; rw [show (from' : Int) + ((j + 2 : Nat) : Int) = (p : Int) + 2 from by have := HP.out; omega]; rfl, hb1'⟩
            · have e10 : ((cn.toNat : Int) != 10) = true := by simp; omega
              have hc10 : cn ≠ 10 := fun e => h10 (by rw [e]; rfl)
              rw [if_neg hc10] at hcr
              have HFIN := Lib.hid hcr
              clear hcr HCR h10 hc10
              go_wp2
              go_ret3
              exact ⟨by rw [HFIN.out]; rfl, Below.refl _ _⟩
          · rw [dif_neg (by rw [HDL.out]; omega)] at hcr
            have HFIN := Lib.hid hcr
            clear hcr HCR
            have hn2 : (l.length : Int) ≤ (p : Int) + 1 := by omega
            have d1 : decide ((p : Int) + 1 < (l.length : Int)) = false := decide_eq_false (by omega)
            have d3 : decide ((l.length : Int) ≤ (p : Int) + 1) = true := decide_eq_true hn2
            go_wp2
            go_ret3
            exact ⟨by rw [HFIN.out]; rfl, Below.refl _ _⟩
      · have hc13 : c ≠ 13 := fun e => h13 (by rw [e]; rfl)
        have n13 : ((c.toNat : Int) != 13) = true := by simp; omega
        have HNO := Lib.hid (hno hc13)
        have HNX := Lib.hid hnx
        clear hno hnx hcr h13 hc13 hc
        by_cases hx : isHex c = true
        · have hxx := hex_tests hx
          by_cases hj : j = 8
          · have hfin := HNO.out (fun h => by omega)
            have HFIN := Lib.hid hfin
            have e8 : ((j : Int) == 8) = true := by simp; omega
            clear hfin hx hj
            rcases hxx with ⟨x1, x2, x3, x4⟩ | ⟨x1, x2, x3, x4⟩
            all_goals
              go_wp2
              go_ret3
              exact ⟨by rw [HFIN.out]; rfl, Below.refl _ _⟩
          · have hj7 : j < 8 := by omega
            have e8 : ((j : Int) == 8) = false := by simp; omega
            clear hj
            by_cases h0 : 0 < j
            · have d0 : decide ((from' : Int) < (p : Int)) = true := decide_eq_true (by omega)
              have hx0 : isHex c0 = true := by
                have hD0 : 0 < (l.drop from').length := by omega
                have := HG0.out
                rw [List.getD_eq_getElem?_getD, List.getElem?_eq_getElem hD0] at this
                simp only [Option.getD_some] at this
                rw [← this]
                refine HAT.out.1 _ ?_
                have : (l.drop from')[0] ∈ (l.drop from').take 1 := by
                  rw [List.take_succ_eq_append_getElem hD0]; simp
                exact List.take_subset_take_left _ (by omega) this
              have hz0 : (hexV c0 == 0) = decide (c0.toNat = 48) := by
                have := of_decide_eq_true hx0
                rw [Bool.eq_iff_iff]
                simp only [beq_iff_eq, decide_eq_true_eq]
                unfold hexV
                split <;> omega
              by_cases h48 : c0.toNat = 48
              · have e48 : ((c0.toNat : Int) == 48) = true := by simp; omega
                have hfin := HNO.out (fun h => by have := h.2.2 h0; rw [hz0, decide_eq_true h48] at this; cases this)
                have HFIN := Lib.hid hfin
                clear hfin hx hz0 hx0
                rcases hxx with ⟨x1, x2, x3, x4⟩ | ⟨x1, x2, x3, x4⟩
                all_goals
                  go_wp2
                  go_ret3
                  exact ⟨by rw [HFIN.out]; rfl, Below.refl _ _⟩
              · have e48 : ((c0.toNat : Int) == 48) = false := by simp; omega
                have hnxt := HNX.out hx hj7 (fun _ => by rw [hz0]; exact decide_eq_false h48)
                have HNXT := Lib.hid hnxt
                clear hnxt hx hz0 hx0 h48
                rcases hxx with ⟨x1, x2, x3, x4⟩ | ⟨x1, x2, x3, x4⟩
                all_goals
                  go_wp2
                  go_round
                  case rel => exact ⟨p + 1, by go_num, j + 1, by omega, by omega, by omega, HNXT.out⟩
                  case measure => simp [intOf]; omega
            · have hnxt := HNX.out hx hj7 (fun h => absurd h h0)
              have HNXT := Lib.hid hnxt
              clear hnxt hx
              have d0 : decide ((from' : Int) < (p : Int)) = false := decide_eq_false (by omega)
              rcases hxx with ⟨x1, x2, x3, x4⟩ | ⟨x1, x2, x3, x4⟩
              all_goals
                go_wp2
                go_round
                case rel => exact ⟨p + 1, by go_num, j + 1, by omega, by omega, by omega, HNXT.out⟩
                case measure => simp [intOf]; omega
        · have hfin := HNO.out (fun h => hx h.1)
          have HFIN := Lib.hid hfin
          clear hfin
          have hxx := nohex_tests hx
          clear hx
          rcases hxx with ⟨x1, x2, x3, x4⟩ | ⟨x1, x2, x3, x4⟩ | ⟨x1, x2, x3, x4⟩
          all_goals
            go_wp2
            go_ret3
            exact ⟨by rw [HFIN.out]; rfl, Below.refl _ _⟩
    · have h0 : 0 < j := by omega
      have hfin := lineAt_end HAT.out h0 (by rw [HDL.out]; omega)
      have HFIN := Lib.hid hfin
      clear hfin
      have hn1 : (l.length : Int) ≤ (p : Int) := by omega
      have d0 : decide ((p : Int) < (l.length : Int)) = false := decide_eq_false (by omega)
      have d1 : decide ((p : Int) + 1 < (l.length : Int)) = false := decide_eq_false (by omega)
      have ejf : ((p : Int) == (from' : Int)) = false := beq_eq_false_iff_ne.2 (by omega)
      have d3 : decide ((l.length : Int) ≤ (p : Int) + 1) = true := decide_eq_true (by omega)
      go_wp2
      go_ret3
      exact ⟨by rw [HFIN.out]; rfl, Below.refl _ _⟩
end Go.Proofs.YtknoimflimhcgaaDoor
