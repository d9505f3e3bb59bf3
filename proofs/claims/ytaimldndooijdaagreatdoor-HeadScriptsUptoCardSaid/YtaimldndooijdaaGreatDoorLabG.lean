/-
  slices.Clone at labels; label.Canon.
-/
import Derived.Test.YtaimldndooijdaaGreatDoorLabF
import Derived.Test.YtaimldndooijdaaGreatDoorLabD
import Derived.Test.YtaimldndooijdaaGreatDoorUtfV
namespace Go.Proofs.YtaimldndooijdaaGreatDoor
open Go.RowKit

theorem eql_nil (a : Option Addr) (l c : Nat) (W : World) : (binOp .eql 45 (.slice a l c) (.slice none 0 0)).run Tryz.prog W = .ok (.bool a.isNone) W := by
  have h := run_equal_slice_nil (P := Tryz.prog) W 45 62 a l c Tryz.underlying45
  simp [binOp, h]
set_option maxRecDepth 100000 in
set_option maxHeartbeats 4000000 in
theorem label_clone (v : Value) (L : List Lab) (w : World) (h : LRow w v L) (hL : L.length ≤ 2000000) :
    Calls Tryz.prog 40 #[v] w fun e w' => ∃ v', e = .returned v' ∧ w'.ownsRow w.heap.size 62 2 v' L.length (labCells L) ∧ Below w.heap.size w w' := by
  have EL : ElemT Tryz.prog 45 62 (.agg #[.string ⟨#[]⟩, .string ⟨#[]⟩]) 2 32 := ⟨Tryz.underlying45, by kernel_rfl, rfl, by decide⟩
  obtain ⟨a, c, rfl, hc, hcm⟩ := h.shape
  unfold maxLen at hcm
  have HR := Lib.hid h
  clear h
  have hnil := fun a l c W => eql_nil a l c W
  cases a with
  | none =>
    have hl : L = [] := by
      refine Classical.byContradiction fun hne => ?_
      obtain ⟨_, _, e, _⟩ := HR.out.at (k := 0) (List.length_pos_iff.2 hne)
      cases e
    subst hl
    go_enter Tryz.func40, Tryz.ntmps40
    go_wp2
    go_ret
    exact ⟨_, rfl, World.ownsRow_nil _ _ _ _, Below.refl _ _⟩
  | some p =>
    go_enter Tryz.func40, Tryz.ntmps40
    go_wp2_with (at_builtin; refine wpList_append_src rfl _ _ _ _ rfl w.heap.size EL _ 0 [] rfl (World.ownsRow_lit w #[] 0 (Nat.le_refl _) (by decide) rfl) _ L.length (labCells L) rfl (by exact src_arg Tryz.underlying45 (argRow_below HR.out (belowA (Below.refl _ _))) (labCells_one L)) (by unfold maxLen; omega) (by omega) (by simp) ?_; intro v1 w1 hown1 hgr1 _ _)
    go_ret
    refine ⟨_, rfl, by simpa using hown1, (belowA (Below.refl _ _)).grown hgr1 (by simp) (fun k hk => ?_)⟩
    cases hk
    exact Nat.le_refl _

/-- What a label lacks. -/
def labBad (x : Lab) : Int := if nameOk x.1 = false then 6 else if 256 < x.2.size then 4 else if Lib.validD x.2.data.toList = false then 8 else 0
def firstBad : List Lab → Int
  | [] => 0
  | x :: L => if labBad x = 0 then firstBad L else labBad x
theorem firstBad_at {L : List Lab} {k : Nat} (h : k < L.length) : firstBad (L.drop k) = if labBad L[k] = 0 then firstBad (L.drop (k + 1)) else labBad L[k] := by
  rw [List.drop_eq_getElem_cons h]
  rfl
/-- Two of one name behind one another. -/
def Twice (L : List Lab) : Prop := ∃ i, ∃ h : i + 1 < L.length, L[i + 1].1.toList = L[i].1.toList

/-- What label.Canon comes to. -/
def CanonEnd (L : List Lab) (B : Nat) (w' : World) (e : Ending) : Prop :=
  if 16 < L.length then e = .returned (.tuple #[.slice none 0 0, .int .i64 3])
  else if firstBad L ≠ 0 then e = .returned (.tuple #[.slice none 0 0, .int .i64 (firstBad L)])
  else ∃ L', L'.Perm L ∧ Rising L' ∧ ((Twice L' ∧ e = .returned (.tuple #[.slice none 0 0, .int .i64 6])) ∨
    (¬ Twice L' ∧ ∃ v, e = .returned (.tuple #[v, .int .i64 0]) ∧ w'.ownsRow B 62 2 v L'.length (labCells L')))

set_option maxRecDepth 100000 in
set_option maxHeartbeats 4000000 in
theorem label_Canon (v : Value) (L : List Lab) (w : World) (h : LRow w v L) (hT : Tabs w) (hs : ∀ x ∈ L, x.1.size ≤ 1000000000 ∧ x.2.size ≤ 1000000000) (hLn : L.length ≤ 1048576) :
    Calls Tryz.prog 36 #[v] w fun e w' => CanonEnd L w.heap.size w' e ∧ Below w.heap.size w w' := by
  obtain ⟨aa, ca, rfl, hca, hca2⟩ := h.shape
  unfold maxLen at hca2
  have HA := Lib.hid h
  have HS := Lib.hid hs
  clear h hs
  by_cases h16 : 16 < L.length
  · have hi : (16 : Int) < (L.length : Int) := by omega
    have hpost : CanonEnd L w.heap.size w (.returned (.tuple #[.slice none 0 0, .int .i64 3])) := by unfold CanonEnd; rw [if_pos h16]
    have HP := Lib.hid hpost
    clear hpost
    go_enter Tryz.func36, Tryz.ntmps36
    go_wp2
    go_ret2
    exact ⟨HP.out, Below.refl _ _⟩
  · have hi : ¬ (16 : Int) < (L.length : Int) := by omega
    obtain ⟨F, hF⟩ : ∃ F, firstBad L = F := ⟨_, rfl⟩
    have HF := Lib.hid hF
    have hbad : F ≠ 0 → ∀ w', CanonEnd L w.heap.size w' (.returned (.tuple #[.slice none 0 0, .int .i64 F])) := fun h w' => by
      unfold CanonEnd
      rw [if_neg h16, hF, if_pos h]
    have hgood : F = 0 → ∀ w' e L', L'.Perm L → Rising L' → ((Twice L' ∧ e = .returned (.tuple #[.slice none 0 0, .int .i64 6])) ∨
      (¬ Twice L' ∧ ∃ v, e = .returned (.tuple #[v, .int .i64 0]) ∧ w'.ownsRow w.heap.size 62 2 v L'.length (labCells L'))) → CanonEnd L w.heap.size w' e := fun h w' e L' h1 h2 h3 => by
      unfold CanonEnd
      rw [if_neg h16, hF, if_neg (by simp [h])]
      exact ⟨L', h1, h2, h3⟩
    have HBAD := Lib.hid hbad
    have HGOOD := Lib.hid hgood
    clear hbad hgood hF
    have cN := Lib.hid (fun (s : ByteArray) W (hs : s.size ≤ 1000000000) => label_name s W (by unfold maxLen; omega))
    have cV := Lib.hid (fun (s : ByteArray) W (hs : s.size ≤ 1000000000) (hW : Below w.heap.size w W) => utf_Valid s W (by unfold maxLen; omega) (Utf8Tabs_below hT hW))
    go_enter Tryz.func36, Tryz.ntmps36
    go_wp2
    go_loopw [13] (fun iv wr => ∃ k : Nat, iv = .int .i64 k ∧ k ≤ L.length ∧ firstBad (L.drop k) = F ∧ Below w.heap.size w wr) (fun iv _ => L.length - (intOf iv).toNat)
    case atStart => exact ⟨0, rfl, Nat.zero_le _, HF.out, Below.refl _ _⟩
    case round =>
      obtain ⟨k, rfl, hk, hf, hb⟩ := hrel
      by_cases hlt : k < L.length
      · obtain ⟨ba, oa, rfl, hba, ga1, ga2⟩ := HA.out.at hlt
        have hst := firstBad_at hlt
        rw [hf] at hst
        have hsz := HS.out _ (List.getElem_mem hlt)
        have g1 : wr.cell? ⟨ba, oa + k * 2, none⟩ = some (.string L[k].1) := by rw [hb.cell (p := ⟨ba, _, none⟩) hba]; exact ga1
        have g2 : wr.cell? ⟨ba, oa + k * 2 + 1, none⟩ = some (.string L[k].2) := by rw [hb.cell (p := ⟨ba, _, none⟩) hba]; exact ga2
        have HST := Lib.hid hst
        clear hst hf ga1 ga2
        generalize L[k] = x at *
        obtain ⟨x1, x2⟩ := x
        simp only at *
        obtain ⟨hs1, hs2⟩ := hsz
        have i0 : (0 : Int) ≤ (k : Int) := by omega
        have i1 : (k : Int) < (L.length : Int) := by omega
        have hb1 : Below w.heap.size w (wr.alloc (.cells #[.string x1, .string x2] 62)) := belowA hb
        have hbox : ∀ W, Below (wr.alloc (.cells #[.string x1, .string x2] 62)).heap.size (wr.alloc (.cells #[.string x1, .string x2] 62)) W → W.cell? ⟨wr.heap.size, 0, none⟩ = some (.string x1) ∧ W.cell? ⟨wr.heap.size, 1, none⟩ = some (.string x2) := fun W hW => by
          have := fun j => cell_of_row (wr.alloc (.cells #[.string x1, .string x2] 62)) wr.heap.size j _ _ _ (heap_alloc_new _ _)
          have hs : (wr.alloc (.cells #[.string x1, .string x2] 62)).heap.size = wr.heap.size + 1 := by simp
          refine ⟨?_, ?_⟩
          · rw [hW.cell (p := ⟨wr.heap.size, 0, none⟩) (show wr.heap.size < _ by omega), this]; rfl
          · rw [hW.cell (p := ⟨wr.heap.size, 1, none⟩) (show wr.heap.size < _ by omega), this]; rfl
        have HBOX := Lib.hid hbox
        clear hbox
        have hval : labBad (x1, x2) = if nameOk x1 = false then 6 else if 256 < x2.size then 4 else if Lib.validD x2.data.toList = false then 8 else 0 := rfl
        have cN1 := Lib.hid (fun W => cN.out x1 W hs1)
        have cV1 := Lib.hid (fun W hW => cV.out x2 W hs2 hW)
        rw [hval] at HST
        clear hval
        obtain ⟨b1, h1⟩ : ∃ b, nameOk x1 = b := ⟨_, rfl⟩
        obtain ⟨b2, h2⟩ : ∃ b, Lib.validD x2.data.toList = b := ⟨_, rfl⟩
        rw [h1, h2] at HST
        rw [h1] at cN1
        rw [h2] at cV1
        clear h1 h2
        go_upto_region 6 with fail
        generalize wr.alloc (.cells #[.string x1, .string x2] 62) = w1 at *
        obtain ⟨q0, q1⟩ := HBOX.out _ (Below.refl _ _)
        cases b1
        · have hF6 : F = 6 := by have := HST.out; simpa using this
          have hp := HBAD.out (by omega)
          rw [hF6] at hp
          have HP := Lib.hid hp
          clear hp hF6
          go_wp2_with (go_at_call 53; refine (cN1.out _).mono ?_; rintro e w2 ⟨rfl, hb2⟩)
          go_ret2
          exact ⟨HP.out _, below_seq hb1 hb2⟩
        · by_cases h256 : 256 < x2.size
          · have hF4 : F = 4 := by have := HST.out; simpa [h256] using this
            have hp := HBAD.out (by omega)
            rw [hF4] at hp
            have HP := Lib.hid hp
            clear hp hF4
            have hz : (256 : Int) < (x2.size : Int) := by omega
            go_wp2_with (go_at_call 53; refine (cN1.out _).mono ?_; rintro e w2 ⟨rfl, hb2⟩; obtain ⟨r0, r1⟩ := HBOX.out _ hb2)
            go_ret2
            exact ⟨HP.out _, below_seq hb1 hb2⟩
          · have hz : ¬ (256 : Int) < (x2.size : Int) := by omega
            cases b2
            · have hF8 : F = 8 := by have := HST.out; simpa [h256] using this
              have hp := HBAD.out (by omega)
              rw [hF8] at hp
              have HP := Lib.hid hp
              clear hp hF8
              go_wp2_with (first | (go_at_call 53; refine (cN1.out _).mono ?_; rintro e w2 ⟨rfl, hb2⟩; obtain ⟨r0, r1⟩ := HBOX.out _ hb2) | (go_at_call 38; refine (cV1.out _ (below_seq hb1 hb2)).mono ?_; rintro e w3 ⟨rfl, hb3⟩))
              go_ret2
              exact ⟨HP.out _, below_seq (below_seq hb1 hb2) hb3⟩
            · have hfin : F = firstBad (L.drop (k + 1)) := by have := HST.out; simpa [h256] using this
              have HFIN := Lib.hid hfin
              clear hfin
              go_wp2_with (first | (go_at_call 53; refine (cN1.out _).mono ?_; rintro e w2 ⟨rfl, hb2⟩; obtain ⟨r0, r1⟩ := HBOX.out _ hb2) | (go_at_call 38; refine (cV1.out _ (below_seq hb1 hb2)).mono ?_; rintro e w3 ⟨rfl, hb3⟩))
              go_roundw
              case rel => exact ⟨k + 1, by go_num, by omega, HFIN.out.symm, below_seq (below_seq hb1 hb2) hb3⟩
              case measure => simp [intOf]; omega
      · have i1 : ¬ (k : Int) < (L.length : Int) := by omega
        rw [List.drop_of_length_le (by omega)] at hf
        have hF0 : F = 0 := hf.symm
        have HG := Lib.hid (HGOOD.out hF0)
        clear hf hF0 HGOOD HBAD cN cV
        obtain ⟨wo, hwo⟩ : ∃ wo : World, wo = wr := ⟨_, rfl⟩
        subst hwo
        go_upto_region 14 with (go_at_call 40; refine (label_clone _ L _ (HA.out.below hb) (by omega)).mono ?_; rintro e w2 ⟨v2, rfl, hown2, hb2⟩)
        have hb02 := below_seq hb hb2
        have cS := label_sort hown2 (by omega)
        go_upto_region 15 with (go_at_call 54; refine cS.mono ?_; rintro e w3 ⟨rfl, L', hperm, hris, hown3, hgr3⟩)
        have hlen' : L'.length = L.length := hperm.length_eq
        have hb3 := hb02.grown hgr3 hb02.size (fun k hk => by have := (hown2.lt k hk).1; have := hb.size; omega)
        have hBase : w.heap.size ≤ wo.heap.size := hb.size
        obtain ⟨a2, c2, rfl⟩ := owns_slice hown3
        have HROW : LRow w3 (.slice a2 L'.length c2) L' := argRow_owns hown3
        have HOWN := Lib.hid (owns_base hown3 hBase)
        have HPR := Lib.hid (And.intro hperm hris)
        have hL16 : L'.length ≤ 16 := by omega
        clear hown2 hown3 hgr3 cS hperm hris hb hb02 hb2 HA HS HF hlen'
        go_wp2
        go_loopw [39] (fun iv wr => ∃ k : Nat, iv = .int .i64 k ∧ k ≤ L'.length ∧ (∀ j (h1 : j + 1 < k) (h2 : j + 1 < L'.length), L'[j + 1].1.toList ≠ L'[j].1.toList) ∧ Below w3.heap.size w3 wr) (fun iv _ => L'.length - (intOf iv).toNat)
        case atStart => exact ⟨0, rfl, Nat.zero_le _, fun j h1 _ => by omega, Below.refl _ _⟩
        case round =>
          obtain ⟨k, rfl, hk, hno, hbz⟩ := hrel
          have HNO := Lib.hid hno
          clear hno
          have hdn : ∀ n, Below w3.heap.size w3 (wr.drewN n) := fun n => ⟨hbz.os, hbz.tape, hbz.output, hbz.size, hbz.block⟩
          by_cases hlt : k < L'.length
          · obtain ⟨ba, oa, rfl, hba, ga1, ga2⟩ := HROW.at hlt
            have g1 : ∀ n, (wr.drewN n).cell? ⟨ba, oa + k * 2, none⟩ = some (.string L'[k].1) := fun n => by rw [(hdn n).cell (p := ⟨ba, _, none⟩) hba]; exact ga1
            have i0 : (0 : Int) ≤ (k : Int) := by omega
            have i1 : (k : Int) < (L'.length : Int) := by omega
            cases k with
            | zero =>
              have HDN := Lib.hid hdn
              clear hdn ga1 ga2 HROW
              go_wp2_with fail
              go_quiet (fail)
              go_wp2_with fail
              go_roundw
              case rel => exact ⟨1, rfl, by omega, fun j h1 _ => by omega, HDN.out _⟩
              case measure => simp [intOf]; omega
            | succ k =>
              obtain ⟨bx, ox, e, _, gb1, _⟩ := HROW.at (k := k) (by omega)
              cases e
              have g2 : ∀ n, (wr.drewN n).cell? ⟨ba, oa + k * 2, none⟩ = some (.string L'[k].1) := fun n => by rw [(hdn n).cell (p := ⟨ba, _, none⟩) hba]; exact gb1
              have HDN := Lib.hid hdn
              have htw : L'[k + 1].1.toList = L'[k].1.toList → Twice L' := fun h => ⟨k, hlt, h⟩
              have hnx : L'[k + 1].1.toList ≠ L'[k].1.toList → ∀ j (h1 : j + 1 < k + 1 + 1) (h2 : j + 1 < L'.length), L'[j + 1].1.toList ≠ L'[j].1.toList := fun h j h1 h2 => by
                by_cases hj : j = k
                · subst hj; exact h
                · exact HNO.out j (by omega) h2
              have HTW := Lib.hid htw
              have HNX := Lib.hid hnx
              clear hdn ga1 ga2 gb1 HROW htw hnx
              generalize L'[k + 1].1 = n1 at *
              generalize L'[k].1 = n2 at *
              obtain ⟨q, hq⟩ : ∃ q, (n1.toList == n2.toList) = q := ⟨_, rfl⟩
              have k0 : (0 : Int) ≤ (k : Int) := by omega
              have k1 : (k : Int) < (L'.length : Int) := by omega
              have kp : (0 : Int) < (k : Int) + 1 := by omega
              have kpn : 0 < k + 1 := by omega
              have kpd : decide ((k : Int) + 1 > 0) = true := decide_eq_true kp
              cases q
              · have hfin := HNX.out (fun h => by rw [h] at hq; simp at hq)
                have HFIN := Lib.hid hfin
                clear hfin
                go_wp2_with fail
                go_quiet (fail)
                go_wp2_with fail
                go_roundw
                case rel => exact ⟨k + 1 + 1, by go_num, by omega, HFIN.out, HDN.out _⟩
                case measure => simp [intOf]; omega
              · have hfin := HTW.out (eq_of_beq hq)
                have HFIN := Lib.hid hfin
                clear hfin
                go_wp2_with fail
                go_quiet (fail)
                go_wp2_with fail
                go_ret2
                exact ⟨HG.out _ _ L' HPR.out.1 HPR.out.2 (.inl ⟨HFIN.out, rfl⟩), below_seq hb3 (HDN.out _)⟩
          · have i1 : ¬ (k : Int) < (L'.length : Int) := by omega
            have hnt : ¬ Twice L' := fun ⟨j, h1, h2⟩ => HNO.out j (by omega) h1 h2
            have HNT := Lib.hid hnt
            clear hnt
            go_wp2
            go_ret2
            exact ⟨HG.out _ _ L' HPR.out.1 HPR.out.2 (.inr ⟨HNT.out, _, rfl, owns_below HOWN.out hbz⟩), below_seq hb3 hbz⟩
end Go.Proofs.YtaimldndooijdaaGreatDoor
