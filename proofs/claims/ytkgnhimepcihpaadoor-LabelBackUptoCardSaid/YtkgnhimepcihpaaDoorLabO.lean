/-
  LabelOrder's walk.
-/
import Derived.Test.YtkgnhimepcihpaaDoorLabK
import Derived.Test.YtkgnhimepcihpaaDoorLabM
namespace Go.Proofs.YtkgnhimepcihpaaDoor
open Go.RowKit
theorem canon_calls (v : Value) (L : List Lab) (w : World) (h : LRow w v L) (hT : Tabs w) (hs : ∀ x ∈ L, x.1.size ≤ 1000000000 ∧ x.2.size ≤ 1000000000) (hLn : L.length ≤ 1048576) :
    Calls Tryd.prog 28 #[v] w fun e w' => (∃ v, e = .returned (.tuple #[v, .int .i64 (canonE L)]) ∧ w'.ownsRow w.heap.size 47 2 v (canonL L).length (labCells (canonL L))) ∧ Below w.heap.size w w' :=
  (label_Canon v L w h hT hs hLn).mono fun _ _ h => ⟨canon_end h.1, h.2⟩
theorem same_self {va vb : Value} {L : List Lab} {W : World} (h1 : LRow W va L) (h2 : LRow W vb L) : Calls Tryd.prog 32 #[va, vb] W fun e w' => e = .returned (.bool true) ∧ Below W.heap.size W w' := by
  have := ref_Same va vb L L W h1 h2
  rw [decide_eq_true rfl] at this
  exact this
theorem order_sign {X Y Z : Int} (hX : -1 ≤ X ∧ X ≤ 1) (hY : -1 ≤ Y ∧ Y ≤ 1) (h1 : X ≤ 0 → Y ≤ 0 → Z ≤ 0) (h2 : 0 ≤ X → 0 ≤ Y → 0 ≤ Z) :
    (X = -1 ∧ Y = 1) ∨ (X = -1 ∧ Y ≤ 0 ∧ Z ≤ 0) ∨ (X = 0 ∧ Y = -1 ∧ Z ≤ 0) ∨ (X = 0 ∧ Y = 0 ∧ Z = 0) ∨ (X = 0 ∧ Y = 1 ∧ 0 ≤ Z) ∨ (X = 1 ∧ Y = -1) ∨ (X = 1 ∧ 0 ≤ Y ∧ 0 ≤ Z) := by omega
set_option maxRecDepth 100000 in
set_option maxHeartbeats 4000000 in
theorem order_walk (va vb vc : Value) (A B C : List Lab) (w : World) (hsh : w.ShapedOpen Tryd.prog) (hT : Tabs w) (hA : LRow w va A) (hB : LRow w vb B) (hC : LRow w vc C)
    (hs : ∀ x ∈ A, x.1.size ≤ 1000000000 ∧ x.2.size ≤ 1000000000) (hLn : A.length ≤ 1048576) :
    Calls Tryd.prog 10 #[va, vb, vc] w fun e w' => e = .returned (.bool true) ∧ Below w.heap.size w w' := by
  have EL : ElemT Tryd.prog 25 47 (.agg #[.string ⟨#[]⟩, .string ⟨#[]⟩]) 2 32 := ⟨Tryd.underlying25, by kernel_rfl, rfl, by decide⟩
  obtain ⟨aa, ca, rfl, hca, hca2⟩ := hA.shape
  have cA := law08_awake w hsh hT
  have cAB := Lib.hid (fun W (hW : Below w.heap.size w W) => label_Compare _ _ A B W (hA.below hW) (hB.below hW))
  have cBC := Lib.hid (fun W (hW : Below w.heap.size w W) => label_Compare _ _ B C W (hB.below hW) (hC.below hW))
  have cBA := Lib.hid (fun W (hW : Below w.heap.size w W) => label_Compare _ _ B A W (hB.below hW) (hA.below hW))
  have cAA := Lib.hid (fun W (hW : Below w.heap.size w W) => label_Compare _ _ A A W (hA.below hW) (hA.below hW))
  have cAC := Lib.hid (fun W (hW : Below w.heap.size w W) => label_Compare _ _ A C W (hA.below hW) (hC.below hW))
  rw [cmpLabs_neg A B] at cBA
  obtain ⟨X', hX'⟩ : ∃ X', - cmpLabs A B = X' := ⟨_, rfl⟩
  rw [hX'] at cBA
  rw [cmpLabs_self] at cAA
  have hsg := order_sign (cmpLabs_in A B) (cmpLabs_in B C) (cmpLabs_le (A := A) (B := B) (C := C)) (cmpLabs_ge (A := A) (B := B) (C := C))
  obtain ⟨X, hX⟩ : ∃ X, cmpLabs A B = X := ⟨_, rfl⟩
  obtain ⟨Y, hY⟩ : ∃ X, cmpLabs B C = X := ⟨_, rfl⟩
  obtain ⟨Z, hZ⟩ : ∃ X, cmpLabs A C = X := ⟨_, rfl⟩
  rw [hX, hY, hZ] at hsg
  rw [hX] at cAB hX'
  rw [hY] at cBC
  rw [hZ] at cAC
  clear hX hY hZ
  have HA := Lib.hid hA
  have HS := Lib.hid hs
  have HSG := Lib.hid hsg
  clear hA hB hC hs hsg
  have hst := canonL_strict A
  have hcl := canonL_le A
  have HE := Lib.hid (fun h => canonL_len (L := A) h)
  have cN := Lib.hid (fun v W (hW : Below w.heap.size w W) (hr : LRow W v A) => canon_calls v A W hr (Utf8Tabs_below hT hW) HS.out hLn)
  generalize canonE A = E at *
  generalize canonL A = S at *
  have HST := Lib.hid hst
  clear hst
  go_enter Tryd.func10, Tryd.ntmps10
  go_upto_region 3 with (go_at_call 27; refine cA.mono ?_; rintro e w1 ⟨rfl, hb1⟩)
  clear cA
  go_upto_region 5 with (first | (go_at_call 33; refine (cAB.out _ hb1).mono ?_; rintro e w2 ⟨rfl, hb2⟩; have hb12 := below_seq hb1 hb2) | (go_at_call 33; refine (cBC.out _ hb12).mono ?_; rintro e w3 ⟨rfl, hb3⟩; have hb13 := below_seq hb12 hb3))
  have hcut : True := trivial
  rcases HSG.out with ⟨rfl, rfl⟩ | ⟨rfl, hy, hz⟩ | ⟨rfl, rfl, hz⟩ | ⟨rfl, rfl, rfl⟩ | ⟨rfl, rfl, hz⟩ | ⟨rfl, rfl⟩ | ⟨rfl, hy, hz⟩
  case' inl => obtain rfl : X' = 1 := by omega
  case' inr.inl =>
    obtain rfl : X' = 1 := by omega
    have d1 : decide (Y ≤ 0) = true := by simpa using hy
    have d2 : decide (0 < Z) = false := by simp; omega
    clear hy hz
  case' inr.inr.inl =>
    obtain rfl : X' = 0 := by omega
    have d2 : decide (0 < Z) = false := by simp; omega
    clear hz
  case' inr.inr.inr.inl => obtain rfl : X' = 0 := by omega
  case' inr.inr.inr.inr.inl =>
    obtain rfl : X' = 0 := by omega
    have d2 : decide (Z < 0) = false := by simp; omega
    clear hz
  case' inr.inr.inr.inr.inr.inl => obtain rfl : X' = -1 := by omega
  case' inr.inr.inr.inr.inr.inr =>
    obtain rfl : X' = -1 := by omega
    have d1 : decide (0 ≤ Y) = true := by simpa using hy
    have d2 : decide (Z < 0) = false := by simp; omega
    clear hy hz
  all_goals
    clear HSG hX'
    go_upto_region 7 with (first | (go_at_call 33; refine (cBA.out _ hb13).mono ?_; rintro e w4 ⟨rfl, hb4⟩; have hb14 := below_seq hb13 hb4) | (go_at_call 33; refine (cAA.out _ hb14).mono ?_; rintro e w5 ⟨rfl, hb5⟩; have hb15 := below_seq hb14 hb5) | (go_at_call 33; refine (cAC.out _ hb15).mono ?_; rintro e w6 ⟨rfl, hb6⟩; have hb16 := below_seq hb15 hb6) | (go_at_call 33; refine (cAC.out _ hb16).mono ?_; rintro e w7 ⟨rfl, hb7⟩; have hb17 := below_seq hb16 hb7))
    go_upto_region 8 with (go_at_call 28; refine (cN.out _ _ (by assumption) (HA.out.below (by assumption))).mono ?_; rintro e w8 ⟨⟨v8, rfl, ho8⟩, hb8⟩)
    have hb18 : Below w.heap.size w w8 := below_seq (by assumption) hb8
    have HL8 := Lib.hid (show LRow w8 v8 S from argRow_owns ho8)
    clear ho8 hb8 cAB cBC cBA cAA cAC
    obtain ⟨a8, c8, rfl, hc8, hc8m⟩ := HL8.out.shape
    go_wp2
    go_loopw [11] (fun iv wr => ∃ k : Nat, iv = .int .i64 k ∧ 1 ≤ k ∧ k ≤ 17 ∧ Below w8.heap.size w8 wr) (fun iv _ => 18 - (intOf iv).toNat)
    case atStart => exact ⟨1, rfl, by omega, by omega, Below.refl _ _⟩
    case round =>
      obtain ⟨k, rfl, hk1, hk2, hbr⟩ := hrel
      by_cases hlt : k < S.length
      · have hx := List.pairwise_iff_getElem.1 HST.out (k - 1) k (by omega) hlt (by omega)
        obtain ⟨b8, o8, rfl, hb88, g1, _⟩ := HL8.out.at hlt
        obtain ⟨b8', o8', e8, _, g2, _⟩ := HL8.out.at (k := k - 1) (by omega)
        cases e8
        have hx1 := less_asymm hx
        have hx2 : (S[k].1.toList == S[k - 1].1.toList) = false := by simpa using fun e => less_ne hx e.symm
        unfold lessN at hx1
        clear hx
        generalize S[k - 1] = y at *
        generalize S[k] = x at *
        obtain ⟨x1, x2⟩ := x
        obtain ⟨y1, y2⟩ := y
        simp only at *
        have i0 : (0 : Int) ≤ (k : Int) := by omega
        have i1 : (k : Int) < (S.length : Int) := by omega
        have i2 : IntKind.i64.wrap ((k : Int) - 1) = (k : Int) - 1 := IntWalk.i64_in _ (by omega)
        have i3 : (0 : Int) ≤ (k : Int) - 1 := by omega
        have i4 : (k : Int) - 1 < (S.length : Int) := by omega
        have i5 : ((k : Int) - 1).toNat = k - 1 := by omega
        have hdn : ∀ n, Below w8.heap.size w8 (wr.drewN n) := fun n => ⟨hbr.os, hbr.tape, hbr.output, hbr.size, hbr.block⟩
        have f1 : ∀ n, (wr.drewN n).cell? ⟨b8, o8 + k * 2, none⟩ = some (.string x1) := fun n => by rw [(hdn n).cell (p := ⟨b8, _, none⟩) hb88]; exact g1
        have f2 : ∀ n, (wr.drewN n).cell? ⟨b8, o8 + (k - 1) * 2, none⟩ = some (.string y1) := fun n => by rw [(hdn n).cell (p := ⟨b8, _, none⟩) hb88]; exact g2
        clear g1 g2
        go_wp2_with fail
        go_quiet (fail)
        go_wp2_with fail
        go_roundw
        case rel => exact ⟨k + 1, by go_num, by omega, by omega, hdn _⟩
        case measure => simp [intOf]; omega
      · have hb1r := below_seq hb18 hbr
        have hrA := HA.out.below hb1r
        have hB13 := hbr.size
        have hsrcA := src_arg (P := Tryd.prog) Tryd.underlying25 hrA (labCells_one A)
        have i1 : ¬ (k : Int) < (S.length : Int) := by omega
        clear HST HL8
        go_upto_region 14 with (first | (at_builtin; refine wpList_append_src rfl (.tmp 87) (.tmp 88) _ _ rfl wr.heap.size EL _ 0 [] rfl (World.ownsRow_lit wr #[] 0 (Nat.le_refl _) (by decide) rfl) _ A.length (labCells A) rfl (by exact src_arg Tryd.underlying25 (argRow_below hrA (belowA (Below.refl _ _))) (labCells_one A)) (by unfold maxLen; omega) (by omega) (by simp) ?_; intro v9 w9 hown9 hgr9 _ _) | (at_builtin; refine wpList_append_src rfl _ _ _ _ rfl wr.heap.size EL _ _ _ rfl (hown9.alloc _) _ 1 [.string ⟨#[122]⟩, .string ⟨#[]⟩] rfl (by exact src_last (cs := #[.string ⟨#[122]⟩, .string ⟨#[]⟩]) Tryd.underlying25 1 1 2 rfl rfl (by simp [Value.oneCell'])) (by unfold maxLen; omega) (by omega) (by have := hgr9.size; simp at this ⊢; omega) ?_; intro v10 w10 hown10 hgr10 _ _))
        have b9 : Below wr.heap.size wr w9 := (belowA (Below.refl _ _)).grown hgr9 (by simp) (fun k hk => by
          cases hk
          exact Nat.le_refl _)
        have b10 : Below wr.heap.size wr w10 := (belowA b9).grown hgr10 (by have := b9.size; simp; omega) (fun k hk => (hown9.lt k hk).1)
        have hF : LRow w10 v10 (A ++ [(⟨#[122]⟩, ⟨#[]⟩)]) := by
          have h := argRow_owns hown10
          unfold LRow
          have e : labCells [((⟨#[122]⟩, ⟨#[]⟩) : Lab)] = [.string ⟨#[122]⟩, .string ⟨#[]⟩] := rfl
          rw [labCells_append, List.length_append, e]
          rw [Nat.zero_add, List.nil_append] at h
          exact h
        have hB10 := below_seq hb1r b10
        have hs10 := b10.size
        have HF := Lib.hid hF
        clear hF hown9 hown10 hgr9 hgr10 hb1r hB13 b9 hrA hsrcA
        obtain ⟨gF, cF, rfl, hcF, hcFm⟩ := HF.out.shape
        have hlF : (A ++ [((⟨#[122]⟩, ⟨#[]⟩) : Lab)]).length = A.length + 1 := by simp
        have HT := Lib.hid (fun W (hW : Below w10.heap.size w10 W) => by
          have h := argRow_take (HF.out.below hW) (k := A.length) (by omega)
          rw [labCells_append, List.take_left' (by rw [labCells_len])] at h
          exact h : ∀ W, Below w10.heap.size w10 W → LRow W (.slice gF A.length cF) A)
        rw [hlF] at hcF
        rw [hlF]
        have i2 : (0 : Int) ≤ (A.length : Int) := by omega
        have i3 : (A.length : Int) ≤ (cF : Int) := by omega
        have i4 : (A.length : Int) ≤ ((A.length + 1 : Nat) : Int) := by omega
        go_upto_region 15 with (go_at_call 28; refine (cN.out _ _ hB10 (HT.out _ (Below.refl _ _))).mono ?_; rintro e w11 ⟨⟨v11, rfl, ho11⟩, hb11⟩)
        obtain ⟨a11, c11, rfl⟩ := owns_slice ho11
        have HO := Lib.hid ho11
        have hB11 := below_seq hB10 hb11
        clear ho11
        go_wp2
        go_loopw [14] (fun iv wr => ∃ k : Nat, iv = .int .i64 k ∧ k ≤ S.length ∧ Below w10.heap.size w10 wr ∧ ∃ xs, wr.ownsRow w10.heap.size 47 2 (.slice a11 S.length c11) S.length xs) (fun iv _ => S.length - (intOf iv).toNat)
        case atStart => exact ⟨0, rfl, Nat.zero_le _, hb11, _, HO.out⟩
        case round =>
          obtain ⟨p, rfl, hp, hgr, xs, hxs⟩ := hrel
          by_cases hpl : p < S.length
          · obtain ⟨g, rfl, hg⟩ : ∃ g, a11 = some ⟨g, 0, none⟩ ∧ w10.heap.size ≤ g := by
              rcases hxs.2 with ⟨_, h0⟩ | ⟨g, c, cur, e, hb, hg, _⟩
              · omega
              · cases e
                exact ⟨g, rfl, hb⟩
            obtain ⟨x, hcp⟩ : ∃ x, wr.cell? ⟨g, p * 2, none⟩ = some x := ⟨xs[p * 2]'(by have := hxs.1; omega), by rw [hxs.cellAt (p * 2) (by omega), List.getElem?_eq_getElem]⟩
            have hfp := hxs.frozenAt (p * 2)
            have hst := Lib.hid (hxs.stored (p * 2) (.string ⟨#[99, 104, 97, 110, 103, 101, 100]⟩))
            have HGR := Lib.hid hgr
            clear hxs hgr
            have i1 : (0 : Int) ≤ (p : Int) := by omega
            have i2 : (p : Int) < (S.length : Int) := by omega
            go_wp2
            go_roundw
            case rel => exact ⟨p + 1, by go_num, by omega, HGR.out.grown hst.out.2 HGR.out.size (fun k hk => by cases hk; exact hg), _, hst.out.1⟩
            case measure => simp [intOf]; omega
          · have i1 : ¬ (p : Int) < (S.length : Int) := by omega
            go_upto_region 20 with (at_builtin; refine wpList_append_src rfl _ _ _ _ rfl w10.heap.size EL _ _ _ rfl (hxs.alloc _) _ 1 [.string ⟨#[109, 111, 114, 101]⟩, .string ⟨#[]⟩] rfl (by exact src_last (cs := #[.string ⟨#[109, 111, 114, 101]⟩, .string ⟨#[]⟩]) Tryd.underlying25 1 1 2 rfl rfl (by simp [Value.oneCell'])) (by unfold maxLen; omega) (by omega) (by have := hgr.size; simp at this ⊢; omega) ?_; intro v12 w12 hown12 hgr12 _ _)
            have b12 : Below w10.heap.size w10 w12 := (belowA hgr).grown hgr12 (by have := hgr.size; simp; omega) (fun k hk => (hxs.lt k hk).1)
            obtain ⟨a12, c12, rfl⟩ := owns_slice hown12
            have hB12 := below_seq hB10 b12
            obtain ⟨b8, o8, rfl, hb88, g1, _⟩ := (HF.out.below b12).at (k := A.length) (by omega)
            have hz : (A ++ [((⟨#[122]⟩, ⟨#[]⟩) : Lab)])[A.length]'(by omega) = (⟨#[122]⟩, ⟨#[]⟩) := by simp
            rw [hz] at g1
            have j1 : (A.length : Int) < ((A.length + 1 : Nat) : Int) := by omega
            have j2 : IntKind.i64.wrap ((S.length : Int) + 1) = ((S.length + 1 : Nat) : Int) := by rw [IntWalk.i64_in _ (by omega)]; omega
            have hdn : ∀ n, Below w12.heap.size w12 (w12.drewN n) := fun n => ⟨rfl, rfl, rfl, Nat.le_refl _, fun _ _ => rfl⟩
            have hsame := Lib.hid (fun W (hW : Below w12.heap.size w12 W) => same_self (HT.out W (below_seq b12 hW)) (HA.out.below (below_seq hB12 hW)))
            have hcell : ∀ W, Below w12.heap.size w12 W → W.cell? ⟨b8, o8 + A.length * 2, none⟩ = some (.string ⟨#[122]⟩) := fun W hW => by rw [hW.cell (p := ⟨b8, _, none⟩) hb88]; exact g1
            have hcz := fun n => hcell _ (hdn n)
            by_cases hE : E = 0
            · have hSA := HE.out hE
              subst hE
              have j3 : ((S.length : Int) == (A.length : Int)) = true := by simp; omega
              clear hSA
              go_wp2_with (go_at_call 32; refine (hsame.out _ (Below.refl _ _)).mono ?_; rintro e w13 ⟨rfl, hb13'⟩; have g2 := hcell _ hb13')
              go_ret
              exact ⟨rfl, below_seq hB12 hb13'⟩
            · have j3 : (E == 0) = false := by simpa using hE
              go_wp2_with (go_at_call 32; refine (hsame.out _ (Below.refl _ _)).mono ?_; rintro e w13 ⟨rfl, hb13'⟩; have g2 := hcell _ hb13')
              go_ret
              exact ⟨rfl, below_seq hB12 hb13'⟩
end Go.Proofs.YtkgnhimepcihpaaDoor
