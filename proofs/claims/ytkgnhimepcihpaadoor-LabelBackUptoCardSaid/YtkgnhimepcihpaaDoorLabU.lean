/-
  LabelBack's walk.
-/
import Derived.Test.YtkgnhimepcihpaaDoorLabQ
import Derived.Test.YtkgnhimepcihpaaDoorLabN
import Derived.Deep.CutRange
namespace Go.Proofs.YtkgnhimepcihpaaDoor
open Go.RowKit
theorem read_calls (s : ByteArray) (w : World) (hsh : w.ShapedOpen Tryd.prog) (hT : Tabs w) (hs : s.size ≤ 1048576) {E : Int} {M : List Lab} (hE : readE s.data.toList = E) (hM : readL s.data.toList = M) :
    Calls Tryd.prog 37 #[.string s] w fun e w' => (∃ v, e = .returned (.tuple #[v, .int .i64 E]) ∧ LRow w' v M) ∧ Below w.heap.size w w' := by
  subst hE hM
  exact (label_Read s w hsh hT hs).mono fun e w' ⟨⟨v, he, ho⟩, hb⟩ => ⟨⟨v, he, argRow_owns ho⟩, hb⟩
theorem turn_row {W : World} {B : Nat} {v : Value} {L : List Lab} {K : Nat} (hK : K ≤ L.length) (h : W.ownsRow B 47 2 v (0 + (L.length - K) + K) ([] ++ labCells (L.drop K) ++ labCells (L.take K))) : LRow W v (L.drop K ++ L.take K) := by
  have h := argRow_owns h
  unfold LRow
  rw [labCells_append, List.length_append, List.length_drop, List.length_take, Nat.min_eq_left hK]
  rw [Nat.zero_add, List.nil_append] at h
  exact h
theorem tolist_eq (a : ByteArray) : a.toList = a.data.toList := by
  first | exact toList_data a | exact Lib.toList_data a
theorem tolist_inj {a b : ByteArray} (h : a.toList = b.toList) : a.data.toList = b.data.toList := by rw [← tolist_eq, ← tolist_eq, h]
set_option maxRecDepth 100000 in
set_option maxHeartbeats 8000000 in
theorem back_walk (v : Value) (L : List Lab) (turn : Int) (s : ByteArray) (w : World) (hsh : w.ShapedOpen Tryd.prog) (hT : Tabs w) (hA : LRow w v L)
    (hs : ∀ x ∈ L, x.1.size ≤ 1000000000 ∧ x.2.size ≤ 1000000000) (hLn : L.length ≤ 1048576) (hsz : s.size ≤ 1048576)
    (hsp : ∃ a c, v = .slice a L.length c ∧ (0 < c → ∃ b off, a = some ⟨b, off, none⟩)) :
    Calls Tryd.prog 9 #[v, .int .i64 turn, .string s] w fun e w' => e = .returned (.bool true) ∧ Below w.heap.size w w' := by
  have EL : ElemT Tryd.prog 25 47 (.agg #[.string ⟨#[]⟩, .string ⟨#[]⟩]) 2 32 := ⟨Tryd.underlying25, by kernel_rfl, rfl, by decide⟩
  obtain ⟨aa, ca, rfl, hca, hca2⟩ := hA.shape
  unfold maxLen at hca2
  have hsp' : 0 < ca → ∃ b off, aa = some ⟨b, off, none⟩ := by
    obtain ⟨a, c, e, h⟩ := hsp
    obtain ⟨rfl, _, rfl⟩ := Value.slice.inj e
    exact h
  clear hsp
  have HA := Lib.hid hA
  have HS := Lib.hid hs
  clear hA hs
  obtain ⟨K, hK, hk'⟩ := umod turn L.length
  have cA := law08_awake w hsh hT
  have cRd := Lib.hid (fun W (hW : Below w.heap.size w W) => read_calls s W (shaped_below hsh hW) (Utf8Tabs_below hT hW) hsz rfl rfl)
  have cN := Lib.hid (fun W (hW : Below w.heap.size w W) => canon_calls _ L W (HA.out.below hW) (Utf8Tabs_below hT hW) HS.out hLn)
  have hpm := turn_perm L K
  have cT := Lib.hid (fun v W (hW : Below w.heap.size w W) (hr : LRow W v (L.drop K ++ L.take K)) => canon_calls v _ W hr (Utf8Tabs_below hT hW) (fun x hx => HS.out x (hpm.mem_iff.1 hx)) (by rw [hpm.length_eq]; exact hLn))
  have hcl := canonL_le L
  have hTE := canonE_perm hpm
  rw [canonL_perm2 hpm] at cT
  have HLEN := Lib.hid (fun h => canonL_len (L := L) h)
  have HBAD := Lib.hid (fun h => canonL_bad (L := L) h)
  have HRB := Lib.hid (fun (h : canonE L = 0) => read_back (canon_self h).1 (canon_self h).2)
  have HW1 := Lib.hid (fun (h : canonE L = 0) (hs : readE s.data.toList = 0) => write_one (canon_self h).1 hs)
  have HSM := Lib.hid (fun (h : canonE L = 0) => canon_small (canon_self h).1)
  have HOK := Lib.hid (fun h => read_ok (s := s.data.toList) h)
  have HRSM := Lib.hid (fun (h : readE s.data.toList = 0) => canon_small (read_ok h).2.2.1)
  generalize canonE L = E at *
  generalize canonE (L.drop K ++ L.take K) = E2 at *
  generalize canonL L = S at *
  generalize readL s.data.toList = M at *
  generalize hRE : readE s.data.toList = F at *
  have HRE := Lib.hid hRE
  clear hRE hpm
  go_enter Tryd.func9, Tryd.ntmps9
  go_upto_region 3 with (go_at_call 27; refine cA.mono ?_; rintro e w1 ⟨rfl, hb1⟩)
  clear cA
  go_upto_region 4 with (go_at_call 37; refine (cRd.out _ hb1).mono ?_; rintro e w2 ⟨⟨v2, rfl, hm2⟩, hb2⟩)
  have hb12 := below_seq hb1 hb2
  have HM := Lib.hid (fun W (hW : Below w2.heap.size w2 W) => hm2.below hW)
  clear hm2
  by_cases hF : F = 0
  case' pos =>
    obtain ⟨_, hwm, _, _⟩ := HOK.out hF
    have cW := fun W (hW : Below w2.heap.size w2 W) => label_Write _ M W (HM.out W hW) (by have := HRSM.out hF; omega)
    have e : (⟨(writeLab M).toArray⟩ : ByteArray) = s := ByteArray.ext (Array.toList_inj.1 (by rw [hwm]))
    rw [e] at cW
    have CW := Lib.hid cW
    clear cW e
    have HWM := Lib.hid hwm
    clear hwm
    subst hF
    go_upto_region 6 with (go_at_call 35; refine (CW.out _ (Below.refl _ _)).mono ?_; rintro e w3 ⟨rfl, hb3⟩)
    have hb13 := below_seq hb12 hb3
    have HM3 := Lib.hid (fun W (hW : Below w3.heap.size w3 W) => HM.out W (below_seq hb3 hW))
  case' neg =>
    have hFb : (F == 0) = false := by simpa using hF
    go_upto_region 6 with fail
    have hb13 := hb12
    have HM3 := HM
    generalize w2 = w3 at hb13 HM3 ⊢
  all_goals
    go_upto_region 7 with (go_at_call 28; refine (cN.out _ hb13).mono ?_; rintro e w4 ⟨⟨v4, rfl, ho4⟩, hb4⟩)
    have hb14 := below_seq hb13 hb4
    have hb34 := hb4
    obtain ⟨a4, c4, rfl⟩ := owns_slice ho4
    have HC := Lib.hid (fun W (hW : Below w4.heap.size w4 W) => (argRow_owns (owns_below ho4 hW) : LRow W (.slice a4 S.length c4) S))
    clear ho4
    go_upto_region 9 with fail
    have i0 : (0 : Int) ≤ (K : Int) := by omega
    have i1 : (K : Int) ≤ (L.length : Int) := by omega
    have i2 : (K : Int) ≤ (ca : Int) := by omega
    have hAL := HA.out.below hb14
    have HS1 := Lib.hid (fun a' c' (hc : L.length - K ≤ c' ∧ c' ≤ ca) (ha : ∀ b off, aa = some ⟨b, off, none⟩ → K < L.length → a' = some ⟨b, off + K * 2, none⟩) => src_arg (P := Tryd.prog) Tryd.underlying25 (hAL.drop (k := K) hK (a' := a') (c' := c') (m := L.length - K) rfl hc ha) (labCells_one _))
    rw [List.length_drop] at HS1
    clear hAL
    go_cut [12] from 45 to 49 (fun tv wx => wx.ownsRow w4.heap.size 47 2 tv (0 + (L.length - K)) ([] ++ labCells (L.drop K)) ∧ Below w4.heap.size w4 wx)
    case first =>
      by_cases q : K = ca
      case' pos =>
        subst q
        rcases aa with _ | p
      case' neg =>
        have q' : ¬ ca = K := fun e => q e.symm
        obtain ⟨b, off, rfl⟩ := hsp' (by omega)
      all_goals
        go_wp2_with (at_builtin; refine wpList_append_src rfl _ _ _ _ rfl w4.heap.size EL _ 0 [] rfl (World.ownsRow_nil _ _ _ _) _ (L.length - K) (labCells (L.drop K)) rfl (by exact HS1.out _ _ (by omega) (fun b off e h => by first | omega | (cases e; rfl))) (by unfold maxLen; omega) (by omega) (Nat.le_refl _) ?_; intro v5 w5 hown5 hgr5 _ _)
        go_meet
        first | exact ⟨hown5, (Below.refl _ _).grown hgr5 (Nat.le_refl _) (fun k hk => by cases hk)⟩ | exact ⟨by rw [show L.length - K = 0 by omega, List.drop_of_length_le (by omega)]; exact World.ownsRow_nil _ _ _ _, Below.refl _ _⟩
    case rest =>
      obtain ⟨ht5, hb5⟩ := hcut
      have hb15 := below_seq hb14 hb5
      have HS2 := src_arg (P := Tryd.prog) Tryd.underlying25 ((HA.out.below hb15).take (k := K) hK) (labCells_one _)
      rw [List.length_take, Nat.min_eq_left hK] at HS2
      go_upto_region 11 with (at_builtin; refine wpList_append_src rfl _ _ _ _ rfl w4.heap.size EL _ _ _ rfl ht5 _ K (labCells (L.take K)) rfl (by exact HS2) (by unfold maxLen; omega) (by omega) hb5.size ?_; intro v6 w6 hown6 hgr6 _ _)
      have hb6 : Below w4.heap.size w4 w6 := hb5.grown hgr6 hb5.size (fun k hk => (ht5.lt k hk).1)
      have hr6 := turn_row hK hown6
      have hb16 := below_seq hb14 hb6
      clear ht5 hown6 hgr6 HS2 HS1
      go_upto_region 12 with (go_at_call 28; refine (cT.out _ _ hb16 hr6).mono ?_; rintro e w7 ⟨⟨v7, rfl, ho7⟩, hb7⟩)
      have hb17 := below_seq hb16 hb7
      have hb47 := below_seq hb6 hb7
      have cS := Lib.hid (fun W (hW : Below w7.heap.size w7 W) => same_self (HC.out W (below_seq hb47 hW)) (show LRow W _ S from argRow_owns (owns_below ho7 hW)))
      clear ho7 hr6
      by_cases hE : E = 0
      · have hE2 := hTE.2 hE
        have HLN := Lib.hid (HLEN.out hE)
        obtain ⟨hr1, hr2⟩ := HRB.out hE
        have hsm := HSM.out hE
        subst hE hE2
        have cW := Lib.hid (fun W (hW : Below w4.heap.size w4 W) => label_Write _ S W (HC.out W hW) (by omega))
        have cR := Lib.hid (fun W (hW : Below w.heap.size w W) => read_calls ⟨(writeLab S).toArray⟩ W (shaped_below hsh hW) (Utf8Tabs_below hT hW) (by simp [ByteArray.size]; omega) hr1 hr2)
        go_upto_region 16 with (go_at_call 32; refine (cS.out _ (Below.refl _ _)).mono ?_; rintro e w8 ⟨rfl, hb8⟩)
        have hb18 := below_seq hb17 hb8
        have hb48 := below_seq hb47 hb8
        go_upto_region 17 with (first | (go_at_call 35; refine (cW.out _ hb48).mono ?_; rintro e w9 ⟨rfl, hb9⟩; have hb19 := below_seq hb18 hb9) | (go_at_call 37; refine (cR.out _ hb19).mono ?_; rintro e w10 ⟨⟨v10, rfl, hr10⟩, hb10⟩))
        have hb110 := below_seq hb19 hb10
        have hb410 := below_seq hb48 (below_seq hb9 hb10)
        have hb3w := below_seq hb34 hb410
        have cS2 := Lib.hid (fun W (hW : Below w10.heap.size w10 W) => same_self (hr10.below hW) (HC.out W (below_seq hb410 hW)))
        have hl2 : ((S.length : Int) == (L.length : Int)) = true := by have := HLN.out; simp; omega
        clear hr10 cS cR
        first
          | (have _hn := hFb
             go_wp2_with (go_at_call 32; refine (cS2.out _ (Below.refl _ _)).mono ?_; rintro e w11 ⟨rfl, hb11⟩)
             go_ret
             exact ⟨by first | rfl | simp, below_seq hb110 hb11⟩)
          | (have hd := HW1.out (by first | trivial | rfl) (by first | trivial | rfl)
             have hcz : (cmpLabs S M == 0) = decide (S = M) := by
               by_cases h : S = M
               · rw [decide_eq_true h, cmpLabs_zero.2 h]; rfl
               · rw [decide_eq_false h]
                 have : cmpLabs S M ≠ 0 := fun e => h (cmpLabs_zero.1 e)
                 simpa using this
             have hww : ((⟨(writeLab S).toArray⟩ : ByteArray).toList == s.toList) = decide (S = M) := by
               rw [← hd]
               by_cases h : writeLab S = s.data.toList
               · have e : (⟨(writeLab S).toArray⟩ : ByteArray) = s := ByteArray.ext (Array.toList_inj.1 (by rw [h]))
                 rw [e, decide_eq_true h]
                 simp
               · rw [decide_eq_false h]
                 simp only [beq_eq_false_iff_ne]
                 intro e
                 apply h
                 have e2 := tolist_inj e
                 rw [← e2]
             have cC := Lib.hid (fun W (hW : Below w10.heap.size w10 W) => label_Compare _ _ S M W (HC.out W (below_seq hb410 hW)) (HM3.out W (below_seq hb3w hW)))
             clear hd
             obtain ⟨D, hD⟩ : ∃ D, decide (S = M) = D := ⟨_, rfl⟩
             rw [hD] at hcz hww
             clear hD
             generalize cmpLabs S M = C at *
             generalize (⟨(writeLab S).toArray⟩ : ByteArray) = T at *
             cases D
             all_goals
               go_wp2_with (first | (go_at_call 32; refine (cS2.out _ (Below.refl _ _)).mono ?_; rintro e w11 ⟨rfl, hb11⟩; have hb411 := below_seq hb410 hb11) | (go_at_call 35; refine (cW.out _ hb411).mono ?_; rintro e w12 ⟨rfl, hb12'⟩; have hb112 := below_seq hb11 hb12') | (go_at_call 33; refine (cC.out _ hb112).mono ?_; rintro e w13 ⟨rfl, hb13'⟩))
               go_ret
               exact ⟨by first | rfl | simp, below_seq hb110 (below_seq hb112 hb13')⟩)
      · have hE2 : ¬ E2 = 0 := fun e => hE (hTE.1 e)
        have e1 : (E == 0) = false := by simpa using hE
        have e2 : (E2 == 0) = false := by simpa using hE2
        have HSN := Lib.hid (HBAD.out hE)
        go_upto_region 14 with (go_at_call 32; refine (cS.out _ (Below.refl _ _)).mono ?_; rintro e w8 ⟨rfl, hb8⟩)
        have hSn := HSN.out
        subst hSn
        go_wp2
        go_ret
        exact ⟨by first | rfl | simp, below_seq hb17 hb8⟩
end Go.Proofs.YtkgnhimepcihpaaDoor
