/-
  The reference's Canon.
-/
import Derived.Test.YtaimldndooijdaaGreatDoorLabJ
import Derived.Deep.CutBlock
namespace Go.Proofs.YtaimldndooijdaaGreatDoor
open Go.RowKit

theorem ins_distinct {P : List Lab} {x : Lab} {k : Nat} (hd : Distinct P) (hk : k ≤ (insAll P).length) (h1 : ∀ i (h : i < (insAll P).length), i < k → lessN (insAll P)[i] x = true)
    (h2 : ∀ h : k < (insAll P).length, lessN (insAll P)[k] x = false ∧ (insAll P)[k].1.toList ≠ x.1.toList) : Distinct (P ++ [x]) := by
  refine distinct_snoc.2 ⟨hd, fun y hy he => ?_⟩
  have hs := insAll_strict _ rfl hd
  obtain ⟨i, hi, rfl⟩ := List.mem_iff_getElem.1 ((insAll_perm P).mem_iff.2 hy)
  by_cases hik : i < k
  · exact less_ne (h1 i hi hik) he
  · obtain ⟨h3, h4⟩ := h2 (by omega)
    have h5 := less_total h3 h4
    by_cases e : i = k
    · subst e
      exact h4 he
    · have h6 := List.pairwise_iff_getElem.1 hs k i (by omega) hi (by omega)
      exact less_ne (less_trans h5 h6) he.symm
theorem ins_not {P : List Lab} {x : Lab} {k : Nat} (hk : k < (insAll P).length) (h : (insAll P)[k].1.toList = x.1.toList) : ¬ Distinct (P ++ [x]) := fun hd =>
  (distinct_snoc.1 hd).2 _ ((insAll_perm P).mem_iff.1 (List.getElem_mem hk)) h
theorem not_more {P : List Lab} {x : Lab} (h : ¬ Distinct P) : ¬ Distinct (P ++ [x]) := fun hd => h (distinct_snoc.1 hd).1
theorem canonE_bad {L : List Lab} {F : Int} (h16 : ¬ 16 < L.length) (h : firstBad L = F) (hF : F ≠ 0) : canonE L = F ∧ canonL L = [] := by
  have : canonE L = F := by unfold canonE; rw [if_neg h16, h, if_pos hF]
  exact ⟨this, canonL_bad (by rw [this]; exact hF)⟩
theorem row_ins {W : World} {B : Nat} {v : Value} {S : List Lab} {x1 x2 : ByteArray} {j k : Nat} (hk : S.length = k) (hj : j ≤ k) (hi : insN (x1, x2) S = S.take j ++ (x1, x2) :: S.drop j)
    (h : W.ownsRow B 62 2 v (0 + j + 1 + (k - j)) ([] ++ labCells (S.take j) ++ [.string x1, .string x2] ++ labCells (S.drop j))) : W.ownsRow B 62 2 v (k + 1) (labCells (insN (x1, x2) S)) := by
  rw [hi, labCells_append]
  have e : labCells ((x1, x2) :: S.drop j) = [.string x1, .string x2] ++ labCells (S.drop j) := rfl
  rw [e, ← List.append_assoc]
  have e2 : 0 + j + 1 + (k - j) = k + 1 := by omega
  rw [e2, List.nil_append] at h
  exact h
/-- What both come to. -/
def CanonV (L : List Lab) (B : Nat) (w' : World) (e : Ending) : Prop := ∃ v', e = .returned (.tuple #[v', .int .i64 (canonE L)]) ∧ w'.ownsRow B 62 2 v' (canonL L).length (labCells (canonL L))
theorem canonV_bad {L : List Lab} {F : Int} (h16 : ¬ 16 < L.length) (h : firstBad L = F) (hF : F ≠ 0) (B : Nat) (w' : World) : CanonV L B w' (.returned (.tuple #[.slice none 0 0, .int .i64 F])) := by
  obtain ⟨h1, h2⟩ := canonE_bad h16 h hF
  exact ⟨_, by rw [h1], by rw [h2]; exact World.ownsRow_nil _ _ _ _⟩
set_option maxRecDepth 100000 in
set_option maxHeartbeats 4000000 in
theorem ref_Canon (v : Value) (L : List Lab) (w : World) (h : LRow w v L) (hs : ∀ x ∈ L, x.1.size ≤ 1000000000 ∧ x.2.size ≤ 1000000000) (hLn : L.length ≤ 1048576) :
    Calls Tryz.prog 46 #[v] w fun e w' => CanonV L w.heap.size w' e ∧ Below w.heap.size w w' := by
  have EL : ElemT Tryz.prog 45 62 (.agg #[.string ⟨#[]⟩, .string ⟨#[]⟩]) 2 32 := ⟨Tryz.underlying45, by kernel_rfl, rfl, by decide⟩
  obtain ⟨aa, ca, rfl, hca, hca2⟩ := h.shape
  unfold maxLen at hca2
  have HA := Lib.hid h
  have HS := Lib.hid hs
  clear h hs
  by_cases h16 : 16 < L.length
  · have hi : (16 : Int) < (L.length : Int) := by omega
    have hpost : CanonV L w.heap.size w (.returned (.tuple #[.slice none 0 0, .int .i64 3])) := by
      have he : canonE L = 3 := by unfold canonE; rw [if_pos h16]
      exact ⟨_, by rw [he], by rw [canonL_bad (by omega)]; exact World.ownsRow_nil _ _ _ _⟩
    have HP := Lib.hid hpost
    clear hpost
    go_enter Tryz.func46, Tryz.ntmps46
    go_wp2
    go_ret2
    exact ⟨HP.out, Below.refl _ _⟩
  · have hi : ¬ (16 : Int) < (L.length : Int) := by omega
    obtain ⟨F, hF⟩ : ∃ F, firstBad L = F := ⟨_, rfl⟩
    have HF := Lib.hid hF
    have HBAD := Lib.hid (fun h => canonV_bad h16 hF h w.heap.size : ∀ h : F ≠ 0, ∀ w', CanonV L w.heap.size w' (.returned (.tuple #[.slice none 0 0, .int .i64 F])))
    have HTW := Lib.hid (fun (h0 : F = 0) (hd : ¬ Distinct L) w' => by
      have he : canonE L = 6 := by unfold canonE; rw [if_neg h16, hF, if_neg (by simp [h0]), if_neg hd]
      exact ⟨_, by rw [he], by rw [canonL_bad (by omega)]; exact World.ownsRow_nil _ _ _ _⟩ : F = 0 → ¬ Distinct L → ∀ w', CanonV L w.heap.size w' (.returned (.tuple #[.slice none 0 0, .int .i64 6])))
    have HOK := Lib.hid (fun (h0 : F = 0) (hd : Distinct L) v w' (ho : w'.ownsRow w.heap.size 62 2 v (insAll L).length (labCells (insAll L))) => by
      have he : canonE L = 0 := by unfold canonE; rw [if_neg h16, hF, if_neg (by simp [h0]), if_pos hd]
      have hl : canonL L = insAll L := by unfold canonL; rw [if_pos he]
      exact ⟨v, by rw [he], by rw [hl]; exact ho⟩ : F = 0 → Distinct L → ∀ v w', w'.ownsRow w.heap.size 62 2 v (insAll L).length (labCells (insAll L)) → CanonV L w.heap.size w' (.returned (.tuple #[v, .int .i64 0])))
    clear hF
    have cN := Lib.hid (fun (s : ByteArray) W (hs : s.size ≤ 1000000000) => ref_Name s W (by unfold maxLen; omega))
    have cV := Lib.hid (fun (s : ByteArray) W (hs : s.size ≤ 1000000000) => ref_Runes s W (by omega))
    have hl0 : (insAll (L.take 0)).length = 0 := by simp [insAll]
    go_enter Tryz.func46, Tryz.ntmps46
    go_wp2
    go_loopw [4, 5, 6] (fun ov tv iv wr => ∃ k : Nat, iv = .int .i64 k ∧ k ≤ L.length ∧ firstBad (L.drop k) = F ∧ tv = .bool (!decide (Distinct (L.take k))) ∧ wr.ownsRow w.heap.size 62 2 ov k (labCells (insAll (L.take k))) ∧ Below w.heap.size w wr) (fun _ _ iv _ => L.length - (intOf iv).toNat)
    case atStart => exact ⟨0, rfl, Nat.zero_le _, HF.out, by simp [Distinct], World.ownsRow_nil _ _ _ _, Below.refl _ _⟩
    case round =>
      obtain ⟨k, rfl, hk, hf, rfl, ho, hb⟩ := hrel
      obtain ⟨ao, co, rfl⟩ := owns_slice ho
      have hlP : (insAll (L.take k)).length = k := by rw [(insAll_perm _).length_eq, List.length_take]; omega
      by_cases hlt : k < L.length
      · have htk : L.take (k + 1) = L.take k ++ [L[k]] := List.take_succ_eq_append_getElem hlt
        obtain ⟨ba, oa, rfl, hba, ga1, ga2⟩ := HA.out.at hlt
        have hst := firstBad_at hlt
        rw [hf] at hst
        have hsz := HS.out _ (List.getElem_mem hlt)
        have HG := Lib.hid (fun W (hW : Below wr.heap.size wr W) => (⟨by rw [(below_seq hb hW).cell (p := ⟨ba, _, none⟩) hba]; exact ga1, by rw [(below_seq hb hW).cell (p := ⟨ba, _, none⟩) hba]; exact ga2⟩ : W.cell? ⟨ba, oa + k * 2, none⟩ = some (.string L[k].1) ∧ W.cell? ⟨ba, oa + k * 2 + 1, none⟩ = some (.string L[k].2)))
        have HST := Lib.hid hst
        have HTK := Lib.hid htk
        clear hst hf ga1 ga2 htk
        generalize L[k] = x at *
        obtain ⟨x1, x2⟩ := x
        simp only at *
        obtain ⟨hs1, hs2⟩ := hsz
        have i0 : (0 : Int) ≤ (k : Int) := by omega
        have i1 : (k : Int) < (L.length : Int) := by omega
        have hval : labBad (x1, x2) = if nameOk x1 = false then 6 else if 256 < x2.size then 4 else if Lib.validD x2.data.toList = false then 8 else 0 := rfl
        have cN1 := Lib.hid (fun W => cN.out x1 W hs1)
        have cV1 := Lib.hid (fun W => cV.out x2 W hs2)
        rw [hval] at HST
        clear hval
        obtain ⟨b1, h1⟩ : ∃ b, nameOk x1 = b := ⟨_, rfl⟩
        obtain ⟨b2, h2⟩ : ∃ b, Lib.validD x2.data.toList = b := ⟨_, rfl⟩
        rw [h1, h2] at HST
        rw [h1] at cN1
        rw [h2] at cV1
        clear h1 h2
        obtain ⟨q0, q1⟩ := HG.out _ (Below.refl _ _)
        cases b1
        · have hF6 : F = 6 := by have := HST.out; simpa using this
          subst hF6
          have hp := HBAD.out (by omega)
          have HP := Lib.hid hp
          clear hp
          go_wp2_with (go_at_call 70; refine (cN1.out _).mono ?_; rintro e w2 ⟨rfl, rfl⟩)
          go_ret2
          exact ⟨HP.out _, hb⟩
        · by_cases h256 : 256 < x2.size
          · have hF4 : F = 4 := by have := HST.out; simpa [h256] using this
            subst hF4
            have HP := Lib.hid (HBAD.out (by omega))
            have i256 : (256 : Int) < (x2.size : Int) := by omega
            go_wp2_with (go_at_call 70; refine (cN1.out _).mono ?_; rintro e w2 ⟨rfl, rfl⟩)
            go_ret2
            exact ⟨HP.out _, hb⟩
          · have i256 : ¬ (256 : Int) < (x2.size : Int) := by omega
            cases b2
            · have hF8 : F = 8 := by have := HST.out; simpa [h256] using this
              subst hF8
              have HP := Lib.hid (HBAD.out (by omega))
              go_wp2_with (first | (go_at_call 70; refine (cN1.out _).mono ?_; rintro e w2 ⟨rfl, rfl⟩) | (go_at_call 48; refine (cV1.out _).mono ?_; rintro e w3 ⟨v3, rfl, _, hb3⟩))
              go_ret2
              exact ⟨HP.out _, below_seq hb hb3⟩
            · have hFn : firstBad (L.drop (k + 1)) = F := by have := HST.out; simpa [h256] using this.symm
              have HFN := Lib.hid hFn
              clear hFn HST
              go_upto_region 15 with (first | (go_at_call 70; refine (cN1.out _).mono ?_; rintro e w2 ⟨rfl, rfl⟩) | (go_at_call 48; refine (cV1.out _).mono ?_; rintro e w3 ⟨v3, rfl, _, hb3⟩))
              generalize L.take k = P at *
              obtain ⟨S, hSP⟩ : ∃ S, insAll P = S := ⟨_, rfl⟩
              rw [hSP] at hlP ho
              have HSP := Lib.hid hSP
              have HIN := Lib.hid (fun j => ins_distinct (P := P) (x := (x1, x2)) (k := j))
              have HNO := Lib.hid (fun j => ins_not (P := P) (x := (x1, x2)) (k := j))
              rw [hSP] at HIN HNO
              clear hSP
              have HR3 := Lib.hid (fun W (hW : Below w3.heap.size w3 W) => (by unfold LRow; rw [hlP]; exact argRow_owns (owns_below (owns_below ho hb3) hW) : LRow W (.slice ao k co) S))
              have HG3 := Lib.hid (fun W (hW : Below w3.heap.size w3 W) => HG.out W (below_seq hb3 hW))
              obtain ⟨_, _, eao, hco1, hco2⟩ := (HR3.out _ (Below.refl _ _)).shape
              have hco : k ≤ co ∧ co ≤ maxLen := by
                have e := (Value.slice.inj eao).2.2
                exact ⟨by omega, by rw [e]; exact hco2⟩
              clear eao hco1 hco2
              have hAO : (ao = none ∧ co = 0) ∨ ∃ g, ao = some ⟨g, 0, none⟩ := by
                rcases ho.2 with ⟨e, _⟩ | ⟨g, c, cur, e, _⟩
                · exact .inl ⟨(Value.slice.inj e).1, (Value.slice.inj e).2.2⟩
                · exact .inr ⟨g, (Value.slice.inj e).1⟩
              clear ho HG q0 q1 cN1 cV1 HBAD HTW HOK
              go_upto_block 2 with fail
              go_cut [9] from 45 to 63 (fun av wx => ∃ j : Nat, av = .int .i64 j ∧ j ≤ k ∧ (∀ i (h : i < S.length), i < j → lessN S[i] (x1, x2) = true) ∧ (∀ h : j < S.length, lessN S[j] (x1, x2) = false) ∧ Below w3.heap.size w3 wx)
              case first =>
                go_wp2_with fail
                go_loopw [9] (fun iv wr2 => ∃ j : Nat, iv = .int .i64 j ∧ j ≤ k ∧ (∀ i (h : i < S.length), i < j → lessN S[i] (x1, x2) = true) ∧ Below w3.heap.size w3 wr2) (fun iv _ => k - (intOf iv).toNat)
                case atStart => exact ⟨0, rfl, Nat.zero_le _, fun i h hi => absurd hi (by omega), Below.refl _ _⟩
                case round =>
                  obtain ⟨j, rfl, hj, hless, hbr⟩ := hrel
                  have hdn : ∀ n, Below wr.heap.size wr (wr.drewN n) := fun n => ⟨rfl, rfl, rfl, Nat.le_refl _, fun _ _ => rfl⟩
                  have fm : ∀ n, (wr.drewN n).cell? ⟨ba, oa + k * 2, none⟩ = some (.string x1) := fun n => (HG3.out _ (below_seq hbr (hdn n))).1
                  have j0 : (0 : Int) ≤ (j : Int) := by omega
                  by_cases hjk : j < k
                  · have j1 : (j : Int) < (k : Int) := by omega
                    obtain ⟨b8, o8, e8, hb88, g1, _⟩ := (HR3.out _ hbr).at (k := j) (by omega)
                    subst e8
                    have f1 : ∀ n, (wr.drewN n).cell? ⟨b8, o8 + j * 2, none⟩ = some (.string (S[j]'(by omega)).1) := fun n => by rw [(hdn n).cell (p := ⟨b8, o8 + j * 2, none⟩) hb88]; exact g1
                    obtain ⟨q, hq⟩ : ∃ q, lessN (S[j]'(by omega)) (x1, x2) = q := ⟨_, rfl⟩
                    have hq' : Op.bytesLess (S[j]'(by omega)).1.toList x1.toList = q := hq
                    clear g1
                    have HQ := Lib.hid hq
                    have HLESS := Lib.hid hless
                    clear hq hless
                    obtain ⟨y1, hy1⟩ : ∃ y, (S[j]'(by omega)).1 = y := ⟨_, rfl⟩
                    rw [hy1] at f1 hq'
                    clear hy1
                    cases q
                    · go_wp2_with fail
                      go_quiet (fail)
                      go_wp2_with fail
                      go_meet
                      exact ⟨j, rfl, by omega, HLESS.out, fun _ => HQ.out, below_seq hbr (hdn _)⟩
                    · go_wp2_with fail
                      go_quiet (fail)
                      go_wp2_with fail
                      go_roundw
                      case rel => exact ⟨j + 1, by go_num, by omega, fun i h hi => Decidable.byCases (fun e : i = j => by subst e; exact HQ.out) (fun e => HLESS.out i h (by omega)), below_seq hbr (hdn _)⟩
                      case measure => simp [intOf]; omega
                  · have j1 : ¬ (j : Int) < (k : Int) := by omega
                    go_wp2_with fail
                    go_quiet (fail)
                    go_wp2_with fail
                    go_meet
                    exact ⟨j, rfl, by omega, hless, fun h => absurd h (by omega), below_seq hbr (hdn _)⟩
              case rest =>
                obtain ⟨j, rfl, hj, hless, hge, hbz⟩ := hcut
                have hdz : ∀ n, Below wc.heap.size wc (wc.drewN n) := fun n => ⟨rfl, rfl, rfl, Nat.le_refl _, fun _ _ => rfl⟩
                have fm : ∀ n, (wc.drewN n).cell? ⟨ba, oa + k * 2, none⟩ = some (.string x1) := fun n => (HG3.out _ (below_seq hbz (hdz n))).1
                have hins := Lib.hid (insN_at (x1, x2) S j (by omega) hless hge)
                have j0 : (0 : Int) ≤ (j : Int) := by omega
                have j2 : (j : Int) ≤ (k : Int) := by omega
                have j3 : (j : Int) ≤ (co : Int) := by omega
                by_cases hjk : j < k
                · have j1 : (j : Int) < (k : Int) := by omega
                  obtain ⟨b8, o8, e8, hb88, g1, _⟩ := (HR3.out _ hbz).at (k := j) (by omega)
                  subst e8
                  have f1 : ∀ n, (wc.drewN n).cell? ⟨b8, o8 + j * 2, none⟩ = some (.string (S[j]'(by omega)).1) := fun n => by rw [(hdz n).cell (p := ⟨b8, o8 + j * 2, none⟩) hb88]; exact g1
                  have hfe : (S[j]'(by omega)).1.toList = x1.toList → decide (Distinct (P ++ [(x1, x2)])) = false := fun h => decide_eq_false (HNO.out j (by omega) h)
                  have hfn : (S[j]'(by omega)).1.toList ≠ x1.toList → decide (Distinct (P ++ [(x1, x2)])) = decide (Distinct P) := fun h => by
                    by_cases hd : Distinct P
                    · rw [decide_eq_true hd, decide_eq_true (HIN.out j hd (by omega) hless (fun h' => ⟨hge h', h⟩))]
                    · rw [decide_eq_false hd, decide_eq_false (not_more hd)]
                  clear g1
                  obtain ⟨y1, hy1⟩ : ∃ y, (S[j]'(by omega)).1 = y := ⟨_, rfl⟩
                  rw [hy1] at f1 hfe hfn
                  clear hy1 hless hge
                  obtain ⟨q, hq⟩ : ∃ q, (y1.toList == x1.toList) = q := ⟨_, rfl⟩
                  cases q
                  · have HDI := Lib.hid (show (!decide (Distinct P)) = (!decide (Distinct (P ++ [(x1, x2)]))) by rw [hfn (by simpa using hq)])
                    clear hfe hfn
                    go_wp2_with fail
                    go_quiet (fail)
                    go_upto_region 20 with fail
                    have hbq := below_seq hbz (hdz nq)
                    clear f1 fm hdz
                    generalize wc.drewN nq = wz at *
                    have qz := HG3.out _ hbq
                    obtain ⟨qz0, qz1⟩ := qz
                    have hzr := HR3.out _ hbq
                    have hs1' := src_arg (P := Tryz.prog) Tryz.underlying45 (hzr.take (k := j) (by omega)) (labCells_one _)
                    rw [List.length_take, Nat.min_eq_left (by omega)] at hs1'
                    have HS1 := Lib.hid hs1'
                    have HS2 := Lib.hid (fun W (hW : Below wz.heap.size wz W) => src_arg (P := Tryz.prog) Tryz.underlying45 ((HR3.out _ (below_seq hbq hW)).drop (k := j) (by omega) (a' := some ⟨b8, o8 + j * 2, none⟩) (c' := co - j) (m := k - j) (by omega) (by omega) (fun b off e _ => by cases e; rfl)) (labCells_one _))
                    rw [List.length_drop, hlP] at HS2
                    clear hs1' hzr
                    go_wp2_with (first
                      | (at_builtin; refine wpList_append_src rfl _ _ _ _ rfl wz.heap.size EL _ 0 [] rfl (World.ownsRow_nil _ _ _ _) _ j (labCells (S.take j)) rfl (by exact HS1.out) (by unfold maxLen; omega) (by omega) (Nat.le_refl _) ?_; intro v4 w4 hown4 hgr4 _ _; have b4 : Below wz.heap.size wz w4 := (Below.refl _ _).grown hgr4 (Nat.le_refl _) (fun k hk => by cases hk); obtain ⟨qa0, qa1⟩ := HG3.out _ (below_seq hbq b4))
                      | (at_builtin; refine wpList_append_src rfl _ _ _ _ rfl wz.heap.size EL _ _ _ rfl (hown4.alloc _) _ 1 [.string x1, .string x2] rfl (by exact src_last (cs := #[.string x1, .string x2]) Tryz.underlying45 1 1 2 rfl rfl (by simp [Value.oneCell'])) (by unfold maxLen; omega) (by omega) (by have := b4.size; simp; omega) ?_; intro v5 w5 hown5 hgr5 _ _; have b5 : Below wz.heap.size wz w5 := (belowA b4).grown hgr5 (by have := b4.size; simp; omega) (fun k hk => (hown4.lt k hk).1))
                      | (at_builtin; refine wpList_append_src rfl _ _ _ _ rfl wz.heap.size EL _ _ _ rfl hown5 _ (k - j) (labCells (S.drop j)) rfl (by exact HS2.out _ b5) (by unfold maxLen; omega) (by omega) b5.size ?_; intro v6 w6 hown6 hgr6 _ _; have b6 : Below wz.heap.size wz w6 := b5.grown hgr6 b5.size (fun k hk => (hown5.lt k hk).1)))
                    go_roundw
                    case rel => exact ⟨k + 1, by go_num, by omega, HFN.out, by rw [HTK.out]; exact congrArg Value.bool HDI.out, by rw [HTK.out, insAll_snoc, HSP.out]; exact owns_base (row_ins hlP hj hins.out hown6) (below_seq (below_seq hb hb3) hbq).size, below_seq (below_seq hb hb3) (below_seq hbq b6)⟩
                    case measure => simp [intOf]; omega
                  · have HDI := Lib.hid (show true = (!decide (Distinct (P ++ [(x1, x2)]))) by rw [hfe (by simpa using hq)]; rfl)
                    clear hfe hfn
                    go_wp2_with fail
                    go_quiet (fail)
                    go_upto_region 20 with fail
                    have hbq := below_seq hbz (hdz nq)
                    clear f1 fm hdz
                    generalize wc.drewN nq = wz at *
                    have qz := HG3.out _ hbq
                    obtain ⟨qz0, qz1⟩ := qz
                    have hzr := HR3.out _ hbq
                    have hs1' := src_arg (P := Tryz.prog) Tryz.underlying45 (hzr.take (k := j) (by omega)) (labCells_one _)
                    rw [List.length_take, Nat.min_eq_left (by omega)] at hs1'
                    have HS1 := Lib.hid hs1'
                    have HS2 := Lib.hid (fun W (hW : Below wz.heap.size wz W) => src_arg (P := Tryz.prog) Tryz.underlying45 ((HR3.out _ (below_seq hbq hW)).drop (k := j) (by omega) (a' := some ⟨b8, o8 + j * 2, none⟩) (c' := co - j) (m := k - j) (by omega) (by omega) (fun b off e _ => by cases e; rfl)) (labCells_one _))
                    rw [List.length_drop, hlP] at HS2
                    clear hs1' hzr
                    go_wp2_with (first
                      | (at_builtin; refine wpList_append_src rfl _ _ _ _ rfl wz.heap.size EL _ 0 [] rfl (World.ownsRow_nil _ _ _ _) _ j (labCells (S.take j)) rfl (by exact HS1.out) (by unfold maxLen; omega) (by omega) (Nat.le_refl _) ?_; intro v4 w4 hown4 hgr4 _ _; have b4 : Below wz.heap.size wz w4 := (Below.refl _ _).grown hgr4 (Nat.le_refl _) (fun k hk => by cases hk); obtain ⟨qa0, qa1⟩ := HG3.out _ (below_seq hbq b4))
                      | (at_builtin; refine wpList_append_src rfl _ _ _ _ rfl wz.heap.size EL _ _ _ rfl (hown4.alloc _) _ 1 [.string x1, .string x2] rfl (by exact src_last (cs := #[.string x1, .string x2]) Tryz.underlying45 1 1 2 rfl rfl (by simp [Value.oneCell'])) (by unfold maxLen; omega) (by omega) (by have := b4.size; simp; omega) ?_; intro v5 w5 hown5 hgr5 _ _; have b5 : Below wz.heap.size wz w5 := (belowA b4).grown hgr5 (by have := b4.size; simp; omega) (fun k hk => (hown4.lt k hk).1))
                      | (at_builtin; refine wpList_append_src rfl _ _ _ _ rfl wz.heap.size EL _ _ _ rfl hown5 _ (k - j) (labCells (S.drop j)) rfl (by exact HS2.out _ b5) (by unfold maxLen; omega) (by omega) b5.size ?_; intro v6 w6 hown6 hgr6 _ _; have b6 : Below wz.heap.size wz w6 := b5.grown hgr6 b5.size (fun k hk => (hown5.lt k hk).1)))
                    go_roundw
                    case rel => exact ⟨k + 1, by go_num, by omega, HFN.out, by rw [HTK.out]; exact congrArg Value.bool HDI.out, by rw [HTK.out, insAll_snoc, HSP.out]; exact owns_base (row_ins hlP hj hins.out hown6) (below_seq (below_seq hb hb3) hbq).size, below_seq (below_seq hb hb3) (below_seq hbq b6)⟩
                    case measure => simp [intOf]; omega
                · have j1 : ¬ (j : Int) < (k : Int) := by omega
                  obtain rfl : j = k := by omega
                  have HDI := Lib.hid (show (!decide (Distinct P)) = (!decide (Distinct (P ++ [(x1, x2)]))) by
                    by_cases hd : Distinct P
                    · rw [decide_eq_true hd, decide_eq_true (HIN.out j hd (by omega) hless (fun h' => absurd h' (by omega)))]
                    · rw [decide_eq_false hd, decide_eq_false (not_more hd)])
                  clear hless hge
                  go_wp2_with fail
                  go_quiet (fail)
                  go_upto_region 20 with fail
                  rcases hAO with ⟨rfl, rfl⟩ | ⟨g, rfl⟩
                  · obtain rfl : j = 0 := by omega
                    have hbq := below_seq hbz (hdz nq)
                    clear fm hdz
                    generalize wc.drewN nq = wz at *
                    have qz := HG3.out _ hbq
                    obtain ⟨qz0, qz1⟩ := qz
                    simp only [Nat.zero_mul, Nat.add_zero] at qz0 qz1
                    have hzr := HR3.out _ hbq
                    have hs1' := src_arg (P := Tryz.prog) Tryz.underlying45 (hzr.take (k := 0) (by omega)) (labCells_one _)
                    rw [List.length_take, Nat.min_eq_left (by omega)] at hs1'
                    have HS1 := Lib.hid hs1'
                    have HS2 := Lib.hid (fun W a c (hc : c ≤ maxLen) => src_arg (P := Tryz.prog) Tryz.underlying45 (LRow.nil W a c hc) (labCells_one []))
                    clear hs1' hzr
                    go_wp2_with (first
                      | (at_builtin; refine wpList_append_src rfl _ _ _ _ rfl wz.heap.size EL _ 0 [] rfl (World.ownsRow_nil _ _ _ _) _ 0 (labCells (S.take 0)) rfl (by exact HS1.out) (by unfold maxLen; omega) (by omega) (Nat.le_refl _) ?_; intro v4 w4 hown4 hgr4 _ _; have b4 : Below wz.heap.size wz w4 := (Below.refl _ _).grown hgr4 (Nat.le_refl _) (fun k hk => by cases hk); obtain ⟨qa0, qa1⟩ := HG3.out _ (below_seq hbq b4); simp only [Nat.zero_mul, Nat.add_zero] at qa0 qa1)
                      | (at_builtin; refine wpList_append_src rfl _ _ _ _ rfl wz.heap.size EL _ _ _ rfl (hown4.alloc _) _ 1 [.string x1, .string x2] rfl (by exact src_last (cs := #[.string x1, .string x2]) Tryz.underlying45 1 1 2 rfl rfl (by simp [Value.oneCell'])) (by unfold maxLen; omega) (by omega) (by have := b4.size; simp; omega) ?_; intro v5 w5 hown5 hgr5 _ _; have b5 : Below wz.heap.size wz w5 := (belowA b4).grown hgr5 (by have := b4.size; simp; omega) (fun k hk => (hown4.lt k hk).1))
                      | (at_builtin; refine wpList_append_src rfl _ _ _ _ rfl wz.heap.size EL _ _ _ rfl hown5 _ 0 [] rfl (by exact HS2.out _ _ _ (by omega)) (by unfold maxLen; omega) (by omega) b5.size ?_; intro v6 w6 hown6 hgr6 _ _; have b6 : Below wz.heap.size wz w6 := b5.grown hgr6 b5.size (fun k hk => (hown5.lt k hk).1)))
                    go_roundw
                    case rel => exact ⟨0 + 1, by go_num, by omega, HFN.out, by rw [HTK.out]; exact congrArg Value.bool HDI.out, by rw [HTK.out, insAll_snoc, HSP.out]; exact owns_base (row_ins hlP hj hins.out (by rw [List.drop_of_length_le (by omega), Nat.sub_self]; exact hown6)) (below_seq (below_seq hb hb3) hbq).size, below_seq (below_seq hb hb3) (below_seq hbq b6)⟩
                    case measure => simp [intOf]; omega
                  · by_cases q2 : j = co
                    case' pos => subst q2
                    case' neg => have q2b : ¬ co = j := fun e => q2 e.symm
                    all_goals
                      have hbq := below_seq hbz (hdz nq)
                      clear fm hdz
                      generalize wc.drewN nq = wz at *
                      have qz := HG3.out _ hbq
                      obtain ⟨qz0, qz1⟩ := qz
                      have hzr := HR3.out _ hbq
                      have hs1' := src_arg (P := Tryz.prog) Tryz.underlying45 (hzr.take (k := j) (by omega)) (labCells_one _)
                      rw [List.length_take, Nat.min_eq_left (by omega)] at hs1'
                      have HS1 := Lib.hid hs1'
                      have HS2 := Lib.hid (fun W a c (hc : c ≤ maxLen) => src_arg (P := Tryz.prog) Tryz.underlying45 (LRow.nil W a c hc) (labCells_one []))
                      clear hs1' hzr
                      go_wp2_with (first
                        | (at_builtin; refine wpList_append_src rfl _ _ _ _ rfl wz.heap.size EL _ 0 [] rfl (World.ownsRow_nil _ _ _ _) _ j (labCells (S.take j)) rfl (by exact HS1.out) (by unfold maxLen; omega) (by omega) (Nat.le_refl _) ?_; intro v4 w4 hown4 hgr4 _ _; have b4 : Below wz.heap.size wz w4 := (Below.refl _ _).grown hgr4 (Nat.le_refl _) (fun k hk => by cases hk); obtain ⟨qa0, qa1⟩ := HG3.out _ (below_seq hbq b4))
                        | (at_builtin; refine wpList_append_src rfl _ _ _ _ rfl wz.heap.size EL _ _ _ rfl (hown4.alloc _) _ 1 [.string x1, .string x2] rfl (by exact src_last (cs := #[.string x1, .string x2]) Tryz.underlying45 1 1 2 rfl rfl (by simp [Value.oneCell'])) (by unfold maxLen; omega) (by omega) (by have := b4.size; simp; omega) ?_; intro v5 w5 hown5 hgr5 _ _; have b5 : Below wz.heap.size wz w5 := (belowA b4).grown hgr5 (by have := b4.size; simp; omega) (fun k hk => (hown4.lt k hk).1))
                        | (at_builtin; refine wpList_append_src rfl _ _ _ _ rfl wz.heap.size EL _ _ _ rfl hown5 _ 0 [] rfl (by exact HS2.out _ _ _ (by omega)) (by unfold maxLen; omega) (by omega) b5.size ?_; intro v6 w6 hown6 hgr6 _ _; have b6 : Below wz.heap.size wz w6 := b5.grown hgr6 b5.size (fun k hk => (hown5.lt k hk).1)))
                      go_roundw
                      case rel => exact ⟨j + 1, by go_num, by omega, HFN.out, by rw [HTK.out]; exact congrArg Value.bool HDI.out, by rw [HTK.out, insAll_snoc, HSP.out]; exact owns_base (row_ins hlP hj hins.out (by rw [List.drop_of_length_le (by omega), Nat.sub_self]; exact hown6)) (below_seq (below_seq hb hb3) hbq).size, below_seq (below_seq hb hb3) (below_seq hbq b6)⟩
                      case measure => simp [intOf]; omega
      · have hkl : k = L.length := by omega
        have i1 : ¬ (k : Int) < (L.length : Int) := by omega
        subst hkl
        rw [List.drop_of_length_le (Nat.le_refl _)] at hf
        rw [List.take_length] at *
        have hF0 : F = 0 := hf.symm
        by_cases hd : Distinct L
        · have hdd : decide (Distinct L) = true := decide_eq_true hd
          have HP := Lib.hid (HOK.out hF0 hd _ _ (by rw [hlP]; exact ho))
          rw [hdd]
          go_wp2
          go_ret2
          exact ⟨HP.out, hb⟩
        · have hdd : decide (Distinct L) = false := decide_eq_false hd
          have HP := Lib.hid (HTW.out hF0 hd)
          rw [hdd]
          go_wp2
          go_ret2
          exact ⟨HP.out _, hb⟩
end Go.Proofs.YtaimldndooijdaaGreatDoor
