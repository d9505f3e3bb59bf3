/-
  garnerref18.Size: by the same rows as the program's own.
-/
import Derived.Test.YthmhmckkkceclaaDoorRexSl
import Derived.Laws.Cover4
import Derived.Test.YthmhmckkkceclaaDoorRexAl
namespace Go.Proofs.YthmhmckkkceclaaDoor
open Go.RowKit
theorem sizesL_app : ∀ (l m : List Nd) (sz : List Int), sizesL sz (l ++ m) = sizesL (sizesL sz l) m
  | [], _, _ => rfl
  | n :: l, m, sz => by
    show sizesL (sz ++ [sizeK sz (timesOf n) n.kids 1]) (l ++ m) = _
    rw [sizesL_app l m]
    rfl
theorem sizesL_pre : ∀ (l : List Nd) (sz : List Int), ∃ t, sizesL sz l = sz ++ t
  | [], sz => ⟨[], by simp [sizesL]⟩
  | n :: l, sz => by
    obtain ⟨t, ht⟩ := sizesL_pre l (sz ++ [sizeK sz (timesOf n) n.kids 1])
    exact ⟨sizeK sz (timesOf n) n.kids 1 :: t, by show sizesL (sz ++ [sizeK sz (timesOf n) n.kids 1]) l = _; rw [ht]; simp⟩
theorem sizes_low (l : List Nd) (k j : Nat) (hj : j < k) (hk : k ≤ l.length) : (sizesL [] l).getD j 0 = (sizesL [] (l.take k)).getD j 0 := by
  have e : sizesL [] l = sizesL (sizesL [] (l.take k)) (l.drop k) := by rw [← sizesL_app, List.take_append_drop]
  obtain ⟨t, ht⟩ := sizesL_pre (l.drop k) (sizesL [] (l.take k))
  rw [e, ht]
  have hl : (sizesL [] (l.take k)).length = k := by rw [sizesL_len, List.length_take]; simp; omega
  rw [List.getD_eq_getElem?_getD, List.getD_eq_getElem?_getD, List.getElem?_append_left (by omega)]
theorem sizes_at (l : List Nd) (k : Nat) (hk : k < l.length) : (sizesL [] l).getD k 0 = sizeK (sizesL [] (l.take k)) (timesOf l[k]) l[k].kids 1 := by
  rw [sizes_low l (k + 1) k (Nat.lt_succ_self _) hk, List.take_succ_eq_append_getElem hk, sizesL_snoc]
  have hl : (sizesL [] (l.take k)).length = k := by rw [sizesL_len, List.length_take]; simp; omega
  rw [List.getD_eq_getElem?_getD, List.getElem?_append_right (by omega), hl]
  simp
set_option maxRecDepth 100000 in
set_option maxHeartbeats 40000000 in
theorem ref_Size (B : Nat) (v : Value) (Z : List NdL) (w : World) (h : NOwn w B v Z) (hwf : Wf (Z.map Prod.fst)) (hlim : NLim (Z.map Prod.fst)) (_hl : Z.length ≤ 1000) (k : Nat) :
    k < Z.length → Calls Tryd.prog 22 #[v, .int .i64 (k : Int)] w fun e w' => e = .returned (.int .i64 ((sizesL [] (Z.map Prod.fst)).getD k 0)) ∧ w = w' := by
  induction k using Nat.strongRecOn with
  | _ k IH =>
    intro hkz
    have hkm : k < (Z.map Prod.fst).length := by rw [List.length_map]; exact hkz
    have hat := sizes_at (Z.map Prod.fst) k hkm
    obtain ⟨va, vc, rfl⟩ := owns_slice h.own
    obtain ⟨ng, nc, hnn, hncell⟩ := nds_at h hkz
    cases hnn
    obtain ⟨z0, z1, z2, z3, z4⟩ := hncell w (Below.refl _ _)
    have hkids := (show _ ∧ _ from h.parts Z[k] (List.getElem_mem hkz))
    have hwk : ∀ kid ∈ Z[k].1.kids, kid < k := hwf k Z[k].1 (by rw [List.getElem?_map, List.getElem?_eq_getElem hkz]; rfl)
    have hlk := hlim Z[k].1 (List.mem_map.2 ⟨Z[k], List.getElem_mem hkz, rfl⟩)
    have hTR := times_range hlk
    have HLOW := Lib.hid (fun j (hj : j < k) => sizes_low (Z.map Prod.fst) k j hj (Nat.le_of_lt hkm))
    rw [List.getElem_map] at hat
    obtain ⟨FS, hFS⟩ : ∃ FS : List Int, sizesL [] (Z.map Prod.fst) = FS := ⟨_, rfl⟩
    rw [hFS] at hat HLOW IH ⊢
    have hSO : SzOk (sizesL [] ((Z.map Prod.fst).take k)) := sizesL_ok _ _ (fun m hm => hlim m (List.mem_of_mem_take hm)) (fun x hx => by simp at hx)
    obtain ⟨A, hA⟩ : ∃ A : List Int, sizesL [] ((Z.map Prod.fst).take k) = A := ⟨_, rfl⟩
    rw [hA] at hat HLOW hSO
    obtain ⟨R, hR⟩ : ∃ R, FS.getD k 0 = R := ⟨_, rfl⟩
    rw [hR] at hat ⊢
    obtain ⟨zz, hzz⟩ : ∃ zz, Z[k] = zz := ⟨_, rfl⟩
    rw [hzz] at z0 z1 z2 z3 z4 hkids hwk hlk hTR hat
    obtain ⟨⟨kd, ks, lo, hi, st⟩, kv, tv⟩ := zz
    simp only at z0 z1 z2 z3 z4 hwk hlk hTR hat
    obtain ⟨ka, kc, hkv⟩ := owns_slice hkids.1
    simp only at hkv
    subst hkv
    obtain ⟨kl, hkl⟩ : ∃ kl, ks.length = kl := ⟨_, rfl⟩
    obtain ⟨n, hn⟩ : ∃ n, Z.length = n := ⟨_, rfl⟩
    rw [hkl] at z1
    have hl := _hl
    rw [hn] at hl hkz IH ⊢
    have HKA : Hid (∀ jj (hj : jj < ks.length), ∃ g c, Value.slice ka kl kc = .slice (some ⟨g, 0, none⟩) kl c ∧ w.cell? ⟨g, jj, none⟩ = some (.int .i64 (ks[jj] : Int))) := Lib.hid (fun jj hj => by
      obtain ⟨g, c, e, hc⟩ := kid_at hkids.1 hj
      simp only at e
      rw [hkl] at e
      exact ⟨g, c, e, hc w (Below.refl _ _)⟩)
    have hkl100 : kl ≤ 9223372036854775807 := by
      obtain ⟨-, a', c', e, h1, h2, -⟩ := argRow_owns hkids.1
      have h1' : ks.length ≤ c' := h1
      rw [hkl] at h1'
      unfold maxLen at h2
      omega
    have HKL := Lib.hid hkl
    have HWK := Lib.hid hwk
    have HSO := Lib.hid hSO
    have HAT := Lib.hid hat
    have HIH := Lib.hid IH
    have HTR := Lib.hid hTR
    clear h hwf hlim hkids hwk hkl hzz hncell hSO hat IH hn hR hFS hA hkm hTR
    by_cases h5 : kd = 5
    · have d1 : decide (kd = 5) = true := decide_eq_true h5
      by_cases h6 : 1 < hi
      · have d2 : decide ((1 : Int) < hi) = true := decide_eq_true h6
        have d3 : decide (hi < (0 : Int)) = false := decide_eq_false (by omega)

        have HTMO : Hid (timesOf ⟨kd, ks, lo, hi, st⟩ = hi) := Lib.hid (by unfold timesOf; simp only; rw [if_pos h5, if_neg (by omega)]; omega)
        have hT9 : (1 : Int) ≤ hi ∧ hi ≤ (9 : Int) := by have := HTR.out; rw [HTMO.out] at this; exact this
        go_enter Tryd.func22, Tryd.ntmps22
        go_upto_region 3 with fail
        go_loopw [5, 6] (fun tv iv wr => ∃ (jj : Nat) (c : Int), jj ≤ kl ∧ tv = .int .i64 c ∧ iv = .int .i64 (jj : Int) ∧ sizeK A (hi) (ks.take jj) 1 = c ∧ 1 ≤ c ∧ c ≤ 2000 ∧ wr = w) (fun _ iv _ => kl - (intOf iv).toNat)
        case atStart => exact ⟨0, 1, by omega, rfl, rfl, rfl, by omega, by omega, rfl⟩
        case round =>
          obtain ⟨jj, c, hjj, rfl, rfl, hc, hc1, hc2, hwr⟩ := hrel
          subst hwr
          have HC := Lib.hid hc
          clear hc
          by_cases hjl : jj < kl
          · obtain ⟨kg, kcc, hkk, hkc⟩ := HKA.out jj (by rw [HKL.out]; exact hjl)
            cases hkk
            have hkid : ks[jj]'(by rw [HKL.out]; exact hjl) < k := HWK.out _ (List.getElem_mem _)
            have hnext : sizeK A (hi) (ks.take (jj + 1)) 1 = min 2000 (c + (hi) * A.getD (ks[jj]'(by rw [HKL.out]; exact hjl)) 0) := by
              rw [List.take_succ_eq_append_getElem (by rw [HKL.out]; exact hjl), sizeK_snoc, HC.out]
            have hga := sz_getD HSO.out (ks[jj]'(by rw [HKL.out]; exact hjl))
            have hCK := HIH.out (ks[jj]'(by rw [HKL.out]; exact hjl)) hkid (by omega)
            rw [HLOW.out _ hkid] at hCK
            generalize hkd : ks[jj]'(by rw [HKL.out]; exact hjl) = kid at *
            have HNX := Lib.hid hnext
            generalize A.getD kid 0 = av at *
            have hmul : 0 ≤ (hi) * av ∧ (hi) * av ≤ 18000 := ⟨Int.mul_nonneg (by omega) hga.1, Int.le_trans (Int.mul_le_mul_of_nonneg_right hT9.2 hga.1) (by omega)⟩
            clear hnext hkd
            obtain ⟨P, hP⟩ : ∃ P, (hi) * av = P := ⟨_, rfl⟩
            rw [hP] at hmul
            have HPP := Lib.hid hP
            by_cases hov : 2000 < c + P
            · have ho : decide ((2000 : Int) < c + P) = true := decide_eq_true hov
              go_wp2_with (go_at_call 22; refine hCK.mono ?_; rintro e w6 ⟨rfl, rfl⟩)
              go_roundw
              case rel => exact ⟨jj + 1, 2000, by omega, rfl, by go_num, by rw [HNX.out, HPP.out]; omega, by omega, by omega, trivial⟩
              case measure => simp [intOf]; omega
            · have ho : decide ((2000 : Int) < c + P) = false := decide_eq_false hov
              go_wp2_with (go_at_call 22; refine hCK.mono ?_; rintro e w6 ⟨rfl, rfl⟩)
              go_roundw
              case rel => exact ⟨jj + 1, c + P, by omega, rfl, by go_num, by rw [HNX.out, HPP.out]; omega, by omega, by omega, trivial⟩
              case measure => simp [intOf]; omega
          · obtain rfl : jj = kl := by omega
            go_wp2_with fail
            go_ret
            have hk1 : ks.take jj = ks := List.take_of_length_le (by rw [HKL.out]; exact Nat.le_refl _)
            have hcc := HC.out
            rw [hk1] at hcc
            exact ⟨by rw [HAT.out, HTMO.out, hcc]; rfl, rfl⟩
      · have d2 : decide ((1 : Int) < hi) = false := decide_eq_false h6
        by_cases h7 : hi < 0
        · have d3 : decide (hi < (0 : Int)) = true := decide_eq_true h7
          by_cases h8 : 0 < lo
          · have d4 : decide ((0 : Int) < lo) = true := decide_eq_true h8
            have hl2 := hlk.2.1

            have HTMO : Hid (timesOf ⟨kd, ks, lo, hi, st⟩ = lo + 1) := Lib.hid (by unfold timesOf; simp only; rw [if_pos h5, if_pos h7])
            have hT9 : (1 : Int) ≤ lo + 1 ∧ lo + 1 ≤ (9 : Int) := by have := HTR.out; rw [HTMO.out] at this; exact this
            go_enter Tryd.func22, Tryd.ntmps22
            go_upto_region 3 with fail
            go_loopw [5, 6] (fun tv iv wr => ∃ (jj : Nat) (c : Int), jj ≤ kl ∧ tv = .int .i64 c ∧ iv = .int .i64 (jj : Int) ∧ sizeK A (lo + 1) (ks.take jj) 1 = c ∧ 1 ≤ c ∧ c ≤ 2000 ∧ wr = w) (fun _ iv _ => kl - (intOf iv).toNat)
            case atStart => exact ⟨0, 1, by omega, rfl, rfl, rfl, by omega, by omega, rfl⟩
            case round =>
              obtain ⟨jj, c, hjj, rfl, rfl, hc, hc1, hc2, hwr⟩ := hrel
              subst hwr
              have HC := Lib.hid hc
              clear hc
              by_cases hjl : jj < kl
              · obtain ⟨kg, kcc, hkk, hkc⟩ := HKA.out jj (by rw [HKL.out]; exact hjl)
                cases hkk
                have hkid : ks[jj]'(by rw [HKL.out]; exact hjl) < k := HWK.out _ (List.getElem_mem _)
                have hnext : sizeK A (lo + 1) (ks.take (jj + 1)) 1 = min 2000 (c + (lo + 1) * A.getD (ks[jj]'(by rw [HKL.out]; exact hjl)) 0) := by
                  rw [List.take_succ_eq_append_getElem (by rw [HKL.out]; exact hjl), sizeK_snoc, HC.out]
                have hga := sz_getD HSO.out (ks[jj]'(by rw [HKL.out]; exact hjl))
                have hCK := HIH.out (ks[jj]'(by rw [HKL.out]; exact hjl)) hkid (by omega)
                rw [HLOW.out _ hkid] at hCK
                generalize hkd : ks[jj]'(by rw [HKL.out]; exact hjl) = kid at *
                have HNX := Lib.hid hnext
                generalize A.getD kid 0 = av at *
                have hmul : 0 ≤ (lo + 1) * av ∧ (lo + 1) * av ≤ 18000 := ⟨Int.mul_nonneg (by omega) hga.1, Int.le_trans (Int.mul_le_mul_of_nonneg_right hT9.2 hga.1) (by omega)⟩
                clear hnext hkd
                obtain ⟨P, hP⟩ : ∃ P, (lo + 1) * av = P := ⟨_, rfl⟩
                rw [hP] at hmul
                have HPP := Lib.hid hP
                by_cases hov : 2000 < c + P
                · have ho : decide ((2000 : Int) < c + P) = true := decide_eq_true hov
                  go_wp2_with (go_at_call 22; refine hCK.mono ?_; rintro e w6 ⟨rfl, rfl⟩)
                  go_roundw
                  case rel => exact ⟨jj + 1, 2000, by omega, rfl, by go_num, by rw [HNX.out, HPP.out]; omega, by omega, by omega, trivial⟩
                  case measure => simp [intOf]; omega
                · have ho : decide ((2000 : Int) < c + P) = false := decide_eq_false hov
                  go_wp2_with (go_at_call 22; refine hCK.mono ?_; rintro e w6 ⟨rfl, rfl⟩)
                  go_roundw
                  case rel => exact ⟨jj + 1, c + P, by omega, rfl, by go_num, by rw [HNX.out, HPP.out]; omega, by omega, by omega, trivial⟩
                  case measure => simp [intOf]; omega
              · obtain rfl : jj = kl := by omega
                go_wp2_with fail
                go_ret
                have hk1 : ks.take jj = ks := List.take_of_length_le (by rw [HKL.out]; exact Nat.le_refl _)
                have hcc := HC.out
                rw [hk1] at hcc
                exact ⟨by rw [HAT.out, HTMO.out, hcc]; rfl, rfl⟩
          · have d4 : decide ((0 : Int) < lo) = false := decide_eq_false h8

            have HTMO : Hid (timesOf ⟨kd, ks, lo, hi, st⟩ = 1) := Lib.hid (by unfold timesOf; simp only; rw [if_pos h5, if_pos h7]; have := hlk.1; omega)
            have hT9 : (1 : Int) ≤ 1 ∧ 1 ≤ (9 : Int) := by have := HTR.out; rw [HTMO.out] at this; exact this
            go_enter Tryd.func22, Tryd.ntmps22
            go_upto_region 3 with fail
            go_loopw [5, 6] (fun tv iv wr => ∃ (jj : Nat) (c : Int), jj ≤ kl ∧ tv = .int .i64 c ∧ iv = .int .i64 (jj : Int) ∧ sizeK A (1) (ks.take jj) 1 = c ∧ 1 ≤ c ∧ c ≤ 2000 ∧ wr = w) (fun _ iv _ => kl - (intOf iv).toNat)
            case atStart => exact ⟨0, 1, by omega, rfl, rfl, rfl, by omega, by omega, rfl⟩
            case round =>
              obtain ⟨jj, c, hjj, rfl, rfl, hc, hc1, hc2, hwr⟩ := hrel
              subst hwr
              have HC := Lib.hid hc
              clear hc
              by_cases hjl : jj < kl
              · obtain ⟨kg, kcc, hkk, hkc⟩ := HKA.out jj (by rw [HKL.out]; exact hjl)
                cases hkk
                have hkid : ks[jj]'(by rw [HKL.out]; exact hjl) < k := HWK.out _ (List.getElem_mem _)
                have hnext : sizeK A (1) (ks.take (jj + 1)) 1 = min 2000 (c + (1) * A.getD (ks[jj]'(by rw [HKL.out]; exact hjl)) 0) := by
                  rw [List.take_succ_eq_append_getElem (by rw [HKL.out]; exact hjl), sizeK_snoc, HC.out]
                have hga := sz_getD HSO.out (ks[jj]'(by rw [HKL.out]; exact hjl))
                have hCK := HIH.out (ks[jj]'(by rw [HKL.out]; exact hjl)) hkid (by omega)
                rw [HLOW.out _ hkid] at hCK
                generalize hkd : ks[jj]'(by rw [HKL.out]; exact hjl) = kid at *
                have HNX := Lib.hid hnext
                generalize A.getD kid 0 = av at *
                have hmul : 0 ≤ (1) * av ∧ (1) * av ≤ 18000 := ⟨Int.mul_nonneg (by omega) hga.1, Int.le_trans (Int.mul_le_mul_of_nonneg_right hT9.2 hga.1) (by omega)⟩
                clear hnext hkd
                obtain ⟨P, hP⟩ : ∃ P, (1) * av = P := ⟨_, rfl⟩
                rw [hP] at hmul
                have HPP := Lib.hid hP
                by_cases hov : 2000 < c + P
                · have ho : decide ((2000 : Int) < c + P) = true := decide_eq_true hov
                  go_wp2_with (go_at_call 22; refine hCK.mono ?_; rintro e w6 ⟨rfl, rfl⟩)
                  go_roundw
                  case rel => exact ⟨jj + 1, 2000, by omega, rfl, by go_num, by rw [HNX.out, HPP.out]; omega, by omega, by omega, trivial⟩
                  case measure => simp [intOf]; omega
                · have ho : decide ((2000 : Int) < c + P) = false := decide_eq_false hov
                  go_wp2_with (go_at_call 22; refine hCK.mono ?_; rintro e w6 ⟨rfl, rfl⟩)
                  go_roundw
                  case rel => exact ⟨jj + 1, c + P, by omega, rfl, by go_num, by rw [HNX.out, HPP.out]; omega, by omega, by omega, trivial⟩
                  case measure => simp [intOf]; omega
              · obtain rfl : jj = kl := by omega
                go_wp2_with fail
                go_ret
                have hk1 : ks.take jj = ks := List.take_of_length_le (by rw [HKL.out]; exact Nat.le_refl _)
                have hcc := HC.out
                rw [hk1] at hcc
                exact ⟨by rw [HAT.out, HTMO.out, hcc]; rfl, rfl⟩
        · have d3 : decide (hi < (0 : Int)) = false := decide_eq_false h7

          have HTMO : Hid (timesOf ⟨kd, ks, lo, hi, st⟩ = 1) := Lib.hid (by unfold timesOf; simp only; rw [if_pos h5, if_neg h7]; omega)
          have hT9 : (1 : Int) ≤ 1 ∧ 1 ≤ (9 : Int) := by have := HTR.out; rw [HTMO.out] at this; exact this
          go_enter Tryd.func22, Tryd.ntmps22
          go_upto_region 3 with fail
          go_loopw [5, 6] (fun tv iv wr => ∃ (jj : Nat) (c : Int), jj ≤ kl ∧ tv = .int .i64 c ∧ iv = .int .i64 (jj : Int) ∧ sizeK A (1) (ks.take jj) 1 = c ∧ 1 ≤ c ∧ c ≤ 2000 ∧ wr = w) (fun _ iv _ => kl - (intOf iv).toNat)
          case atStart => exact ⟨0, 1, by omega, rfl, rfl, rfl, by omega, by omega, rfl⟩
          case round =>
            obtain ⟨jj, c, hjj, rfl, rfl, hc, hc1, hc2, hwr⟩ := hrel
            subst hwr
            have HC := Lib.hid hc
            clear hc
            by_cases hjl : jj < kl
            · obtain ⟨kg, kcc, hkk, hkc⟩ := HKA.out jj (by rw [HKL.out]; exact hjl)
              cases hkk
              have hkid : ks[jj]'(by rw [HKL.out]; exact hjl) < k := HWK.out _ (List.getElem_mem _)
              have hnext : sizeK A (1) (ks.take (jj + 1)) 1 = min 2000 (c + (1) * A.getD (ks[jj]'(by rw [HKL.out]; exact hjl)) 0) := by
                rw [List.take_succ_eq_append_getElem (by rw [HKL.out]; exact hjl), sizeK_snoc, HC.out]
              have hga := sz_getD HSO.out (ks[jj]'(by rw [HKL.out]; exact hjl))
              have hCK := HIH.out (ks[jj]'(by rw [HKL.out]; exact hjl)) hkid (by omega)
              rw [HLOW.out _ hkid] at hCK
              generalize hkd : ks[jj]'(by rw [HKL.out]; exact hjl) = kid at *
              have HNX := Lib.hid hnext
              generalize A.getD kid 0 = av at *
              have hmul : 0 ≤ (1) * av ∧ (1) * av ≤ 18000 := ⟨Int.mul_nonneg (by omega) hga.1, Int.le_trans (Int.mul_le_mul_of_nonneg_right hT9.2 hga.1) (by omega)⟩
              clear hnext hkd
              obtain ⟨P, hP⟩ : ∃ P, (1) * av = P := ⟨_, rfl⟩
              rw [hP] at hmul
              have HPP := Lib.hid hP
              by_cases hov : 2000 < c + P
              · have ho : decide ((2000 : Int) < c + P) = true := decide_eq_true hov
                go_wp2_with (go_at_call 22; refine hCK.mono ?_; rintro e w6 ⟨rfl, rfl⟩)
                go_roundw
                case rel => exact ⟨jj + 1, 2000, by omega, rfl, by go_num, by rw [HNX.out, HPP.out]; omega, by omega, by omega, trivial⟩
                case measure => simp [intOf]; omega
              · have ho : decide ((2000 : Int) < c + P) = false := decide_eq_false hov
                go_wp2_with (go_at_call 22; refine hCK.mono ?_; rintro e w6 ⟨rfl, rfl⟩)
                go_roundw
                case rel => exact ⟨jj + 1, c + P, by omega, rfl, by go_num, by rw [HNX.out, HPP.out]; omega, by omega, by omega, trivial⟩
                case measure => simp [intOf]; omega
            · obtain rfl : jj = kl := by omega
              go_wp2_with fail
              go_ret
              have hk1 : ks.take jj = ks := List.take_of_length_le (by rw [HKL.out]; exact Nat.le_refl _)
              have hcc := HC.out
              rw [hk1] at hcc
              exact ⟨by rw [HAT.out, HTMO.out, hcc]; rfl, rfl⟩
    · have d1 : decide (kd = 5) = false := decide_eq_false h5

      have HTMO : Hid (timesOf ⟨kd, ks, lo, hi, st⟩ = 1) := Lib.hid (by unfold timesOf; simp only; exact if_neg h5)
      have hT9 : (1 : Int) ≤ 1 ∧ 1 ≤ (9 : Int) := by have := HTR.out; rw [HTMO.out] at this; exact this
      go_enter Tryd.func22, Tryd.ntmps22
      go_upto_region 3 with fail
      go_loopw [5, 6] (fun tv iv wr => ∃ (jj : Nat) (c : Int), jj ≤ kl ∧ tv = .int .i64 c ∧ iv = .int .i64 (jj : Int) ∧ sizeK A (1) (ks.take jj) 1 = c ∧ 1 ≤ c ∧ c ≤ 2000 ∧ wr = w) (fun _ iv _ => kl - (intOf iv).toNat)
      case atStart => exact ⟨0, 1, by omega, rfl, rfl, rfl, by omega, by omega, rfl⟩
      case round =>
        obtain ⟨jj, c, hjj, rfl, rfl, hc, hc1, hc2, hwr⟩ := hrel
        subst hwr
        have HC := Lib.hid hc
        clear hc
        by_cases hjl : jj < kl
        · obtain ⟨kg, kcc, hkk, hkc⟩ := HKA.out jj (by rw [HKL.out]; exact hjl)
          cases hkk
          have hkid : ks[jj]'(by rw [HKL.out]; exact hjl) < k := HWK.out _ (List.getElem_mem _)
          have hnext : sizeK A (1) (ks.take (jj + 1)) 1 = min 2000 (c + (1) * A.getD (ks[jj]'(by rw [HKL.out]; exact hjl)) 0) := by
            rw [List.take_succ_eq_append_getElem (by rw [HKL.out]; exact hjl), sizeK_snoc, HC.out]
          have hga := sz_getD HSO.out (ks[jj]'(by rw [HKL.out]; exact hjl))
          have hCK := HIH.out (ks[jj]'(by rw [HKL.out]; exact hjl)) hkid (by omega)
          rw [HLOW.out _ hkid] at hCK
          generalize hkd : ks[jj]'(by rw [HKL.out]; exact hjl) = kid at *
          have HNX := Lib.hid hnext
          generalize A.getD kid 0 = av at *
          have hmul : 0 ≤ (1) * av ∧ (1) * av ≤ 18000 := ⟨Int.mul_nonneg (by omega) hga.1, Int.le_trans (Int.mul_le_mul_of_nonneg_right hT9.2 hga.1) (by omega)⟩
          clear hnext hkd
          obtain ⟨P, hP⟩ : ∃ P, (1) * av = P := ⟨_, rfl⟩
          rw [hP] at hmul
          have HPP := Lib.hid hP
          by_cases hov : 2000 < c + P
          · have ho : decide ((2000 : Int) < c + P) = true := decide_eq_true hov
            go_wp2_with (go_at_call 22; refine hCK.mono ?_; rintro e w6 ⟨rfl, rfl⟩)
            go_roundw
            case rel => exact ⟨jj + 1, 2000, by omega, rfl, by go_num, by rw [HNX.out, HPP.out]; omega, by omega, by omega, trivial⟩
            case measure => simp [intOf]; omega
          · have ho : decide ((2000 : Int) < c + P) = false := decide_eq_false hov
            go_wp2_with (go_at_call 22; refine hCK.mono ?_; rintro e w6 ⟨rfl, rfl⟩)
            go_roundw
            case rel => exact ⟨jj + 1, c + P, by omega, rfl, by go_num, by rw [HNX.out, HPP.out]; omega, by omega, by omega, trivial⟩
            case measure => simp [intOf]; omega
        · obtain rfl : jj = kl := by omega
          go_wp2_with fail
          go_ret
          have hk1 : ks.take jj = ks := List.take_of_length_le (by rw [HKL.out]; exact Nat.le_refl _)
          have hcc := HC.out
          rw [hk1] at hcc
          exact ⟨by rw [HAT.out, HTMO.out, hcc]; rfl, rfl⟩
end Go.Proofs.YthmhmckkkceclaaDoor
/-
  garnerref18.Same: true of equal trees.
-/
namespace Go.Proofs.YthmhmckkkceclaaDoor
open Go.RowKit
theorem wp_region_quiet_list {P : Program} {id : Nat} {Q : Exit → Act → World → Prop} {a : Act} {w : World} {l : List Oper} (hm : P.follows .mixedOrders = true) (hB : Region.lexB .any l.toArray = true)
    (h : wpQuiet P l.toArray (fun w' => w' = w.drew) (fun a' => ∀ w', w' = w.drew → Q .normal a' w') l a) : (Code.region id l.toArray true).wp P Q a w :=
  wp_region_quiet (C := fun w' => w' = w.drew) hm hB rfl (by simpa using h)
set_option maxRecDepth 100000 in
theorem conv_set {w : World} {B : Nat} {tv : Value} {st : List Int} (h : w.ownsRow B 21 1 tv st.length (st.map rCell)) : (convert 31 9 tv).run Tryd.prog w = .ok (.string (runesBytes st)) w := by
  by_cases h0 : 0 < st.length
  · obtain ⟨g, c, rfl, hB, hg, -, -, hl, hc⟩ := owns_some h h0
    have := run_convert_runes (P := Tryd.prog) w 31 9 21 ⟨g, 0, none⟩ st.length c st (Nat.le_refl _) rfl rfl rfl (fun j hj => by
      have := hc j (by rw [List.length_map]; exact hj)
      rw [List.getElem_map] at this
      rw [Go.WideShapes.add_plain, Nat.zero_add, List.getD_eq_getElem?_getD, List.getElem?_eq_getElem hj]
      exact this)
    rw [List.take_of_length_le (Nat.le_refl _)] at this
    exact this
  · have hs : st = [] := List.length_eq_zero_iff.1 (by omega)
    subst hs
    rcases h.2 with ⟨rfl, _⟩ | ⟨g, cap, cur, rfl, hB, hg, h1, h2, h3, h4⟩
    · exact run_convert_runes_nil (P := Tryd.prog) w 31 9 21 _ _ rfl rfl rfl
    · exact run_convert_runes (P := Tryd.prog) w 31 9 21 ⟨g, 0, none⟩ 0 cap [] (Nat.le_refl _) rfl rfl rfl (fun j hj => by simp at hj)
set_option maxRecDepth 100000 in
set_option maxHeartbeats 40000000 in
theorem ref_Same (B B' : Nat) (v v' : Value) (Z Z' : List NdL) (w : World) (h : NOwn w B v Z) (h' : NOwn w B' v' Z') (he : Z.map Prod.fst = Z'.map Prod.fst) (hl : Z.length ≤ 100000) :
    Calls Tryd.prog 11 #[v, v'] w fun e w' => e = .returned (.bool true) ∧ Below w.heap.size w w' := by
  have hle : Z'.length = Z.length := by have := congrArg List.length he; simpa using this.symm
  obtain ⟨va, vc, rfl⟩ := owns_slice h.own
  obtain ⟨va', vc', rfl⟩ := owns_slice h'.own
  have HE : Hid (∀ k (hk : k < Z.length) (hk' : k < Z'.length), Z[k].1 = Z'[k].1) := Lib.hid (fun k hk hk' => by
    have := congrArg (fun l => l[k]?) he
    simp only [List.getElem?_map, List.getElem?_eq_getElem hk, List.getElem?_eq_getElem hk'] at this
    exact Option.some.inj this)
  have H := Lib.hid h
  have H' := Lib.hid h'
  rw [hle]
  obtain ⟨n, hn⟩ : ∃ n, Z.length = n := ⟨_, rfl⟩
  rw [hn] at hl hle ⊢
  have HN := Lib.hid hn
  have HN' := Lib.hid hle
  clear h h' he hn hle
  go_enter Tryd.func11, Tryd.ntmps11
  go_upto_region 4 with fail
  go_loopw [5] (fun iv wr => ∃ k : Nat, k ≤ n ∧ iv = .int .i64 (k : Int) ∧ Below w.heap.size w wr) (fun iv _ => n - (intOf iv).toNat)
  case atStart => exact ⟨0, by omega, rfl, Below.refl _ _⟩
  case round =>
    obtain ⟨k, hk, rfl, hbr⟩ := hrel
    by_cases hlt : k < n
    · have hkz : k < Z.length := by rw [HN.out]; exact hlt
      have hkz' : k < Z'.length := by rw [HN'.out]; exact hlt
      obtain ⟨ng, nc, hnn, hncell⟩ := nds_at H.out hkz
      rw [HN.out] at hnn
      cases hnn
      obtain ⟨ng', nc', hnn', hncell'⟩ := nds_at H'.out hkz'
      rw [HN'.out] at hnn'
      cases hnn'
      obtain ⟨z0, z1, z2, z3, z4⟩ := hncell wr hbr
      obtain ⟨y0, y1, y2, y3, y4⟩ := hncell' wr hbr
      have hkids := (show _ ∧ _ from (H.out.keptB hbr).parts Z[k] (List.getElem_mem hkz))
      have hkids' := (show _ ∧ _ from (H'.out.keptB hbr).parts Z'[k] (List.getElem_mem hkz'))
      have hee := HE.out k hkz hkz'
      have hw1 := fun W (hW : Below wr.heap.size wr W) => (hncell W (below_seq hbr hW)).2.1
      have hw2 := fun W (hW : Below wr.heap.size wr W) => (hncell' W (below_seq hbr hW)).2.1
      obtain ⟨zz, hzz⟩ : ∃ zz, Z[k] = zz := ⟨_, rfl⟩
      obtain ⟨zz', hzz'⟩ : ∃ zz, Z'[k] = zz := ⟨_, rfl⟩
      rw [hzz] at z0 z1 z2 z3 z4 hkids hee hw1
      rw [hzz'] at y0 y1 y2 y3 y4 hkids' hee hw2
      clear hncell hncell' hzz hzz' hkz hkz'
      obtain ⟨⟨kd, ks, lo, hi, st⟩, kv, tv⟩ := zz
      obtain ⟨nd', kv', tv'⟩ := zz'
      simp only at hee
      subst hee
      simp only at z0 z1 z2 z3 z4 y0 y1 y2 y3 y4 hkids hkids' hw1 hw2
      have e1 := conv_set (owns_below hkids.2 (Below.refl wr.heap.size wr).drew)
      have e2 := conv_set (owns_below hkids'.2 (Below.refl wr.heap.size wr).drew)
      obtain ⟨ka, kc, rfl⟩ := owns_slice hkids.1
      obtain ⟨ta, tc, rfl⟩ := owns_slice hkids.2
      obtain ⟨ka', kc', rfl⟩ := owns_slice hkids'.1
      obtain ⟨ta', tc', rfl⟩ := owns_slice hkids'.2
      obtain ⟨kl, hkl⟩ : ∃ kl, ks.length = kl := ⟨_, rfl⟩
      obtain ⟨tl, htl⟩ : ∃ tl, st.length = tl := ⟨_, rfl⟩
      have HKA : Hid (∀ jj (hj : jj < ks.length), ∃ g c, Value.slice ka kl kc = .slice (some ⟨g, 0, none⟩) kl c ∧ ∀ W, Below wr.heap.size wr W → W.cell? ⟨g, jj, none⟩ = some (.int .i64 (ks[jj] : Int))) := Lib.hid (fun jj hj => by
        obtain ⟨g, c, e, hc⟩ := kid_at hkids.1 hj
        rw [hkl] at e
        exact ⟨g, c, e, hc⟩)
      have HKA' : Hid (∀ jj (hj : jj < ks.length), ∃ g c, Value.slice ka' kl kc' = .slice (some ⟨g, 0, none⟩) kl c ∧ ∀ W, Below wr.heap.size wr W → W.cell? ⟨g, jj, none⟩ = some (.int .i64 (ks[jj] : Int))) := Lib.hid (fun jj hj => by
        obtain ⟨g, c, e, hc⟩ := kid_at hkids'.1 hj
        rw [hkl] at e
        exact ⟨g, c, e, hc⟩)
      have hkl100 : kl ≤ 9223372036854775807 := by
        obtain ⟨-, a', c', e, h1, h2, -⟩ := argRow_owns hkids.1
        have h1' : ks.length ≤ c' := h1
        rw [hkl] at h1'
        unfold maxLen at h2
        omega
      rw [hkl] at z1 y1 hw1 hw2
      have HW1 := Lib.hid hw1
      have HW2 := Lib.hid hw2
      rw [htl] at z4 y4 e1 e2
      have HKL := Lib.hid hkl
      clear hkids hkids' hkl htl hw1 hw2
      obtain ⟨rs, hrs⟩ : ∃ rs, runesBytes st = rs := ⟨_, rfl⟩
      rw [hrs] at e1 e2
      clear hrs
      have i1 : (0 : Int) ≤ (k : Int) := by omega
      have i2 : (k : Int) < (n : Int) := by omega
      go_upto_region 6 with fail
      simp only [List.append]
      refine wp_region_quiet_list (by kernel_rfl) (by kernel_rfl) ?_
      repeat (go_big_quiet_step (fail))
      refine wpQuiet_nil ?_
      rintro _ rfl
      go_upto_region 9 with fail
      clear e1 e2 z0 z1 z2 z3 z4 y0 y1 y2 y3 y4
      obtain ⟨wo, hwo⟩ : ∃ wo : World, wo = wr := ⟨_, rfl⟩
      subst hwo
      go_loopw [6] (fun jv wi => ∃ jj : Nat, jj ≤ kl ∧ jv = .int .i64 (jj : Int) ∧ Below wo.heap.size wo wi) (fun jv _ => kl - (intOf jv).toNat)
      case atStart => exact ⟨0, by omega, rfl, (Below.refl _ _).drew⟩
      case round =>
        obtain ⟨jj, hjj, rfl, hbi⟩ := hrel
        have z1 := HW1.out wr hbi
        have y1 := HW2.out wr hbi
        by_cases hjl : jj < kl
        · obtain ⟨kg, kcc, hkk, hkcell⟩ := HKA.out jj (by rw [HKL.out]; exact hjl)
          cases hkk
          obtain ⟨kg', kcc', hkk', hkcell'⟩ := HKA'.out jj (by rw [HKL.out]; exact hjl)
          cases hkk'
          have q1 := hkcell wr hbi
          have q2 := hkcell' wr hbi
          generalize ks[jj]'(by rw [HKL.out]; exact hjl) = kid at *
          have i1 : (0 : Int) ≤ (k : Int) := by omega
          have i2 : (k : Int) < (n : Int) := by omega
          have i3 : (0 : Int) ≤ (jj : Int) := by omega
          have i4 : (jj : Int) < (kl : Int) := by omega
          clear hkcell hkcell'
          go_upto_region 11 with fail
          go_quiet (fail)
          all_goals
            go_wp2_with fail
            go_roundw
            case rel => exact ⟨jj + 1, by omega, by go_num, below_dN hbi _⟩
            case measure => simp [intOf]; omega
        · obtain rfl : jj = kl := by omega
          go_wp2_with fail
          go_roundw
          case rel => exact ⟨k + 1, by omega, by go_num, below_seq hbr hbi⟩
          case measure => simp [intOf]; omega
    · obtain rfl : k = n := by omega
      go_wp2_with fail
      go_ret
      exact ⟨rfl, hbr⟩
end Go.Proofs.YthmhmckkkceclaaDoor
/-
  garnerref18.Has: is a rune in a set.
-/
namespace Go.Proofs.YthmhmckkkceclaaDoor
open Go.RowKit
theorem has_step (L : List Int) (x : Int) (i : Nat) (h : i + 1 < L.length) : hasS (L.drop i) x = ((decide (L[i] ≤ x) && decide (x ≤ L[i + 1])) || hasS (L.drop (i + 2)) x) := by
  rw [List.drop_eq_getElem_cons (by omega : i < L.length), List.drop_eq_getElem_cons h]
  rfl
theorem has_over (L : List Int) (x : Int) (i : Nat) (h : ¬ i + 1 < L.length) : hasS (L.drop i) x = false := by
  have hl : (L.drop i).length ≤ 1 := by rw [List.length_drop]; omega
  match hd : L.drop i with
  | [] => rfl
  | [a] => rfl
  | a :: b :: l => rw [hd] at hl; simp at hl
set_option maxRecDepth 100000 in
set_option maxHeartbeats 10000000 in
theorem ref_Has (L : List Int) (x : Int) (v : Value) (w : World) (h : argRow w v L.length 1 (L.map rCell)) (hl : L.length ≤ 100000) :
    Calls Tryd.prog 13 #[v, .int .i32 x] w fun e w' => e = .returned (.bool (hasS L x)) ∧ w = w' := by
  obtain ⟨_, a, c, rfl, h1, h2, hc⟩ := h
  have HC : Hid (∀ k (hk : k < L.length), ∃ b off, a = some ⟨b, off, none⟩ ∧ ∀ j (hj : j < L.length), w.cell? ⟨b, off + j, none⟩ = some (.int .i32 L[j])) := Lib.hid (fun k hk => by
    obtain ⟨b, off, ha, hb, hcs⟩ := hc (by omega)
    refine ⟨b, off, ha, fun j hj => ?_⟩
    have := hcs j (by simpa using hj)
    rw [List.getElem_map] at this
    exact this)
  obtain ⟨n, hn⟩ : ∃ n, L.length = n := ⟨_, rfl⟩
  rw [hn] at hl ⊢
  have HN := Lib.hid hn
  obtain ⟨R, hR⟩ : ∃ R, hasS L x = R := ⟨_, rfl⟩
  rw [hR]
  have HR := Lib.hid hR
  clear hn hc h1 h2 hR
  go_enter Tryd.func13, Tryd.ntmps13
  go_upto_region 2 with fail
  go_loopw [5] (fun iv wr => ∃ i : Nat, i ≤ n + 1 ∧ iv = .int .i64 (i : Int) ∧ hasS (L.drop i) x = R ∧ wr = w) (fun iv _ => n + 1 - (intOf iv).toNat)
  case atStart => exact ⟨0, by omega, rfl, HR.out, rfl⟩
  case round =>
    obtain ⟨i, hi, rfl, hh, hwr⟩ := hrel
    subst hwr
    have HH := Lib.hid hh
    clear hh
    by_cases hlt : i + 1 < n
    · have hg0 : decide ((i : Int) + 1 < (n : Int)) = true := decide_eq_true (by omega)
      obtain ⟨b, off, rfl, hcs⟩ := HC.out i (by rw [HN.out]; omega)
      have c0 := hcs i (by rw [HN.out]; omega)
      have c1 := hcs (i + 1) (by rw [HN.out]; omega)
      have hstep := has_step L x i (by rw [HN.out]; exact hlt)
      generalize L[i]'(by rw [HN.out]; omega) = lo at *
      generalize L[i + 1]'(by rw [HN.out]; omega) = hi2 at *
      have HS := Lib.hid hstep
      have i1 : (0 : Int) ≤ (i : Int) := by omega
      have i2 : (i : Int) < (n : Int) := by omega
      have i3 : (0 : Int) ≤ (i : Int) + 1 := by omega
      have i4 : (i : Int) + 1 < (n : Int) := by omega
      have i5 : ((i : Int) + 1).toNat = i + 1 := by omega
      clear hstep hcs
      by_cases ha : lo ≤ x
      · have d1 : decide (lo ≤ x) = true := decide_eq_true ha
        by_cases hb : x ≤ hi2
        · have d2 : decide (x ≤ hi2) = true := decide_eq_true hb
          have hT : R = true := by rw [← HH.out, HS.out, d1, d2]; rfl
          have HT := Lib.hid hT
          clear hT
          go_wp2_with fail
          go_ret
          exact ⟨by rw [HT.out]; rfl, rfl⟩
        · have d2 : decide (x ≤ hi2) = false := decide_eq_false hb
          go_wp2_with fail
          go_roundw
          case rel => exact ⟨i + 2, by omega, by go_num, by rw [← HH.out, HS.out, d1, d2]; rfl, trivial⟩
          case measure => simp [intOf]; omega
      · have d1 : decide (lo ≤ x) = false := decide_eq_false ha
        go_wp2_with fail
        go_roundw
        case rel => exact ⟨i + 2, by omega, by go_num, by rw [← HH.out, HS.out, d1]; rfl, trivial⟩
        case measure => simp [intOf]; omega
    · have hg0 : decide ((i : Int) + 1 < (n : Int)) = false := decide_eq_false (by omega)
      have hT : R = false := by rw [← HH.out]; exact has_over L x i (by rw [HN.out]; exact hlt)
      have HT := Lib.hid hT
      clear hT
      go_wp2_with fail
      go_ret
      exact ⟨by rw [HT.out]; rfl, rfl⟩
end Go.Proofs.YthmhmckkkceclaaDoor
