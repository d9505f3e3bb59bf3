/-
  rexp.size.
-/
import Derived.Test.YthmhmckkkceclaaDoorRexIl
import Derived.Test.YthmhmckkkceclaaDoorUtfV
import Derived.Laws.IdiomStrings
namespace Go.Proofs.YthmhmckkkceclaaDoor
open Go.RowKit
def iZ (x : Int) : Value := .int .i64 x
/-- How often is at most eight. -/
def NLim (l : List Nd) : Prop := ∀ n ∈ l, 0 ≤ n.lo ∧ n.lo ≤ 8 ∧ n.hi ≤ 8
theorem times_range {n : Nd} (h : 0 ≤ n.lo ∧ n.lo ≤ 8 ∧ n.hi ≤ 8) : 1 ≤ timesOf n ∧ timesOf n ≤ 9 := by
  unfold timesOf
  split
  · split <;> omega
  · omega
theorem sizeK_snoc (sz : List Int) (t : Int) (k : Nat) : ∀ (ks : List Nat) (c : Int), sizeK sz t (ks ++ [k]) c = min 2000 (sizeK sz t ks c + t * sz.getD k 0)
  | [], c => rfl
  | k' :: ks, c => by
    show sizeK sz t (ks ++ [k]) _ = min 2000 (sizeK sz t ks _ + _)
    exact sizeK_snoc sz t k ks _
theorem sizesL_snoc (n : Nd) : ∀ (l : List Nd) (sz : List Int), sizesL sz (l ++ [n]) = sizesL sz l ++ [sizeK (sizesL sz l) (timesOf n) n.kids 1]
  | [], sz => rfl
  | m :: l, sz => by
    show sizesL _ (l ++ [n]) = _
    rw [sizesL_snoc n l]
    rfl
theorem sizesL_len : ∀ (l : List Nd) (sz : List Int), (sizesL sz l).length = sz.length + l.length
  | [], sz => by simp [sizesL]
  | m :: l, sz => by
    show (sizesL _ l).length = _
    rw [sizesL_len l, List.length_append, List.length_singleton, List.length_cons]
    omega
def SzOk (sz : List Int) : Prop := ∀ x ∈ sz, 1 ≤ x ∧ x ≤ 2000
theorem sz_getD {sz : List Int} (h : SzOk sz) (k : Nat) : 0 ≤ sz.getD k 0 ∧ sz.getD k 0 ≤ 2000 := by
  rw [List.getD_eq_getElem?_getD]
  cases hk : sz[k]? with
  | none => simp
  | some x =>
    have := h x (List.mem_of_getElem? hk)
    simp
    omega
theorem sizeK_ok {sz : List Int} (h : SzOk sz) {t : Int} (ht : 1 ≤ t ∧ t ≤ 9) : ∀ (ks : List Nat) (c : Int), 1 ≤ c → c ≤ 2000 → 1 ≤ sizeK sz t ks c ∧ sizeK sz t ks c ≤ 2000
  | [], c, h1, h2 => ⟨h1, h2⟩
  | k :: ks, c, h1, h2 => by
    have hg := sz_getD h k
    have h3 : 0 ≤ t * sz.getD k 0 := Int.mul_nonneg (by omega) hg.1
    exact sizeK_ok h ht ks _ (by omega) (by omega)
theorem sizesL_ok : ∀ (l : List Nd) (sz : List Int), NLim l → SzOk sz → SzOk (sizesL sz l)
  | [], sz, _, h => h
  | n :: l, sz, hl, h => by
    refine sizesL_ok l _ (fun m hm => hl m (by simp [hm])) fun x hx => ?_
    rcases List.mem_append.1 hx with hx | hx
    · exact h x hx
    · rw [List.mem_singleton.1 hx]
      exact sizeK_ok h (times_range (hl n (by simp))) _ _ (by omega) (by omega)
/-- A node's cells, and its kids. -/
theorem nds_at {w : World} {B : Nat} {v : Value} {Z : List NdL} (h : NOwn w B v Z) {k : Nat} (hk : k < Z.length) : ∃ g c, v = .slice (some ⟨g, 0, none⟩) Z.length c ∧ ∀ W, Below w.heap.size w W →
    W.cell? ⟨g, k * 5, none⟩ = some (.int .i64 Z[k].1.kind) ∧ W.cell? ⟨g, k * 5 + 1, none⟩ = some Z[k].2.1 ∧ W.cell? ⟨g, k * 5 + 2, none⟩ = some (.int .i64 Z[k].1.lo) ∧ W.cell? ⟨g, k * 5 + 3, none⟩ = some (.int .i64 Z[k].1.hi) ∧ W.cell? ⟨g, k * 5 + 4, none⟩ = some Z[k].2.2 := by
  rcases h.own.2 with ⟨_, h0⟩ | ⟨g, cap, cur, rfl, hB, hg, h1, h2, h3, h4⟩
  · omega
  · refine ⟨g, cap, rfl, fun W hW => ?_⟩
    have hb := (Array.getElem?_eq_some_iff.1 hg).1
    have key : ∀ j u, j < 5 → (ndCells Z[k])[j]? = some u → W.cell? ⟨g, k * 5 + j, none⟩ = some u := fun j u hj hu => by
      have e := ndsCells_get Z k hk j hj
      rw [hu] at e
      have c1 := h.own.cells (g := g) rfl _ _ e
      rw [Go.WideShapes.add_plain, Nat.zero_add] at c1
      rw [hW.cell (p := ⟨g, k * 5 + j, none⟩) hb]
      exact c1
    exact ⟨key 0 _ (by omega) rfl, key 1 _ (by omega) rfl, key 2 _ (by omega) rfl, key 3 _ (by omega) rfl, key 4 _ (by omega) rfl⟩
theorem kid_at {w : World} {B : Nat} {v : Value} {ks : List Nat} (h : w.ownsRow B 3 1 v ks.length (ks.map iCell)) {j : Nat} (hj : j < ks.length) : ∃ g c, v = .slice (some ⟨g, 0, none⟩) ks.length c ∧ ∀ W, Below w.heap.size w W → W.cell? ⟨g, j, none⟩ = some (.int .i64 (ks[j] : Int)) := by
  obtain ⟨g, c, e, hB, hg, -, -, hl, hc⟩ := owns_some h (by omega)
  refine ⟨g, c, e, fun W hW => ?_⟩
  have := hc j (by rw [List.length_map]; exact hj)
  rw [List.getElem_map] at this
  rw [hW.cell (p := ⟨g, j, none⟩) hg]
  exact this
/-- The sizes so far, one that is being reckoned, and what is to come. -/
def szRow (A : List Int) (c : Int) (m : Nat) : List Value := A.map iZ ++ iZ c :: List.replicate m (iZ 0)
theorem szRow_set (A : List Int) (c c' : Int) (m : Nat) : (szRow A c m).set A.length (iZ c') = szRow A c' m := by
  unfold szRow
  rw [List.set_append_right _ _ (by simp)]
  simp
theorem szRow_at (A : List Int) (c : Int) (m : Nat) : (szRow A c m)[A.length]? = some (iZ c) := by
  unfold szRow
  rw [List.getElem?_append_right (by simp)]
  simp
theorem szRow_old (A : List Int) (c : Int) (m k : Nat) (h : k < A.length) : (szRow A c m)[k]? = some (iZ (A.getD k 0)) := by
  unfold szRow
  rw [List.getElem?_append_left (by simpa using h), List.getElem?_map, List.getD_eq_getElem?_getD]
  rw [List.getElem?_eq_getElem h]
  rfl
theorem szRow_start (A : List Int) (m : Nat) : A.map iZ ++ List.replicate (m + 1) (iZ 0) = szRow A 0 m := rfl
theorem szRow_end (A : List Int) (c : Int) (m : Nat) : szRow A c m = (A ++ [c]).map iZ ++ List.replicate m (iZ 0) := by
  unfold szRow
  simp
set_option maxRecDepth 100000 in
set_option maxHeartbeats 40000000 in
theorem par_size (B : Nat) (v : Value) (Z : List NdL) (w : World) (h : NOwn w B v Z) (hwf : Wf (Z.map Prod.fst)) (hlim : NLim (Z.map Prod.fst)) (h0 : 0 < Z.length) (hl : Z.length ≤ 1000) :
    Calls Tryd.prog 19 #[v] w fun e w' => e = .returned (.int .i64 (sizeP (Z.map Prod.fst))) ∧ Below w.heap.size w w' := by
  have HAT := Lib.hid (fun k (hk : k < Z.length) => nds_at h hk)
  have HKD := Lib.hid (fun k (hk : k < Z.length) => (show _ ∧ _ from h.parts Z[k] (List.getElem_mem hk)))
  obtain ⟨n, hn⟩ : ∃ n, Z.length = n := ⟨_, rfl⟩
  obtain ⟨i0, hi, hz0, hz1, hz2⟩ := info_parts (EIn).hi
  obtain ⟨w1, hmk, hown1, hgr1⟩ := run_makeSlice_full (P := Tryd.prog) w w.heap.size 30 3 i0 (.int .i64 0) 1 Tryd.underlying30 hi hz0 hz1 .i64 .i64 n (by omega) (by rw [hz2]; omega) (by unfold maxLen; omega) (Nat.le_refl _)
  obtain ⟨va, vc, rfl⟩ := owns_slice h.own
  have HOWN1 := Lib.hid hown1
  have HGR1 := Lib.hid hgr1
  have HWF := Lib.hid hwf
  have HLIM := Lib.hid hlim
  rw [hn] at hl h0 ⊢
  have HN := Lib.hid hn
  clear h hwf hlim hown1 hgr1 hz0 hz1 hz2 hi hn
  obtain ⟨R, hR⟩ : ∃ R, sizeP (Z.map Prod.fst) = R := ⟨_, rfl⟩
  rw [hR]
  have HR := Lib.hid hR
  clear hR
  go_enter Tryd.func19, Tryd.ntmps19
  go_upto_region 3 with fail
  have hst1 := HOWN1.out
  rw [show (madeCells (Value.int .i64 0).cells (n * 1)).toList = List.replicate n (iZ 0) from by rw [Nat.mul_one]; exact toList_madeCells_one _ n] at hst1
  have hb1 : Below w.heap.size w w1 := ⟨HGR1.out.os, HGR1.out.tape, HGR1.out.output, HGR1.out.size, fun k hk => HGR1.out.block k hk (by simp)⟩
  go_loopw [14] (fun i wr => ∃ k : Nat, k ≤ n ∧ i = .int .i64 (k : Int) ∧ wr.ownsRow w.heap.size 3 1 (.slice (some ⟨w.heap.size, 0, none⟩) n n) n ((sizesL [] ((Z.map Prod.fst).take k)).map iZ ++ List.replicate (n - k) (iZ 0)) ∧ Below w.heap.size w wr) (fun i _ => n - (intOf i).toNat)
  case atStart => exact ⟨0, by omega, rfl, by simpa [sizesL] using hst1, hb1⟩
  case round =>
    obtain ⟨k, hk, rfl, hown, hbr⟩ := hrel
    clear hst1 hb1 hmk
    by_cases hlt : k < n
    · have hkz : k < Z.length := by rw [HN.out]; exact hlt
      obtain ⟨ng, nc, hnn, hncell⟩ := HAT.out k hkz
      cases hnn
      obtain ⟨z0, z1, z2, z3, z4⟩ := hncell wr hbr
      have hkids := HKD.out k hkz
      have hwk : ∀ kid ∈ Z[k].1.kids, kid < k := HWF.out k Z[k].1 (by rw [List.getElem?_map, List.getElem?_eq_getElem hkz]; rfl)
      have hlk := HLIM.out Z[k].1 (List.mem_map.2 ⟨Z[k], List.getElem_mem hkz, rfl⟩)
      have hTR := times_range hlk
      obtain ⟨A, hA⟩ : ∃ A, sizesL [] ((Z.map Prod.fst).take k) = A := ⟨_, rfl⟩
      have hAl : A.length = k := by
        rw [← hA, sizesL_len, List.length_take, List.length_map, HN.out]
        simp
        omega
      have hSO : SzOk A := by
        rw [← hA]
        exact sizesL_ok _ _ (fun m hm => HLIM.out m (List.mem_of_mem_take hm)) (fun x hx => by simp at hx)
      obtain ⟨zz, hzz⟩ : ∃ zz, Z[k] = zz := ⟨_, rfl⟩
      have hTK : sizesL [] ((Z.map Prod.fst).take (k + 1)) = A ++ [sizeK A (timesOf zz.1) zz.1.kids 1] := by
        rw [List.take_succ_eq_append_getElem (by rw [List.length_map]; exact hkz), sizesL_snoc, hA, List.getElem_map, hzz]
      rw [hA] at hown
      have hSR : A.map iZ ++ List.replicate (n - k) (iZ 0) = szRow A 0 (n - k - 1) := by
        rw [show n - k = (n - k - 1) + 1 by omega]
        exact szRow_start A (n - k - 1)
      rw [hzz] at z0 z1 z2 z3 z4 hkids hwk hlk hTR
      obtain ⟨⟨kd, ks, lo, hi, st⟩, kv, tv⟩ := zz
      simp only at z0 z1 z2 z3 z4 hwk hlk hTR hTK
      obtain ⟨ka, kc, hkv⟩ := owns_slice hkids.1
      obtain ⟨ta, tc, htv⟩ := owns_slice hkids.2
      simp only at hkv htv
      subst hkv
      subst htv
      obtain ⟨kl, hkl⟩ : ∃ kl, ks.length = kl := ⟨_, rfl⟩
      obtain ⟨tl, htl⟩ : ∃ tl, st.length = tl := ⟨_, rfl⟩
      rw [hkl] at z1
      rw [htl] at z4
      have HKA : Hid (∀ jj (hj : jj < ks.length), ∃ g c, Value.slice ka kl kc = .slice (some ⟨g, 0, none⟩) kl c ∧ ∀ W, Below w.heap.size w W → W.cell? ⟨g, jj, none⟩ = some (.int .i64 (ks[jj] : Int))) := Lib.hid (fun jj hj => by
        obtain ⟨g, c, e, hc⟩ := kid_at hkids.1 hj
        simp only at e
        rw [hkl] at e
        exact ⟨g, c, e, hc⟩)
      have HKL := Lib.hid hkl
      have HWK := Lib.hid hwk
      have HAL := Lib.hid hAl
      have HSO := Lib.hid hSO
      have HTK := Lib.hid hTK
      have HSR := Lib.hid hSR
      have HOWN := Lib.hid hown
      have HFZ := Lib.hid (hown.frozenAt k)
      have hkl100 : kl ≤ 9223372036854775807 := by
        obtain ⟨-, a', c', e, h1, h2, -⟩ := argRow_owns hkids.1
        have h1' : ks.length ≤ c' := h1
        rw [hkl] at h1'
        unfold maxLen at h2
        omega
      have hck := hown.cellAt k (by omega)
      rw [hSR, ← hAl, szRow_at, hAl] at hck
      unfold iZ at hck
      have hgl : w.heap.size < wr.heap.size := by
        rcases hown.2 with ⟨e, _⟩ | ⟨g, _, _, e, _, hg, _⟩
        · cases e
        · cases e
          exact (Array.getElem?_eq_some_iff.1 hg).1
      have hbx := belowA' (o := .cells #[.int .i64 kd, .slice ka kl kc, .int .i64 lo, .int .i64 hi, .slice ta tl tc] 33) (Below.refl wr.heap.size wr) (Nat.le_refl _)
      have hx := heap_alloc_new wr (.cells #[.int .i64 kd, .slice ka kl kc, .int .i64 lo, .int .i64 hi, .slice ta tl tc] 33)
      have y0 := cellX hx (j := 0) rfl
      have y1 := cellX hx (j := 1) rfl
      have y2 := cellX hx (j := 2) rfl
      have y3 := cellX hx (j := 3) rfl
      clear hA hAl hSO hTK hSR hown hkids hwk hkl htl hx hzz hncell
      by_cases h5 : kd = 5
      · subst h5
        by_cases hneg : hi < 0
        · have hd : decide (hi < 0) = true := decide_eq_true hneg
          have HTMO : Hid (timesOf ⟨5, ks, lo, hi, st⟩ = lo + 1) := Lib.hid (by unfold timesOf; rw [if_pos rfl, if_pos hneg])
          go_upto_region 10 with fail
          obtain ⟨T, hT⟩ : ∃ T, lo + 1 = T := ⟨_, rfl⟩
          rw [hT] at HTMO ⊢
          clear hT hd
          have hT9 : (1 : Int) ≤ T ∧ T ≤ (9 : Int) := by have := hTR; rw [HTMO.out] at this; exact this
          have hfz := HFZ.out
          have hown2 := HOWN.out.stored k (iZ 1)
          rw [HSR.out, show k = A.length from HAL.out.symm, szRow_set] at hown2
          rw [HAL.out] at hown2
          have HOWN2 := Lib.hid hown2
          have x5 : (wr.alloc (.cells #[.int .i64 5, .slice ka kl kc, .int .i64 lo, .int .i64 hi, .slice ta tl tc] 33)).cell? ⟨w.heap.size, k, none⟩ = some (.int .i64 0) := (hbx.cell (p := ⟨w.heap.size, k, none⟩) hgl).trans hck
          have x6 : (wr.alloc (.cells #[.int .i64 5, .slice ka kl kc, .int .i64 lo, .int .i64 hi, .slice ta tl tc] 33)).frozen? ⟨w.heap.size, k, none⟩ = false := (hbx.frozen (p := ⟨w.heap.size, k, none⟩) hgl).trans hfz
          clear hown2 hfz hTR
          go_upto_region 12 with fail
          have hB2 : Below w.heap.size w ((wr.setCell ⟨w.heap.size, k, none⟩ (iZ 1)).alloc (.cells #[.int .i64 5, .slice ka kl kc, .int .i64 lo, .int .i64 hi, .slice ta tl tc] 33)) := (hbr.setCell (p := ⟨w.heap.size, k, none⟩) (Nat.le_refl _) _).alloc (by simp; exact hbr.size) _
          have HB2 := Lib.hid hB2
          clear hB2 x5 x6 z0 z1 z2 z3 z4 hck
          obtain ⟨wo, hwo⟩ : ∃ wo : World, wo = wr := ⟨_, rfl⟩
          subst hwo
          go_loopw [37] (fun j wi => ∃ (jj : Nat) (c : Int), jj ≤ kl ∧ j = .int .i64 (jj : Int) ∧ sizeK A T (ks.take jj) 1 = c ∧ 1 ≤ c ∧ c ≤ 2000 ∧ wi.ownsRow w.heap.size 3 1 (.slice (some ⟨w.heap.size, 0, none⟩) n n) n (szRow A c (n - k - 1)) ∧ Below w.heap.size w wi) (fun j _ => kl - (intOf j).toNat)
          case atStart => exact ⟨0, 1, by omega, rfl, rfl, by omega, by omega, HOWN2.out.1.alloc _, HB2.out⟩
          case round =>
            obtain ⟨jj, c, hjj, rfl, hc, hc1, hc2, hown3, hbi⟩ := hrel
            have HC := Lib.hid hc
            have HOWN3 := Lib.hid hown3
            by_cases hjl : jj < kl
            · obtain ⟨kg, kcc, hkk, hkcell⟩ := HKA.out jj (by rw [HKL.out]; exact hjl)
              cases hkk
              have hkc := hkcell wr hbi
              have hkid : ks[jj]'(by rw [HKL.out]; exact hjl) < k := HWK.out _ (List.getElem_mem _)
              have hnext : sizeK A T (ks.take (jj + 1)) 1 = min 2000 (c + T * A.getD (ks[jj]'(by rw [HKL.out]; exact hjl)) 0) := by
                rw [List.take_succ_eq_append_getElem (by rw [HKL.out]; exact hjl), sizeK_snoc, HC.out]
              have hga := sz_getD HSO.out (ks[jj]'(by rw [HKL.out]; exact hjl))
              generalize hkd : ks[jj]'(by rw [HKL.out]; exact hjl) = kid at *
              have q1 := hown3.cellAt k (by omega)
              have q2 := hown3.cellAt kid (by omega)
              have q3 := hown3.frozenAt k
              rw [show k = A.length from HAL.out.symm, szRow_at] at q1
              rw [HAL.out] at q1
              rw [szRow_old _ _ _ _ (by rw [HAL.out]; exact hkid)] at q2
              unfold iZ at q1 q2
              have HNX := Lib.hid hnext
              have hst := fun u => (owns_below hown3 (show Below wr.heap.size wr wr.drew from (Below.refl _ _).drew)).stored k (iZ u)
              have HST := Lib.hid hst
              generalize A.getD kid 0 = av at *
              have hmul : 0 ≤ T * av ∧ T * av ≤ 18000 := ⟨Int.mul_nonneg (by omega) hga.1, Int.le_trans (Int.mul_le_mul_of_nonneg_right hT9.2 hga.1) (by omega)⟩
              clear hown3 hnext hkcell hkd hc hst
              obtain ⟨P, hP⟩ : ∃ P, T * av = P := ⟨_, rfl⟩
              rw [hP] at hmul
              have HPP := Lib.hid hP
              have i1 : (0 : Int) ≤ (k : Int) := by omega
              have i2 : (k : Int) < (n : Int) := by omega
              have i3 : (0 : Int) ≤ (kid : Int) := by omega
              have i4 : (kid : Int) < (n : Int) := by omega
              go_upto_region 14 with fail
              go_region_law (fail)
              all_goals
                clear hP
                go_wp2_with fail
                go_roundw
                case rel =>
                  have h9 := (HST.out (min 2000 (c + P)))
                  rw [show k = A.length from HAL.out.symm, szRow_set] at h9
                  rw [HAL.out] at h9
                  exact ⟨jj + 1, min 2000 (c + P), by omega, by go_num, by rw [HNX.out, HPP.out], by omega, by omega, h9.1, hbi.drew.setCell (p := ⟨w.heap.size, k, none⟩) (Nat.le_refl _) _⟩
                case measure => simp [intOf]; omega
            · obtain rfl : jj = kl := by omega
              go_wp2_with fail
              go_roundw
              case rel =>
                have hk1 : ks.take jj = ks := List.take_of_length_le (by rw [HKL.out]; exact Nat.le_refl _)
                have hcc := HC.out
                rw [hk1] at hcc
                refine ⟨k + 1, by omega, by go_num, ?_, hbi⟩
                rw [HTK.out, HTMO.out, hcc, show n - (k + 1) = n - k - 1 by omega, ← szRow_end]
                exact HOWN3.out
              case measure => simp [intOf]; omega
        · have hd : decide (hi < 0) = false := decide_eq_false hneg
          have HTMO : Hid (timesOf ⟨5, ks, lo, hi, st⟩ = max hi 1) := Lib.hid (by unfold timesOf; rw [if_pos rfl, if_neg hneg])
          go_upto_region 10 with fail
          obtain ⟨T, hT⟩ : ∃ T, max hi 1 = T := ⟨_, rfl⟩
          rw [hT] at HTMO ⊢
          clear hT hd
          have hT9 : (1 : Int) ≤ T ∧ T ≤ (9 : Int) := by have := hTR; rw [HTMO.out] at this; exact this
          have hfz := HFZ.out
          have hown2 := HOWN.out.stored k (iZ 1)
          rw [HSR.out, show k = A.length from HAL.out.symm, szRow_set] at hown2
          rw [HAL.out] at hown2
          have HOWN2 := Lib.hid hown2
          have x5 : (wr.alloc (.cells #[.int .i64 5, .slice ka kl kc, .int .i64 lo, .int .i64 hi, .slice ta tl tc] 33)).cell? ⟨w.heap.size, k, none⟩ = some (.int .i64 0) := (hbx.cell (p := ⟨w.heap.size, k, none⟩) hgl).trans hck
          have x6 : (wr.alloc (.cells #[.int .i64 5, .slice ka kl kc, .int .i64 lo, .int .i64 hi, .slice ta tl tc] 33)).frozen? ⟨w.heap.size, k, none⟩ = false := (hbx.frozen (p := ⟨w.heap.size, k, none⟩) hgl).trans hfz
          clear hown2 hfz hTR
          go_upto_region 12 with fail
          have hB2 : Below w.heap.size w ((wr.setCell ⟨w.heap.size, k, none⟩ (iZ 1)).alloc (.cells #[.int .i64 5, .slice ka kl kc, .int .i64 lo, .int .i64 hi, .slice ta tl tc] 33)) := (hbr.setCell (p := ⟨w.heap.size, k, none⟩) (Nat.le_refl _) _).alloc (by simp; exact hbr.size) _
          have HB2 := Lib.hid hB2
          clear hB2 x5 x6 z0 z1 z2 z3 z4 hck
          obtain ⟨wo, hwo⟩ : ∃ wo : World, wo = wr := ⟨_, rfl⟩
          subst hwo
          go_loopw [37] (fun j wi => ∃ (jj : Nat) (c : Int), jj ≤ kl ∧ j = .int .i64 (jj : Int) ∧ sizeK A T (ks.take jj) 1 = c ∧ 1 ≤ c ∧ c ≤ 2000 ∧ wi.ownsRow w.heap.size 3 1 (.slice (some ⟨w.heap.size, 0, none⟩) n n) n (szRow A c (n - k - 1)) ∧ Below w.heap.size w wi) (fun j _ => kl - (intOf j).toNat)
          case atStart => exact ⟨0, 1, by omega, rfl, rfl, by omega, by omega, HOWN2.out.1.alloc _, HB2.out⟩
          case round =>
            obtain ⟨jj, c, hjj, rfl, hc, hc1, hc2, hown3, hbi⟩ := hrel
            have HC := Lib.hid hc
            have HOWN3 := Lib.hid hown3
            by_cases hjl : jj < kl
            · obtain ⟨kg, kcc, hkk, hkcell⟩ := HKA.out jj (by rw [HKL.out]; exact hjl)
              cases hkk
              have hkc := hkcell wr hbi
              have hkid : ks[jj]'(by rw [HKL.out]; exact hjl) < k := HWK.out _ (List.getElem_mem _)
              have hnext : sizeK A T (ks.take (jj + 1)) 1 = min 2000 (c + T * A.getD (ks[jj]'(by rw [HKL.out]; exact hjl)) 0) := by
                rw [List.take_succ_eq_append_getElem (by rw [HKL.out]; exact hjl), sizeK_snoc, HC.out]
              have hga := sz_getD HSO.out (ks[jj]'(by rw [HKL.out]; exact hjl))
              generalize hkd : ks[jj]'(by rw [HKL.out]; exact hjl) = kid at *
              have q1 := hown3.cellAt k (by omega)
              have q2 := hown3.cellAt kid (by omega)
              have q3 := hown3.frozenAt k
              rw [show k = A.length from HAL.out.symm, szRow_at] at q1
              rw [HAL.out] at q1
              rw [szRow_old _ _ _ _ (by rw [HAL.out]; exact hkid)] at q2
              unfold iZ at q1 q2
              have HNX := Lib.hid hnext
              have hst := fun u => (owns_below hown3 (show Below wr.heap.size wr wr.drew from (Below.refl _ _).drew)).stored k (iZ u)
              have HST := Lib.hid hst
              generalize A.getD kid 0 = av at *
              have hmul : 0 ≤ T * av ∧ T * av ≤ 18000 := ⟨Int.mul_nonneg (by omega) hga.1, Int.le_trans (Int.mul_le_mul_of_nonneg_right hT9.2 hga.1) (by omega)⟩
              clear hown3 hnext hkcell hkd hc hst
              obtain ⟨P, hP⟩ : ∃ P, T * av = P := ⟨_, rfl⟩
              rw [hP] at hmul
              have HPP := Lib.hid hP
              have i1 : (0 : Int) ≤ (k : Int) := by omega
              have i2 : (k : Int) < (n : Int) := by omega
              have i3 : (0 : Int) ≤ (kid : Int) := by omega
              have i4 : (kid : Int) < (n : Int) := by omega
              go_upto_region 14 with fail
              go_region_law (fail)
              all_goals
                clear hP
                go_wp2_with fail
                go_roundw
                case rel =>
                  have h9 := (HST.out (min 2000 (c + P)))
                  rw [show k = A.length from HAL.out.symm, szRow_set] at h9
                  rw [HAL.out] at h9
                  exact ⟨jj + 1, min 2000 (c + P), by omega, by go_num, by rw [HNX.out, HPP.out], by omega, by omega, h9.1, hbi.drew.setCell (p := ⟨w.heap.size, k, none⟩) (Nat.le_refl _) _⟩
                case measure => simp [intOf]; omega
            · obtain rfl : jj = kl := by omega
              go_wp2_with fail
              go_roundw
              case rel =>
                have hk1 : ks.take jj = ks := List.take_of_length_le (by rw [HKL.out]; exact Nat.le_refl _)
                have hcc := HC.out
                rw [hk1] at hcc
                refine ⟨k + 1, by omega, by go_num, ?_, hbi⟩
                rw [HTK.out, HTMO.out, hcc, show n - (k + 1) = n - k - 1 by omega, ← szRow_end]
                exact HOWN3.out
              case measure => simp [intOf]; omega
      · have hd : (kd == 5) = false := by simpa using h5
        have HTMO : Hid (timesOf ⟨kd, ks, lo, hi, st⟩ = 1) := Lib.hid (by unfold timesOf; rw [if_neg h5])
        go_upto_region 10 with fail
        clear hd
        have hT9 : (1 : Int) ≤ 1 ∧ 1 ≤ (9 : Int) := by have := hTR; rw [HTMO.out] at this; exact this
        have hfz := HFZ.out
        have hown2 := HOWN.out.stored k (iZ 1)
        rw [HSR.out, show k = A.length from HAL.out.symm, szRow_set] at hown2
        rw [HAL.out] at hown2
        have HOWN2 := Lib.hid hown2
        have x5 : (wr.alloc (.cells #[.int .i64 kd, .slice ka kl kc, .int .i64 lo, .int .i64 hi, .slice ta tl tc] 33)).cell? ⟨w.heap.size, k, none⟩ = some (.int .i64 0) := (hbx.cell (p := ⟨w.heap.size, k, none⟩) hgl).trans hck
        have x6 : (wr.alloc (.cells #[.int .i64 kd, .slice ka kl kc, .int .i64 lo, .int .i64 hi, .slice ta tl tc] 33)).frozen? ⟨w.heap.size, k, none⟩ = false := (hbx.frozen (p := ⟨w.heap.size, k, none⟩) hgl).trans hfz
        clear hown2 hfz hTR
        go_upto_region 12 with fail
        have hB2 : Below w.heap.size w ((wr.setCell ⟨w.heap.size, k, none⟩ (iZ 1)).alloc (.cells #[.int .i64 kd, .slice ka kl kc, .int .i64 lo, .int .i64 hi, .slice ta tl tc] 33)) := (hbr.setCell (p := ⟨w.heap.size, k, none⟩) (Nat.le_refl _) _).alloc (by simp; exact hbr.size) _
        have HB2 := Lib.hid hB2
        clear hB2 x5 x6 z0 z1 z2 z3 z4 hck
        obtain ⟨wo, hwo⟩ : ∃ wo : World, wo = wr := ⟨_, rfl⟩
        subst hwo
        go_loopw [37] (fun j wi => ∃ (jj : Nat) (c : Int), jj ≤ kl ∧ j = .int .i64 (jj : Int) ∧ sizeK A 1 (ks.take jj) 1 = c ∧ 1 ≤ c ∧ c ≤ 2000 ∧ wi.ownsRow w.heap.size 3 1 (.slice (some ⟨w.heap.size, 0, none⟩) n n) n (szRow A c (n - k - 1)) ∧ Below w.heap.size w wi) (fun j _ => kl - (intOf j).toNat)
        case atStart => exact ⟨0, 1, by omega, rfl, rfl, by omega, by omega, HOWN2.out.1.alloc _, HB2.out⟩
        case round =>
          obtain ⟨jj, c, hjj, rfl, hc, hc1, hc2, hown3, hbi⟩ := hrel
          have HC := Lib.hid hc
          have HOWN3 := Lib.hid hown3
          by_cases hjl : jj < kl
          · obtain ⟨kg, kcc, hkk, hkcell⟩ := HKA.out jj (by rw [HKL.out]; exact hjl)
            cases hkk
            have hkc := hkcell wr hbi
            have hkid : ks[jj]'(by rw [HKL.out]; exact hjl) < k := HWK.out _ (List.getElem_mem _)
            have hnext : sizeK A 1 (ks.take (jj + 1)) 1 = min 2000 (c + 1 * A.getD (ks[jj]'(by rw [HKL.out]; exact hjl)) 0) := by
              rw [List.take_succ_eq_append_getElem (by rw [HKL.out]; exact hjl), sizeK_snoc, HC.out]
            have hga := sz_getD HSO.out (ks[jj]'(by rw [HKL.out]; exact hjl))
            generalize hkd : ks[jj]'(by rw [HKL.out]; exact hjl) = kid at *
            have q1 := hown3.cellAt k (by omega)
            have q2 := hown3.cellAt kid (by omega)
            have q3 := hown3.frozenAt k
            rw [show k = A.length from HAL.out.symm, szRow_at] at q1
            rw [HAL.out] at q1
            rw [szRow_old _ _ _ _ (by rw [HAL.out]; exact hkid)] at q2
            unfold iZ at q1 q2
            have HNX := Lib.hid hnext
            have hst := fun u => (owns_below hown3 (show Below wr.heap.size wr wr.drew from (Below.refl _ _).drew)).stored k (iZ u)
            have HST := Lib.hid hst
            generalize A.getD kid 0 = av at *
            have hmul : 0 ≤ 1 * av ∧ 1 * av ≤ 18000 := ⟨Int.mul_nonneg (by omega) hga.1, Int.le_trans (Int.mul_le_mul_of_nonneg_right hT9.2 hga.1) (by omega)⟩
            clear hown3 hnext hkcell hkd hc hst
            rw [Int.one_mul] at hmul
            have i1 : (0 : Int) ≤ (k : Int) := by omega
            have i2 : (k : Int) < (n : Int) := by omega
            have i3 : (0 : Int) ≤ (kid : Int) := by omega
            have i4 : (kid : Int) < (n : Int) := by omega
            go_upto_region 14 with fail
            go_region_law (fail)
            all_goals
              skip
              go_wp2_with fail
              go_roundw
              case rel =>
                have h9 := (HST.out (min 2000 (c + av)))
                rw [show k = A.length from HAL.out.symm, szRow_set] at h9
                rw [HAL.out] at h9
                exact ⟨jj + 1, min 2000 (c + av), by omega, by go_num, by rw [HNX.out, Int.one_mul], by omega, by omega, h9.1, hbi.drew.setCell (p := ⟨w.heap.size, k, none⟩) (Nat.le_refl _) _⟩
              case measure => simp [intOf]; omega
          · obtain rfl : jj = kl := by omega
            go_wp2_with fail
            go_roundw
            case rel =>
              have hk1 : ks.take jj = ks := List.take_of_length_le (by rw [HKL.out]; exact Nat.le_refl _)
              have hcc := HC.out
              rw [hk1] at hcc
              refine ⟨k + 1, by omega, by go_num, ?_, hbi⟩
              rw [HTK.out, HTMO.out, hcc, show n - (k + 1) = n - k - 1 by omega, ← szRow_end]
              exact HOWN3.out
            case measure => simp [intOf]; omega
    · obtain rfl : k = n := by omega
      obtain ⟨A, hA⟩ : ∃ A, sizesL [] (Z.map Prod.fst) = A := ⟨_, rfl⟩
      rw [List.take_of_length_le (by rw [List.length_map, HN.out]; exact Nat.le_refl _), hA] at hown
      have hAl : A.length = k := by
        rw [← hA, sizesL_len, List.length_map, HN.out]
        simp
      have hfin : sizeP (Z.map Prod.fst) = A.getLastD 0 := by
        unfold sizeP
        rw [hA]
      rw [HR.out] at hfin
      obtain ⟨last, hlast⟩ : ∃ last, A.getLastD 0 = last := ⟨_, rfl⟩
      rw [hlast] at hfin
      subst hfin
      have hc := hown.cellAt (k - 1) (by omega)
      rw [Nat.sub_self, List.replicate_zero, List.append_nil, List.getElem?_map] at hc
      have hl2 : A[k - 1]? = some R := by
        rcases list_snoc A with rfl | ⟨B, x, rfl⟩
        · simp at hAl
          omega
        · rw [List.length_append, List.length_singleton] at hAl
          rw [show k - 1 = B.length by omega]
          rw [← hlast]
          simp
      rw [hl2] at hc
      simp only [Option.map_some] at hc
      unfold iZ at hc
      have y1 : IntKind.i64.wrap ((k : Int) - 1) = (k : Int) - 1 := IntWalk.i64_in _ (by omega)
      have y2 : 0 ≤ (k : Int) - 1 := by omega
      have y3 : ((k : Int) - 1).toNat = k - 1 := by omega
      have y4 : (k : Int) - 1 < (k : Int) := by omega
      have y5 : (1 : Int) ≤ (k : Int) := by omega
      clear hA hAl hlast hown hl2
      go_wp2_with fail
      go_ret
      exact ⟨rfl, hbr⟩
end Go.Proofs.YthmhmckkkceclaaDoor
/-
  rexp.Parse: the deferred call that catches a fault.
-/
namespace Go.Proofs.YthmhmckkkceclaaDoor
open Go.RowKit
theorem assert_none (w : World) : (Instr.typeAssert .nilIface 20 45 true).run Tryd.prog w = .ok (.tuple #[.agg #[.int .i64 0], .bool false]) w := by kernel_rfl
theorem assert_fault (w : World) : (Instr.typeAssert (.iface 45 (.agg #[.int .i64 40])) 20 45 true).run Tryd.prog w = .ok (.tuple #[.agg #[.int .i64 40], .bool true]) w := by kernel_rfl
set_option maxRecDepth 100000 in
set_option maxHeartbeats 4000000 in
/-- Nothing to catch. -/
theorem catch_idle (p q : Addr) (w : World) :
    CallsD Tryd.prog 16 #[.pointer (some p), .pointer (some q)] .returning w fun e u' w' => e = .returned (.tuple #[]) ∧ u' = .returning ∧ Below w.heap.size w w' := by
  refine callsD_of_wpS Tryd.func16 rfl fun c₀ cs hu => ?_
  apply wpS_seq
  apply wpS_region
  simp [wpOpsS, go_sem, recoverD, hu, Tryd.ntmps16, Exit.thenS, assert_none]
  refine wpS_of_wp ?_
  change Code.wp _ _ _ { tmps := #[.pointer (some p), .pointer (some q), .pointer (some ⟨w.heap.size, 0, none⟩), .bool false, .tuple #[.agg #[.int .i64 0], .bool false], .nilIface, .tuple #[.agg #[.int .i64 0], .bool false], .agg #[.int .i64 0], .bool false, undef, undef, undef], defers := [] } _
  go_wp2
  cases c₀
  simp_all [bodyPostS, results, Tryd.results16]
  exact belowA' (Below.refl _ _) (Nat.le_refl _)
set_option maxRecDepth 100000 in
set_option maxHeartbeats 4000000 in
/-- A fault is caught. -/
theorem catch_fault (b : Nat) (w : World) (older : List PanicEntry) (x y : Value) (hb : b + 1 < w.heap.size) (hp : w.cell? ⟨b, 0, none⟩ = some x) (hq : w.cell? ⟨b + 1, 0, none⟩ = some y) (hfp : w.frozen? ⟨b, 0, none⟩ = false) (hfq : w.frozen? ⟨b + 1, 0, none⟩ = false) :
    CallsD Tryd.prog 16 #[.pointer (some ⟨b, 0, none⟩), .pointer (some ⟨b + 1, 0, none⟩)] (.panicking ({ v := faultV, recovered := false } :: older)) w fun e u' w' => e = .returned (.tuple #[]) ∧ u' = .panicking ({ v := faultV, recovered := true } :: older) ∧
      w'.cell? ⟨b, 0, none⟩ = some (.slice none 0 0) ∧ w'.cell? ⟨b + 1, 0, none⟩ = some (.int .i64 40) ∧ Below b w w' := by
  refine callsD_of_wpS Tryd.func16 rfl fun c₀ cs hu => ?_
  apply wpS_seq
  apply wpS_region
  simp [wpOpsS, go_sem, recoverD, hu, Tryd.ntmps16, Exit.thenS, faultV, assert_fault]
  refine wpS_of_wp ?_
  change Code.wp _ _ _ { tmps := #[.pointer (some ⟨b, 0, none⟩), .pointer (some ⟨b + 1, 0, none⟩), .pointer (some ⟨w.heap.size, 0, none⟩), .bool true, .tuple #[.agg #[.int .i64 40], .bool true], .iface 45 (.agg #[.int .i64 40]), .tuple #[.agg #[.int .i64 40], .bool true], .agg #[.int .i64 40], .bool true, undef, undef, undef], defers := [] } _
  have hx := heap_alloc_new w (.cells #[.int .i64 40] 45)
  have z0 := cellX hx (j := 0) rfl
  have hbx := belowA' (o := .cells #[.int .i64 40] 45) (Below.refl w.heap.size w) (Nat.le_refl _)
  have h1 := (hbx.cell (p := ⟨b, 0, none⟩) (by show b < w.heap.size; omega)).trans hp
  have h2 := (hbx.cell (p := ⟨b + 1, 0, none⟩) hb).trans hq
  have h3 := (hbx.frozen (p := ⟨b, 0, none⟩) (by show b < w.heap.size; omega)).trans hfp
  have h4 := (hbx.frozen (p := ⟨b + 1, 0, none⟩) hb).trans hfq
  have hne1 : ¬ b = w.heap.size := by omega
  have hne2 : ¬ b + 1 = w.heap.size := by omega
  go_wp2_with fail
  go_region_law (fail)
  all_goals
    refine ⟨rfl, _, rfl, .tuple #[], by simp [results, Tryd.results16], rfl, rfl, ?_, ?_, ?_⟩
    · simp [go_sem, h1]
    · simp [go_sem, h2]
    · exact ((((hbx.mono (show b ≤ w.heap.size by omega)).setCell (p := ⟨b, 0, none⟩) (Nat.le_refl _) _).setCell (p := ⟨b + 1, 0, none⟩) (Nat.le_succ _) _)).drew
end Go.Proofs.YthmhmckkkceclaaDoor
/-
  rexp.Parse.
-/
namespace Go.Proofs.YthmhmckkkceclaaDoor
open Go.RowKit
/-! ### How often is at most eight -/
theorem lim_mv {l : List Nd} (h : NLim l) (k : Nat) : NLim (mv k l) := fun n hn => by
  obtain ⟨m, hm, rfl⟩ := List.mem_map.1 hn
  exact h m hm
theorem lim_app {a b : List Nd} (ha : NLim a) (hb : NLim b) : NLim (a ++ b) := fun n hn => (List.mem_append.1 hn).elim (ha n) (hb n)
theorem lim_one {n : Nd} (h : 0 ≤ n.lo ∧ n.lo ≤ 8 ∧ n.hi ≤ 8) : NLim [n] := fun m hm => by
  rw [List.mem_singleton.1 hm]
  exact h
theorem lim_leaf (kind : Int) (set : List Int) : NLim (leaf kind set).nodes := lim_one ⟨Int.le_refl _, by show (0 : Int) ≤ 8; decide, by show (0 : Int) ≤ 8; decide⟩
theorem lim_setF {x : Res (List Int)} {f : Frag} {r : List Int} (h : setF x = some (f, r)) : NLim f.nodes := by
  unfold setF at h
  split at h
  · cases h
  · cases h
    exact lim_leaf _ _
theorem rep_range {s r : List Int} {lo hi : Int} (h : repP s = some (some (lo, hi), r)) : 0 ≤ lo ∧ lo ≤ 8 ∧ hi ≤ 8 := by
  unfold repP at h
  split at h
  · cases h; decide
  · split at h
    · cases h; decide
    · split at h
      · cases h; decide
      · split at h
        · cases h
        · split at h
          · cases h
          · rename_i e
            cases h
            have hb : ∀ {lo hi a b : Int} {r r' : List Int}, brEnd lo hi r = some ((a, b), r') → a = lo ∧ b = hi := by
              intro lo hi a b r r' h
              unfold brEnd at h
              split at h
              · split at h
                · cases h
                · cases h
                  exact ⟨rfl, rfl⟩
              · cases h
            unfold braP at e
            split at e
            · cases e
            · rename_i hd
              have h1 := dig_range hd
              split at e
              · obtain ⟨rfl, rfl⟩ := hb e
                omega
              · split at e
                · cases e
                · rename_i hd2
                  have h2 := dig_range hd2
                  obtain ⟨rfl, rfl⟩ := hb e
                  omega
section
variable {alt : List Int → Res Frag}
theorem lim_item (hp : ∀ s f r, alt s = some (f, r) → NLim f.nodes) {s : List Int} {f : Frag} {r : List Int} (h : itemP alt s = some (f, r)) : NLim f.nodes := by
  unfold itemP at h
  split at h
  · cases h
  · rename_i g r1 e
    have hg : NLim g.nodes := by
      cases s with
      | nil => cases e
      | cons c s =>
        simp only [atomP] at e
        split at e
        · unfold parP at e
          split at e
          · cases e
          · rename_i e2
            split at e
            · cases e
            · cases e
              exact (hp _ _ _ e2 : NLim _)
        · split at e
          · exact lim_setF e
          · split at e
            · cases e; exact lim_leaf _ _
            · split at e
              · cases e; exact lim_leaf _ _
              · split at e
                · cases e; exact lim_leaf _ _
                · split at e
                  · exact lim_setF e
                  · split at e
                    · cases e
                    · cases e; exact lim_leaf _ _
    split at h
    · cases h
    · rename_i x r2 e2
      cases h
      cases x with
      | none => exact hg
      | some x =>
        obtain ⟨lo, hi⟩ := x
        exact lim_app hg (lim_one (rep_range e2))
theorem lim_cat : ∀ (fs : List Frag), (∀ f ∈ fs, NLim f.nodes) → NLim (catN fs)
  | [], _ => fun n hn => by cases hn
  | f :: fs, h => lim_app (h f (by simp)) (lim_mv (lim_cat fs fun g hg => h g (by simp [hg])) _)
theorem lim_many (kind : Int) (fs : List Frag) (h : ∀ f ∈ fs, NLim f.nodes) : NLim (manyP kind fs).nodes := by
  have hg : ∀ ks : List Nat, NLim (catN fs ++ [⟨kind, ks, 0, 0, []⟩]) := fun ks => lim_app (lim_cat fs h) (lim_one ⟨Int.le_refl _, by show (0 : Int) ≤ 8; decide, by show (0 : Int) ≤ 8; decide⟩)
  match fs, h, hg with
  | [], _, hg => exact hg _
  | [f], h, _ => exact h f (by simp)
  | f :: g :: fs, _, hg => exact hg _
theorem lim_rowL (hp : ∀ s f r, alt s = some (f, r) → NLim f.nodes) (k : Nat) : ∀ s fs r, rowL alt k s = some (fs, r) → ∀ f ∈ fs, NLim f.nodes := by
  induction k with
  | zero =>
    intro s fs r h
    cases s with
    | nil => cases h; simp
    | cons c s =>
      unfold rowL at h
      split at h
      · cases h; simp
      · cases h
  | succ k ih =>
    intro s fs r h
    cases s with
    | nil => cases h; simp
    | cons c s =>
      unfold rowL at h
      split at h
      · cases h; simp
      · simp only at h
        split at h
        · cases h
        · rename_i e
          split at h
          · cases h
          · rename_i e2
            cases h
            intro g hg
            rcases List.mem_cons.1 hg with rfl | hg
            · exact lim_item hp e
            · exact ih _ _ _ e2 g hg
theorem lim_rowP (hp : ∀ s f r, alt s = some (f, r) → NLim f.nodes) {s : List Int} {f : Frag} {r : List Int} (h : rowP alt s = some (f, r)) : NLim f.nodes := by
  unfold rowP at h
  split at h
  · cases h
  · rename_i fs r1 e
    cases h
    have h1 := lim_rowL hp _ _ _ _ e
    match fs, h1 with
    | [], _ => exact lim_leaf _ _
    | g :: gs, h1 => exact lim_many _ _ h1
theorem lim_altL (hp : ∀ s f r, alt s = some (f, r) → NLim f.nodes) (k : Nat) : ∀ s fs r, altL alt k s = some (fs, r) → ∀ f ∈ fs, NLim f.nodes := by
  have one : ∀ {f : Frag}, NLim f.nodes → ∀ g ∈ [f], NLim g.nodes := fun h g hg => by
    rw [List.mem_singleton.1 hg]
    exact h
  induction k with
  | zero =>
    intro s fs r h
    unfold altL at h
    split at h
    · cases h
    · rename_i e
      split at h
      · cases h
        exact one (lim_rowP hp e)
      · cases h
  | succ k ih =>
    intro s fs r h
    unfold altL at h
    split at h
    · cases h
    · rename_i e
      split at h
      · cases h
        exact one (lim_rowP hp e)
      · simp only at h
        split at h
        · cases h
        · rename_i e2
          cases h
          intro g hg
          rcases List.mem_cons.1 hg with rfl | hg
          · exact lim_rowP hp e
          · exact ih _ _ _ e2 g hg
end
theorem lim_altN (n : Nat) : ∀ s f r, altN n s = some (f, r) → NLim f.nodes := by
  induction n with
  | zero => intro s f r h; cases h
  | succ n ih =>
    intro s f r h
    have h' : altB (altN n) s = some (f, r) := h
    unfold altB at h'
    split at h'
    · cases h'
    · rename_i e
      cases h'
      exact lim_many _ _ (lim_altL ih _ _ _ _ e)
/-! ### The runes of a text -/
def runesZ (s : ByteArray) : List Int := (runes s.data.toList).map fun (r : Nat) => (r : Int)
theorem runesFrom_list (s : ByteArray) : ∀ (bound i : Nat) (acc : Array Value), s.size - i ≤ bound → (Conv.runesFrom s bound i acc).toList = acc.toList ++ (runes (s.data.toList.drop i)).map fun (r : Nat) => Value.int .i32 (r : Int)
  | 0, i, acc, h => by
    unfold Conv.runesFrom
    rw [runes_end s i (by omega)]
    simp
  | bound + 1, i, acc, h => by
    unfold Conv.runesFrom
    by_cases hi : i < s.size
    · rw [if_pos hi]
      have hw := width_pos' s i
      simp only
      rw [runesFrom_list s bound _ _ (by omega), runes_pos s i hi]
      simp
    · rw [if_neg hi, runes_end s i hi]
      simp
theorem runes_conv (s : ByteArray) : (Conv.runesFrom s s.size 0 #[]).toList = (runesZ s).map rCell := by
  rw [runesFrom_list s s.size 0 #[] (by omega), List.drop_zero]
  unfold runesZ
  rw [List.map_map]
  rfl
theorem runesZ_len (s : ByteArray) : (runesZ s).length ≤ s.size := by
  unfold runesZ
  rw [List.length_map]
  have := runes_length s.data.toList
  simpa [ByteArray.size_data] using this
theorem runesZ_scal (s : ByteArray) : Scal (runesZ s) := fun c hc => by
  obtain ⟨r, hr, rfl⟩ := List.mem_map.1 hc
  exact ⟨r, runes_scalar _ r hr, rfl⟩
/-- []rune(s). -/
theorem conv_to_runes (s : ByteArray) (hs : s.size ≤ 1000) (w : World) : ∃ cap cs, (convert 9 31 (.string s)).run Tryd.prog w = .ok (.slice (some ⟨w.heap.size, 0, none⟩) (runesZ s).length cap) (w.drew.alloc (.cells cs 21)) ∧
    (runesZ s).length ≤ cap ∧ cap ≤ maxLen ∧ cs.toList.take (runesZ s).length = (runesZ s).map rCell := by
  have hl := congrArg List.length (runes_conv s)
  rw [Array.length_toList, List.length_map] at hl
  have hz := runesZ_len s
  have h := run_runes_of_string (P := Tryd.prog) w 9 31 21 s Tryd.underlying9 Tryd.underlying31 Tryd.underlying21 (by rw [hl]; omega)
  rw [hl] at h
  refine ⟨_, _, h, grownCap_ge _ _ _ _, grownCap_le_maxLen _ _ _ _ (by unfold maxLen; omega), ?_⟩
  rw [Array.toList_append, runes_conv, List.take_append_of_le_length (by simp), List.take_of_length_le (by simp)]
/-! ### What Parse answers -/
def parseE (s : ByteArray) : Int := if 128 < s.size then 4 else if Lib.validD s.data.toList = false then 8 else treeE (runesZ s)
def parseL (s : ByteArray) : List Nd := if parseE s = 0 then treeL (runesZ s) else []
def Parsed (w : World) (s : ByteArray) (e : Ending) (w' : World) : Prop := ∃ v Z, e = .returned (.tuple #[v, .int .i64 (parseE s)]) ∧ NOwn w' w.heap.size v Z ∧ Z.map Prod.fst = parseL s ∧ Below w.heap.size w w'
theorem Parsed.bad {w w' : World} {s : ByteArray} (E : Int) (hE : parseE s = E) (h0 : E ≠ 0) (hb : Below w.heap.size w w') : Parsed w s (.returned (.tuple #[.slice none 0 0, .int .i64 E])) w' := by
  refine ⟨_, [], by rw [hE], NOwn.nil _ _, ?_, hb⟩
  unfold parseL
  rw [hE, if_neg h0]
  rfl
set_option maxRecDepth 100000 in
set_option maxHeartbeats 10000000 in
theorem par_Parse_long (s : ByteArray) (w : World) (h : 128 < s.size) (_hs : s.size ≤ maxLen) : Calls Tryd.prog 9 #[.string s] w (Parsed w s) := by
  have hd : decide ((128 : Int) < (s.size : Int)) = true := decide_eq_true (by omega)
  have hE : parseE s = 4 := by unfold parseE; rw [if_pos h]
  have HE := Lib.hid hE
  clear hE h
  go_enter_defers Tryd.func9, Tryd.ntmps9
  go_wp2
  exact ⟨_, by simp [results, Tryd.results9, go_sem], Parsed.bad 4 HE.out (by decide) (belowA' (belowA' (Below.refl _ _) (Nat.le_refl _)) (by simp))⟩
set_option maxRecDepth 100000 in
set_option maxHeartbeats 10000000 in
theorem par_Parse_bad (s : ByteArray) (w : World) (hT : Tabs w) (h : s.size ≤ 128) (hv : Lib.validD s.data.toList = false) : Calls Tryd.prog 9 #[.string s] w (Parsed w s) := by
  have hd : decide ((128 : Int) < (s.size : Int)) = false := decide_eq_false (by omega)
  have hE : parseE s = 8 := by unfold parseE; rw [if_neg (by omega), if_pos hv]
  have HE := Lib.hid hE
  have CV := Lib.hid (fun W (hW : Below w.heap.size w W) => utf_Valid s W (by unfold maxLen; omega) (Utf8Tabs_below hT hW))
  rw [hv] at CV
  clear hE hT hv
  go_enter_defers Tryd.func9, Tryd.ntmps9
  go_upto_region 3 with fail
  have hb2 : Below w.heap.size w ((w.alloc (.cells #[.slice none 0 0] 23)).alloc (.cells #[.int .i64 0] 24)) := belowA' (belowA' (Below.refl _ _) (Nat.le_refl _)) (by simp)
  have c0 : ((w.alloc (.cells #[.slice none 0 0] 23)).alloc (.cells #[.int .i64 0] 24)).cell? ⟨w.heap.size, 0, none⟩ = some (.slice none 0 0) := by simp [go_sem]
  have c1 : ((w.alloc (.cells #[.slice none 0 0] 23)).alloc (.cells #[.int .i64 0] 24)).cell? ⟨w.heap.size + 1, 0, none⟩ = some (.int .i64 0) := by simp [go_sem]
  have f0 : ((w.alloc (.cells #[.slice none 0 0] 23)).alloc (.cells #[.int .i64 0] 24)).frozen? ⟨w.heap.size, 0, none⟩ = false := by simp [go_sem]
  have f1 : ((w.alloc (.cells #[.slice none 0 0] 23)).alloc (.cells #[.int .i64 0] 24)).frozen? ⟨w.heap.size + 1, 0, none⟩ = false := by simp [go_sem]
  have hsz : ((w.alloc (.cells #[.slice none 0 0] 23)).alloc (.cells #[.int .i64 0] 24)).heap.size = w.heap.size + 2 := by simp
  generalize (w.alloc (.cells #[.slice none 0 0] 23)).alloc (.cells #[.int .i64 0] 24) = w2 at *
  have CV2 := CV.out w2 hb2
  clear CV
  go_upto_region 4 with (go_at_call 15; refine CV2.mono ?_; rintro e w3 ⟨rfl, hb3⟩)
  have d0 := (hb3.cell (p := ⟨w.heap.size, 0, none⟩) (by rw [hsz]; show w.heap.size < w.heap.size + 2; omega)).trans c0
  have d1 := (hb3.cell (p := ⟨w.heap.size + 1, 0, none⟩) (by rw [hsz]; show w.heap.size + 1 < w.heap.size + 2; omega)).trans c1
  have e0 := (hb3.frozen (p := ⟨w.heap.size, 0, none⟩) (by rw [hsz]; show w.heap.size < w.heap.size + 2; omega)).trans f0
  have e1 := (hb3.frozen (p := ⟨w.heap.size + 1, 0, none⟩) (by rw [hsz]; show w.heap.size + 1 < w.heap.size + 2; omega)).trans f1
  clear c0 c1 f0 f1
  go_wp2
  exact ⟨_, by simp [results, Tryd.results9, go_sem, d0, d1], Parsed.bad 8 HE.out (by decide) (((hb2.trans (hb3.mono (by omega))).setCell (p := ⟨w.heap.size, 0, none⟩) (Nat.le_refl _) _).setCell (p := ⟨w.heap.size + 1, 0, none⟩) (Nat.le_succ _) _)⟩
end Go.Proofs.YthmhmckkkceclaaDoor
/-
  rexp.Parse: a text that is valid.
-/
namespace Go.Proofs.YthmhmckkkceclaaDoor
open Go.RowKit
theorem treeE_none {s : List Int} (h : patP s = none) : treeE s = 40 := by
  unfold treeE
  rw [h]
theorem treeE_some {s : List Int} {f : Frag} (h : patP s = some f) : treeE s = if 16 < f.deep then 9 else if 1000 < sizeP f.nodes then 3 else 0 := by
  unfold treeE
  rw [h]
theorem treeL_some {s : List Int} {f : Frag} (h : patP s = some f) (h0 : treeE s = 0) : treeL s = f.nodes := by
  unfold treeL
  rw [h]
  exact if_pos h0
theorem two_set {w : World} {b : Nat} {x y : Value} (x' y' : Value) (h0 : w.cell? ⟨b, 0, none⟩ = some x) (h1 : w.cell? ⟨b + 1, 0, none⟩ = some y) :
    ((w.setCell ⟨b, 0, none⟩ x').setCell ⟨b + 1, 0, none⟩ y').cell? ⟨b, 0, none⟩ = some x' ∧ ((w.setCell ⟨b, 0, none⟩ x').setCell ⟨b + 1, 0, none⟩ y').cell? ⟨b + 1, 0, none⟩ = some y' ∧
      ((w.setCell ⟨b, 0, none⟩ x').setCell ⟨b + 1, 0, none⟩ y').heap.size = w.heap.size := by
  refine ⟨?_, ?_, ?_⟩
  · simp [go_sem, h0]
  · simp [go_sem, h1]
  · simp
set_option maxRecDepth 100000 in
set_option maxHeartbeats 20000000 in
theorem par_Parse_go (s : ByteArray) (w : World) (hT : Tabs w) (h : s.size ≤ 128) (hv : Lib.validD s.data.toList = true) : Calls Tryd.prog 9 #[.string s] w (Parsed w s) := by
  have hmf : ∀ (fn : Fn) (first cap : Array Value) (w : World), (Instr.makeFunc fn first cap).run Tryd.prog w = .ok (.func fn first cap) w := fun _ _ _ _ => rfl
  have hd : decide ((128 : Int) < (s.size : Int)) = false := decide_eq_false (by omega)
  have hE : parseE s = treeE (runesZ s) := by unfold parseE; rw [if_neg (by omega), if_neg (by rw [hv]; decide)]
  have HE := Lib.hid hE
  have hrl := runesZ_len s
  have HCV := Lib.hid (fun W => conv_to_runes s (by omega) W)
  have CV := Lib.hid (fun W (hW : Below w.heap.size w W) => utf_Valid s W (by unfold maxLen; omega) (Utf8Tabs_below hT hW))
  rw [hv] at CV
  clear hE hT hv
  go_enter_defers Tryd.func9, Tryd.ntmps9
  go_upto_region 3 with fail
  have hb2 : Below w.heap.size w ((w.alloc (.cells #[.slice none 0 0] 23)).alloc (.cells #[.int .i64 0] 24)) := belowA' (belowA' (Below.refl _ _) (Nat.le_refl _)) (by simp)
  have c0 : ((w.alloc (.cells #[.slice none 0 0] 23)).alloc (.cells #[.int .i64 0] 24)).cell? ⟨w.heap.size, 0, none⟩ = some (.slice none 0 0) := by simp [go_sem]
  have c1 : ((w.alloc (.cells #[.slice none 0 0] 23)).alloc (.cells #[.int .i64 0] 24)).cell? ⟨w.heap.size + 1, 0, none⟩ = some (.int .i64 0) := by simp [go_sem]
  have f0 : ((w.alloc (.cells #[.slice none 0 0] 23)).alloc (.cells #[.int .i64 0] 24)).frozen? ⟨w.heap.size, 0, none⟩ = false := by simp [go_sem]
  have f1 : ((w.alloc (.cells #[.slice none 0 0] 23)).alloc (.cells #[.int .i64 0] 24)).frozen? ⟨w.heap.size + 1, 0, none⟩ = false := by simp [go_sem]
  have hsz : ((w.alloc (.cells #[.slice none 0 0] 23)).alloc (.cells #[.int .i64 0] 24)).heap.size = w.heap.size + 2 := by simp
  generalize (w.alloc (.cells #[.slice none 0 0] 23)).alloc (.cells #[.int .i64 0] 24) = w2 at *
  have CV2 := CV.out w2 hb2
  clear CV
  go_upto_region 5 with (go_at_call 15; refine CV2.mono ?_; rintro e w3 ⟨rfl, hb3⟩)
  have hsz3 := hb3.size
  obtain ⟨cap, cs, hconv, hcap1, hcap2, hcs⟩ := HCV.out w3
  have HCS := Lib.hid hcs
  clear HCV CV2 hd hcs
  obtain ⟨S, hS⟩ : ∃ S, runesZ s = S := ⟨_, rfl⟩
  have hSC : Scal S := by rw [← hS]; exact runesZ_scal s
  have HSC := Lib.hid hSC
  rw [hS] at hrl hconv hcap1 HCS HE
  have HSS := Lib.hid hS
  clear hS hSC
  obtain ⟨n, hn⟩ : ∃ n, S.length = n := ⟨_, rfl⟩
  rw [hn] at hrl hconv hcap1 HCS
  have HN := Lib.hid hn
  clear hn
  go_upto_region 7 with fail
  have hx0 : ((w3.alloc (.cells cs 21)).alloc (.cells #[.slice (some ⟨w3.heap.size, 0, none⟩) n cap, .slice none 0 0, .int .i64 0, .int .i64 0] 43)).drew.heap[w3.heap.size]? = some (.cells cs 21 (0, 0)) := by
    show ((w3.alloc (.cells cs 21)).alloc _).heap[w3.heap.size]? = _
    rw [heap_alloc_old (w3.alloc (.cells cs 21)) _ (by simp)]
    exact heap_alloc_new w3 _
  have hx1 : ((w3.alloc (.cells cs 21)).alloc (.cells #[.slice (some ⟨w3.heap.size, 0, none⟩) n cap, .slice none 0 0, .int .i64 0, .int .i64 0] 43)).drew.heap[w3.heap.size + 1]? = some (parObj (.slice (some ⟨w3.heap.size, 0, none⟩) n cap) (.slice none 0 0) 0 0) := by
    have := heap_alloc_new (w3.alloc (.cells cs 21)) (.cells #[.slice (some ⟨w3.heap.size, 0, none⟩) n cap, .slice none 0 0, .int .i64 0, .int .i64 0] 43)
    rw [show (w3.alloc (.cells cs 21)).heap.size = w3.heap.size + 1 by simp] at this
    exact this
  have hb4 : Below w3.heap.size w3 ((w3.alloc (.cells cs 21)).alloc (.cells #[.slice (some ⟨w3.heap.size, 0, none⟩) n cap, .slice none 0 0, .int .i64 0, .int .i64 0] 43)).drew := (belowA' (belowA' (Below.refl _ _) (Nat.le_refl _)) (by simp)).drew
  generalize ((w3.alloc (.cells cs 21)).alloc (.cells #[.slice (some ⟨w3.heap.size, 0, none⟩) n cap, .slice none 0 0, .int .i64 0, .int .i64 0] 43)).drew = w4 at *
  have hlt4 : w3.heap.size + 1 < w4.heap.size := (Array.getElem?_eq_some_iff.1 hx1).1
  have hPS : PS (fun _ => False) w4 (w3.heap.size + 1) S [] 0 0 := by
    refine ⟨_, .slice none 0 0, [], ⟨hx1, fun W hW => ?_, NOwn.nil _ _⟩, rfl, fun z hz => by simp at hz⟩
    have hbl := hW.block w3.heap.size (by omega)
    rw [hx0] at hbl
    refine ⟨by simp, _, cap, by rw [HN.out], by rw [HN.out]; exact hcap1, hcap2, fun h0 => ⟨w3.heap.size, 0, rfl, by have := hW.size; omega, fun j hj => ?_⟩⟩
    rw [Nat.zero_add, Lib.cell_of_heap hbl]
    have hj2 : j < n := by rw [List.length_map, HN.out] at hj; exact hj
    have h5 := congrArg (fun l => l[j]?) HCS.out
    simp only [List.getElem?_take_of_lt hj2] at h5
    rw [Array.getElem?_toList] at h5
    rw [h5, List.getElem?_eq_getElem hj]
  have hcells : ∀ W, Below (w3.heap.size + 1) w4 W → W.cell? ⟨w.heap.size, 0, none⟩ = some (.slice none 0 0) ∧ W.cell? ⟨w.heap.size + 1, 0, none⟩ = some (.int .i64 0) ∧ W.frozen? ⟨w.heap.size, 0, none⟩ = false ∧ W.frozen? ⟨w.heap.size + 1, 0, none⟩ = false ∧ w.heap.size + 1 < W.heap.size ∧ Below w.heap.size w W := fun W hW => by
    have hbW : Below w2.heap.size w2 W := hb3.trans ((hb4.mono hsz3).trans (hW.mono (by omega)))
    have l0 : (⟨w.heap.size, 0, none⟩ : Addr).block < w2.heap.size := by rw [hsz]; show w.heap.size < w.heap.size + 2; omega
    have l1 : (⟨w.heap.size + 1, 0, none⟩ : Addr).block < w2.heap.size := by rw [hsz]; show w.heap.size + 1 < w.heap.size + 2; omega
    exact ⟨(hbW.cell l0).trans c0, (hbW.cell l1).trans c1, (hbW.frozen l0).trans f0, (hbW.frozen l1).trans f1, by have := hbW.size; omega, hb2.trans (hbW.mono (by omega))⟩
  have HCELL := Lib.hid hcells
  have hask : Ask (fun _ => False) (w3.heap.size + 1) w4 S [] 0 0 := ⟨HSC.out, by rw [HN.out]; omega, fun k hk => hk.elim, Nat.le_refl _, by rw [HN.out]; omega, by rw [HN.out]; simp; omega, hPS⟩
  have CA := par_all n (fun _ => False) (w3.heap.size + 1) w4 S [] 0 0 (by rw [HN.out]; exact Nat.le_refl _) hask
  have hp0 : w.heap.size + 2 ≤ w3.heap.size := by omega
  clear hx0 hx1 hb4 hPS hask hcells c0 c1 f0 f1 hb2 hb3 hconv HCS hcap1 hcap2 hmf
  obtain ⟨p, hp⟩ : ∃ p, w3.heap.size + 1 = p := ⟨_, rfl⟩
  rw [hp] at CA HCELL hlt4 ⊢
  have hpw : w.heap.size + 2 ≤ p := by omega
  have HP := Lib.hid hp
  clear hp
  have hpat : patP S = match altN (n + 1) S with
      | none => none
      | some (f, r) => if r = [] then some f else none := by
    unfold patP
    rw [HN.out]
    cases altN (n + 1) S <;> rfl
  have HPAT := Lib.hid hpat
  clear hpat
  cases halt : altN (n + 1) S with
  | none =>
    have hEE : parseE s = 40 := by
      rw [HE.out]
      refine treeE_none ?_
      rw [HPAT.out, halt]
    have HEE := Lib.hid hEE
    rw [halt] at CA
    clear hEE halt
    go_wp2_with (go_at_call 17; refine CA.mono ?_; rintro e w5 ⟨rfl, hb5⟩)
    refine leaves_cons (f := 16) (args := #[.pointer (some ⟨w.heap.size, 0, none⟩), .pointer (some ⟨w.heap.size + 1, 0, none⟩)]) (by simp) (by simp [go_sem]) ?_
    obtain ⟨y0, y1, y2, y3, y4, y5⟩ := HCELL.out w5 hb5
    refine (catch_fault w.heap.size w5 [] _ _ y4 y0 y1 y2 y3).mono ?_
    rintro e u' w'' ⟨rfl, rfl, hc1, hc2, hbz⟩
    exact ⟨_, by simp [results, Tryd.results9, go_sem, hc1, hc2], Parsed.bad 40 HEE.out (by decide) ((y5.mono (Nat.le_refl _)).trans hbz)⟩
  | some x =>
    obtain ⟨f, r⟩ := x
    have hpt := altN_part (n + 1) S f r halt
    have hlm := lim_altN (n + 1) S f r halt
    rw [halt] at CA
    obtain ⟨q, hq⟩ : ∃ q, ([] : List Nd).length + f.nodes.length - 1 = q := ⟨_, rfl⟩
    have CA2 : Calls Tryd.prog 17 #[.pointer (some ⟨p, 0, none⟩)] w4 fun e w' => e = .returned (.int .i64 (q : Int)) ∧ PS (fun _ => False) w' p r f.nodes 0 f.deep ∧ Mvd p w4 w' := by
      refine CA.mono ?_
      rintro e w5 ⟨g1, g2, g3⟩
      refine ⟨by rw [g1, hq], ?_, g3⟩
      rw [List.nil_append, show ([] : List Nd).length = 0 from rfl, mv_zero, show max 0 (0 + f.deep) = f.deep by omega] at g2
      exact g2
    have HPT := Lib.hid hpt
    have HLM := Lib.hid hlm
    have HAL := Lib.hid halt
    clear CA hq hpt hlm halt
    go_upto_region 8 with (go_at_call 17; refine CA2.mono ?_; rintro e w5 ⟨rfl, hp5, hm5⟩; have H5 := Lib.hid (And.intro hp5 hm5); clear hp5 hm5)
    cases r with
    | cons c rest =>
      have hEE : parseE s = 40 := by
        rw [HE.out]
        refine treeE_none ?_
        rw [HPAT.out, HAL.out]
        exact if_neg (by simp)
      have HEE := Lib.hid hEE
      obtain ⟨sv, ov, Z, hst, -⟩ := H5.out.1
      obtain ⟨⟨k0, -, -, -⟩, -⟩ := hst.cells
      obtain ⟨b, off, cap, rfl, -⟩ := hst.front
      have hd0 : decide ((((rest.length + 1 : Nat)) : Int) = 0) = false := decide_eq_false (by omega)
      clear hEE hst
      go_wp2_with (go_at_call 18; refine (par_mustnt p _).mono ?_; rintro e w6 ⟨rfl, rfl⟩)
      refine leaves_cons (f := 16) (args := #[.pointer (some ⟨w.heap.size, 0, none⟩), .pointer (some ⟨w.heap.size + 1, 0, none⟩)]) (by simp) (by simp [go_sem]) ?_
      obtain ⟨y0, y1, y2, y3, y4, y5⟩ := HCELL.out _ H5.out.2.low
      refine (catch_fault w.heap.size w5 [] _ _ y4 y0 y1 y2 y3).mono ?_
      rintro e u' w'' ⟨rfl, rfl, hc1, hc2, hbz⟩
      exact ⟨_, by simp [results, Tryd.results9, go_sem, hc1, hc2], Parsed.bad 40 HEE.out (by decide) ((y5.mono (Nat.le_refl _)).trans hbz)⟩
    | nil =>
      have hP : patP S = some f := by
        rw [HPAT.out, HAL.out]
        exact if_pos rfl
      have HP2 := Lib.hid hP
      obtain ⟨sv, ov, Z, hst, hz, -⟩ := H5.out.1
      obtain ⟨⟨k0, k1, -, k3⟩, -⟩ := hst.cells
      obtain ⟨a, cap, rfl⟩ := hst.back
      obtain ⟨y0, y1, y2, y3, y4, y5⟩ := HCELL.out w5 H5.out.2.low
      have HST := Lib.hid hst
      have HZ := Lib.hid hz
      have HY := Lib.hid y5
      have HY4 := Lib.hid y4
      clear hP hst hz y5 y4
      by_cases hdp : 16 < f.deep
      · have hd1 : decide ((16 : Int) < (f.deep : Int)) = true := decide_eq_true (by omega)
        have hEE : parseE s = 9 := by rw [HE.out, treeE_some HP2.out, if_pos hdp]
        have HEE := Lib.hid hEE
        clear hEE
        go_wp2_with (go_at_call 18; refine (par_must p _).mono ?_; rintro e w6 ⟨rfl, rfl⟩)
        refine leaves_cons (f := 16) (args := #[.pointer (some ⟨w.heap.size, 0, none⟩), .pointer (some ⟨w.heap.size + 1, 0, none⟩)]) (by simp) (by simp [go_sem]) ?_
        refine (catch_idle ⟨w.heap.size, 0, none⟩ ⟨w.heap.size + 1, 0, none⟩ _).mono ?_
        rintro e u' w'' ⟨rfl, rfl, hbz⟩
        obtain ⟨q0, q1, q2⟩ := two_set (.slice none 0 0) (.int .i64 9) y0 y1
        have q0 := (hbz.cell (p := ⟨w.heap.size, 0, none⟩) (by rw [q2]; have := HY4.out; show w.heap.size < _; omega)).trans q0
        have q1 := (hbz.cell (p := ⟨w.heap.size + 1, 0, none⟩) (by rw [q2]; exact HY4.out)).trans q1
        exact ⟨_, by simp [results, Tryd.results9, go_sem, q0, q1], Parsed.bad 9 HEE.out (by decide) (((HY.out.setCell (p := ⟨w.heap.size, 0, none⟩) (Nat.le_refl _) _).setCell (p := ⟨w.heap.size + 1, 0, none⟩) (Nat.le_succ _) _).trans (hbz.mono (by rw [q2]; exact HY.out.size)))⟩
      · have hd1 : decide ((16 : Int) < (f.deep : Int)) = false := decide_eq_false (by omega)
        go_upto_region 11 with (go_at_call 18; refine (par_must p _).mono ?_; rintro e w6 ⟨rfl, rfl⟩)
        have hlen : Z.length = f.nodes.length := by rw [← HZ.out, List.length_map]
        have CS := par_size (p + 1) ov Z w5 HST.out.out (by rw [HZ.out]; exact HPT.out.wf) (by rw [HZ.out]; exact HLM.out) (by rw [hlen]; exact List.length_pos_iff.2 HPT.out.some) (by
          have := HPT.out.few
          rw [HN.out] at this
          rw [hlen]
          omega)
        rw [HZ.out] at CS
        obtain ⟨oa, oc, rfl⟩ := owns_slice HST.out.out.own
        have hT0 := treeE_some HP2.out
        rw [if_neg hdp, ← HE.out] at hT0
        have hown := HST.out.out
        have HOWN := Lib.hid hown
        have HZL := Lib.hid hlen
        obtain ⟨z, hzz⟩ : ∃ z, sizeP f.nodes = z := ⟨_, rfl⟩
        rw [hzz] at CS hT0
        clear hzz hown hlen
        obtain ⟨m, hm⟩ : ∃ m, Z.length = m := ⟨_, rfl⟩
        rw [hm] at k1 CS
        have HM := Lib.hid hm
        clear hm
        by_cases hsz : 1000 < z
        · have hd2 : decide ((1000 : Int) < z) = true := decide_eq_true hsz
          rw [if_pos hsz] at hT0
          have HEE := Lib.hid hT0
          clear hT0
          go_upto_region 12 with (go_at_call 19; refine CS.mono ?_; rintro e w6 ⟨rfl, hb6⟩)
          have hlp := H5.out.1.lt
          have hb6' := hb6.mono (B' := p) (Nat.le_of_lt hlp)
          obtain ⟨x0, x1, x2, x3, x4, x5⟩ := HCELL.out w6 (H5.out.2.low.trans hb6')
          have HX := Lib.hid (And.intro x4 x5)
          clear x4 x5 hb6' hlp k0 k1 k3 y0 y1 y2 y3 CS CA2
          go_wp2
          refine leaves_cons (f := 16) (args := #[.pointer (some ⟨w.heap.size, 0, none⟩), .pointer (some ⟨w.heap.size + 1, 0, none⟩)]) (by simp) (by simp [go_sem]) ?_
          refine (catch_idle ⟨w.heap.size, 0, none⟩ ⟨w.heap.size + 1, 0, none⟩ _).mono ?_
          rintro e u' w'' ⟨rfl, rfl, hbz⟩
          obtain ⟨q0, q1, q2⟩ := two_set (.slice none 0 0) (.int .i64 3) x0 x1
          have q0 := (hbz.cell (p := ⟨w.heap.size, 0, none⟩) (by rw [q2]; have := HX.out.1; show w.heap.size < _; omega)).trans q0
          have q1 := (hbz.cell (p := ⟨w.heap.size + 1, 0, none⟩) (by rw [q2]; exact HX.out.1)).trans q1
          exact ⟨_, by simp [results, Tryd.results9, go_sem, q0, q1], Parsed.bad 3 HEE.out (by decide) (((HX.out.2.setCell (p := ⟨w.heap.size, 0, none⟩) (Nat.le_refl _) _).setCell (p := ⟨w.heap.size + 1, 0, none⟩) (Nat.le_succ _) _).trans (hbz.mono (by rw [q2]; exact HX.out.2.size)))⟩
        · have hd2 : decide ((1000 : Int) < z) = false := decide_eq_false hsz
          rw [if_neg hsz] at hT0
          have HEE := Lib.hid hT0
          clear hT0
          go_upto_region 13 with (go_at_call 19; refine CS.mono ?_; rintro e w6 ⟨rfl, hb6⟩)
          have hlp := H5.out.1.lt
          have hb6' := hb6.mono (B' := p) (Nat.le_of_lt hlp)
          have hown6 := HOWN.out.keptB hb6
          have k6 := (hb6.cell (p := ⟨p, 1, none⟩) hlp).trans k1
          obtain ⟨x0, x1, x2, x3, x4, x5⟩ := HCELL.out w6 (H5.out.2.low.trans hb6')
          have HX := Lib.hid (And.intro x4 x5)
          have HO6 := Lib.hid hown6
          clear hown6 x4 x5 hb6' hlp k0 k1 k3 y0 y1 y2 y3 CS CA2
          go_wp2
          refine leaves_cons (f := 16) (args := #[.pointer (some ⟨w.heap.size, 0, none⟩), .pointer (some ⟨w.heap.size + 1, 0, none⟩)]) (by simp) (by simp [go_sem]) ?_
          refine (catch_idle ⟨w.heap.size, 0, none⟩ ⟨w.heap.size + 1, 0, none⟩ _).mono ?_
          rintro e u' w'' ⟨rfl, rfl, hbz⟩
          obtain ⟨q0, q1, q2⟩ := two_set (.slice oa m oc) (.int .i64 0) x0 x1
          have q0 := (hbz.cell (p := ⟨w.heap.size, 0, none⟩) (by rw [q2]; have := HX.out.1; show w.heap.size < _; omega)).trans q0
          have q1 := (hbz.cell (p := ⟨w.heap.size + 1, 0, none⟩) (by rw [q2]; exact HX.out.1)).trans q1
          have o1 := HO6.out.kept (gset w6 w.heap.size 0 (.slice oa m oc)) (fun k hk => by cases hk; omega)
          have o2 := o1.kept (gset _ (w.heap.size + 1) 0 (.int .i64 0)) (fun k hk => by cases hk; omega)
          have o3 := (o2.keptB hbz).base (A := w.heap.size) (by omega)
          rw [HM.out] at o3
          refine ⟨.tuple #[.slice oa m oc, .int .i64 (parseE s)], by rw [HEE.out]; simp [results, Tryd.results9, go_sem, q0, q1], _, Z, rfl, o3, ?_, ((HX.out.2.setCell (p := ⟨w.heap.size, 0, none⟩) (Nat.le_refl _) _).setCell (p := ⟨w.heap.size + 1, 0, none⟩) (Nat.le_succ _) _).trans (hbz.mono (by rw [q2]; exact HX.out.2.size))⟩
          unfold parseL
          rw [if_pos HEE.out, HZ.out, HSS.out]
          refine (treeL_some HP2.out ?_).symm
          rw [← HE.out]
          exact HEE.out
/-- rexp.Parse, whole: its answer is the plain one. -/
theorem par_Parse (s : ByteArray) (w : World) (hT : Tabs w) (h : s.size ≤ maxLen) : Calls Tryd.prog 9 #[.string s] w (Parsed w s) := by
  by_cases h1 : 128 < s.size
  · exact par_Parse_long s w h1 h
  · cases hv : Lib.validD s.data.toList with
    | false => exact par_Parse_bad s w hT (by omega) hv
    | true => exact par_Parse_go s w hT (by omega) hv
end Go.Proofs.YthmhmckkkceclaaDoor
