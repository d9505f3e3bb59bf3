/-
  The program's JSON parser: number.
-/
import Derived.Test.YtljnbbdhmlfhjaaDoorJsB
namespace Go.Proofs.YtljnbbdhmlfhjaaDoor
open Go.RowKit
theorem isAt_one (b : Bs) (a : Nat) (c : UInt8) : isAt b a [c] = decide ((b.drop a).head? = some c) := by
  unfold isAt
  cases b.drop a with
  | nil => rfl
  | cons d s => simp
theorem isAt_two (b : Bs) (a : Nat) (c d : UInt8) : isAt b a [c, d] = decide ((b.drop a).head? = some c ∨ (b.drop a).head? = some d) := by
  unfold isAt
  cases b.drop a with
  | nil => rfl
  | cons d s => simp
theorem minus_at (b : Bs) : isAt b 0 [45] = decide (minusN b = 1) := by
  rw [isAt_one, List.drop_zero]
  unfold minusN
  split <;> simp [*]
theorem minus_two (b : Bs) : minusN b = 0 ∨ minusN b = 1 := by
  unfold minusN
  split
  · exact .inr rfl
  · exact .inl rfl
theorem sign_two (b : Bs) : signN b = 0 ∨ signN b = 1 := by
  unfold signN
  split
  · exact .inr rfl
  · exact .inl rfl
theorem sign_at (b : Bs) (a : Nat) : isAt b a [43, 45] = decide (signN (b.drop a) = 1) := by
  rw [isAt_two]
  unfold signN
  split
  · rename_i h; rw [decide_eq_true h]; rfl
  · rename_i h; rw [decide_eq_false h]; rfl
theorem sign_le (s : Bs) : signN s ≤ s.length := by
  unfold signN
  split
  · rename_i hh
    cases s with
    | nil => simp at hh
    | cons => simp
  · omega
theorem argRow_low {w w' : World} {v : Value} {b : Bs} (h : argRow w v b.length 1 (b.map bCell)) (hb : Below w.heap.size w w') : argRow w' v b.length 1 (b.map bCell) := argRow_below h hb
set_option maxRecDepth 100000 in
set_option maxHeartbeats 8000000 in
theorem js_number (v : Value) (b : Bs) (w : World) (hb : argRow w v b.length 1 (b.map bCell)) (hl : b.length ≤ 1099511627776) :
    Calls Tryd.prog 28 #[v] w fun e w' => e = .returned (.int .i64 (numN b : Int)) ∧ Below w.heap.size w w' := by
  obtain ⟨m, hm⟩ : ∃ m, minusN b = m := ⟨_, rfl⟩
  have hml := minus_le b
  have hm2 := minus_two b
  have ham := minus_at b
  rw [hm] at hml hm2 ham
  obtain ⟨n, hn⟩ : ∃ n, digs (b.drop m) = n := ⟨_, rfl⟩
  have hnl := digs_le (b.drop m)
  rw [hn, List.length_drop] at hnl
  obtain ⟨R, hR⟩ : ∃ R, numN b = R := ⟨_, rfl⟩
  have hR' := hR
  rw [hR]
  unfold numN at hR'
  rw [hm, hn] at hR'
  have HRR := Lib.hid hR'
  have HB := Lib.hid (fun (W : World) (h : Below w.heap.size w W) => argRow_low hb h)
  have C0 := js_is v b 0 ⟨#[45]⟩ w hb hl (Nat.zero_le _) (by decide)
  have CI := Lib.hid (fun (W : World) (h : Below w.heap.size w W) (a : Nat) (ha : a ≤ b.length) (t : ByteArray) (ht : t.size ≤ 1000) => js_is v b a t W (argRow_low hb h) hl ha ht)
  have CD := Lib.hid (fun (W : World) (h : Below w.heap.size w W) (a : Nat) (ha : a ≤ b.length) => js_digits v b a W (argRow_low hb h) hl ha)
  obtain ⟨_, aa, ca, rfl, hca, hca2, hcs⟩ := hb
  have HCS := Lib.hid hcs
  rw [show (⟨#[45]⟩ : ByteArray).data.toList = [45] from rfl, ham] at C0
  clear hR hR' hm hcs
  go_enter Tryd.func28, Tryd.ntmps28
  go_upto_if 7 with (go_at_call 52; refine C0.mono ?_; rintro e w2 ⟨rfl, hb2⟩)
  go_cut [3] from 7 to 9 (fun av wx => av = .int .i64 (m : Int) ∧ Below w.heap.size w wx)
  case first =>
    clear HRR CI CD HB HCS hca hca2 hnl hml hn
    rcases hm2 with rfl | rfl
    · go_wp2_with fail
      go_meet
      exact ⟨rfl, hb2⟩
    · go_wp2_with fail
      go_meet
      exact ⟨rfl, hb2⟩
  case rest =>
    obtain ⟨rfl, hb1⟩ := hcut
    obtain ⟨w1, hw1⟩ : ∃ w1 : World, w1 = wc := ⟨_, rfl⟩
    subst hw1
    have CD1 := CD.out w1 hb1 m hml
    rw [hn] at CD1
    obtain ⟨E, hE⟩ : ∃ E, m + n = E := ⟨_, rfl⟩
    have hrr := HRR.out
    rw [hE] at CD1 hrr
    clear C0 hm2 ham hb2
    by_cases hA : n = 0 ∨ ((b.drop m).head? = some 48 ∧ 1 < n)
    · rw [if_pos hA] at hrr
      subst hrr
      by_cases hn0 : n = 0
      · subst hn0
        have hE' : E = m := by omega
        subst hE'
        have q1 : ((E : Int) == (E : Int)) = true := by simp
        clear hA hE
        go_wp2_with (go_at_call 53; refine CD1.mono ?_; rintro e w2 ⟨rfl, rfl⟩)
        go_ret
        exact ⟨rfl, hb1⟩
      · obtain ⟨h48, h1n⟩ : (b.drop m).head? = some 48 ∧ 1 < n := hA.elim (fun h => absurd h hn0) id
        have hmb : m < b.length := by omega
        have hbm : b[m] = 48 := by
          rw [List.drop_eq_getElem_cons hmb, List.head?_cons] at h48
          exact Option.some.inj h48
        obtain ⟨b0, off, rfl, hb0, hcell⟩ := HCS.out (by first | omega | (simp; omega))
        have g0 : w1.cell? ⟨b0, off + m, none⟩ = some (.int .u8 48) := by
          rw [hb1.cell (p := ⟨b0, off + m, none⟩) hb0, hcell m (by simpa using hmb), List.getElem_map, hbm]
          rfl
        have q1 : ((E : Int) == (m : Int)) = false := by simp; omega
        have q2 : decide ((m : Int) + 1 < (E : Int)) = true := decide_eq_true (by omega)
        have q3 : decide (m + 1 < E) = true := decide_eq_true (by omega)
        have q4 : m + 1 < E := by omega
        clear hA h48 hbm hcell hn0
        go_wp2_with (go_at_call 53; refine CD1.mono ?_; rintro e w2 ⟨rfl, rfl⟩)
        go_ret
        exact ⟨rfl, hb1⟩
    · rw [if_neg hA] at hrr
      have hn1 : 0 < n := by omega
      have hmb : m < b.length := by omega
      have hmE : m < E := by omega
      have hEl : E ≤ b.length := by omega
      have hq : ((b.drop m).head? = some 48) → ¬ (m + 1 < E) := fun h hh => hA (.inr ⟨h, by omega⟩)
      rw [List.drop_eq_getElem_cons hmb, List.head?_cons] at hq
      obtain ⟨b0, off, rfl, hb0, hcell⟩ := HCS.out (by first | omega | (simp; omega))
      have g0 : w1.cell? ⟨b0, off + m, none⟩ = some (.int .u8 (b[m].toNat : Int)) := by
        rw [hb1.cell (p := ⟨b0, off + m, none⟩) hb0, hcell m (by simpa using hmb), List.getElem_map]
        rfl
      obtain ⟨c, hc⟩ : ∃ c, b[m] = c := ⟨_, rfl⟩
      rw [hc] at g0 hq
      have q1 : ((E : Int) == (m : Int)) = false := by simp; omega
      have HR2 := Lib.hid hrr
      obtain ⟨B, hB⟩ : ∃ B, decide (c = 48) = B := ⟨_, rfl⟩
      have q3 : ((c.toNat : Int) == 48) = B := by
        rw [← hB, Bool.eq_iff_iff]
        simp only [beq_iff_eq, decide_eq_true_eq]
        exact ⟨fun h => UInt8.toNat_inj.1 (by show c.toNat = 48; omega), fun h => by rw [h]; rfl⟩
      have q4 : B = true → decide ((m : Int) + 1 < (E : Int)) = false := fun h => decide_eq_false (fun hh => hq (by rw [of_decide_eq_true (hB.trans h)]) (by omega))
      have hE2 := Lib.hid hE
      clear hA hc hB hrr hq hE hcell CD1
      have CD1 := CD.out w1 hb1 m hml
      rw [hn, hE2.out] at CD1
      go_upto_region 5 with (go_at_call 53; refine CD1.mono ?_; rintro e w2 ⟨rfl, rfl⟩)
      go_cut [28] from 13 to 28 (fun vv wx => vv = .bool false ∧ wx = w1)
      case first =>
        clear HRR CI CD HB HCS hca hca2 HR2 CD1
        cases B with
        | false =>
          go_wp2_with fail
          go_meet
          exact ⟨rfl, rfl⟩
        | true =>
          have q5 := q4 rfl
          have q6 : decide (m + 1 < E) = false := decide_eq_false (by have := of_decide_eq_false q5; omega)
          clear q4
          go_wp2_with fail
          go_meet
          exact ⟨rfl, rfl⟩
      case rest =>
        obtain ⟨rfl, hwc⟩ := hcut
        subst hwc
        clear q1 q3 q4 g0 CD1
        have CP := CI.out wc hb1 E hEl ⟨#[46]⟩ (by decide)
        rw [show (⟨#[46]⟩ : ByteArray).data.toList = [46] from rfl, isAt_one] at CP
        have hrr := HR2.out
        cases hf : fracN E (b.drop E) with
        | none =>
          rw [hf] at hrr
          simp only at hrr
          subst hrr
          unfold fracN at hf
          split at hf
          · rename_i h46
            split at hf
            · rename_i hd0
              rw [decide_eq_true h46] at CP
              rw [List.drop_drop] at hd0
              have hEb : E < b.length := by
                rcases Nat.lt_or_ge E b.length with h | h
                · exact h
                · rw [List.drop_of_length_le h] at h46; cases h46
              have CD2 := fun W (h : Below w.heap.size w W) => CD.out W h (E + 1) hEb
              rw [hd0] at CD2
              simp only [Nat.add_zero, Int.natCast_add, Int.natCast_one] at CD2
              have CD2 := Lib.hid CD2
              have q2 : ((E : Int) + 1 == (E : Int) + 1) = true := by simp
              clear hf h46 hd0 HR2 CI CD HB HCS
              go_wp2_with (first | (go_at_call 52; refine CP.mono ?_; rintro e w2 ⟨rfl, hb2⟩) | (go_at_call 53; refine (CD2.out _ (hb1.trans (hb2.mono hb1.size))).mono ?_; rintro e w3 ⟨rfl, rfl⟩))
              go_ret
              exact ⟨rfl, hb1.trans (hb2.mono hb1.size)⟩
            · cases hf
          · cases hf
        | some K =>
          rw [hf] at hrr
          simp only at hrr
          have HX := Lib.hid hrr
          have hEK : E ≤ K ∧ K ≤ b.length := by
            obtain ⟨f, rfl, h1, -⟩ := frac_inv hf
            rw [List.length_drop] at h1
            omega
          obtain ⟨-, hKl⟩ := hEK
          obtain ⟨P, hP⟩ : ∃ P, decide ((b.drop E).head? = some 46) = P := ⟨_, rfl⟩
          rw [hP] at CP
          have HP := Lib.hid hP
          clear hP
          go_upto_if 32 with (go_at_call 52; refine CP.mono ?_; rintro e w2 ⟨rfl, hb2⟩)
          go_cut [3] from 32 to 41 (fun av wx => av = .int .i64 (K : Int) ∧ Below w.heap.size w wx)
          case first =>
            have hb2' := hb1.trans (hb2.mono hb1.size)
            unfold fracN at hf
            split at hf
            · rename_i h46
              split at hf
              · cases hf
              · rename_i hd0
                obtain rfl : P = true := by rw [← HP.out]; exact decide_eq_true h46
                rw [List.drop_drop] at hf hd0
                have hEb : E < b.length := by
                  rcases Nat.lt_or_ge E b.length with h | h
                  · exact h
                  · rw [List.drop_of_length_le h] at h46; cases h46
                obtain ⟨D, hD⟩ : ∃ D, digs (b.drop (E + 1)) = D := ⟨_, rfl⟩
                have CD2 := CD.out w2 hb2' (E + 1) hEb
                rw [hD] at CD2 hf hd0
                simp only [Nat.add_zero, Int.natCast_add, Int.natCast_one, Option.some.injEq] at CD2 hf
                have hK : (E : Int) + 1 + (D : Int) = (K : Int) := by omega
                rw [hK] at CD2
                have q2 : ((K : Int) == (E : Int) + 1) = false := by simp; omega
                clear hf h46 hd0 HR2 CI CD HB HCS hrr HX CP
                go_wp2_with (first | (go_at_call 53; refine CD2.mono ?_; rintro e w3 ⟨rfl, rfl⟩))
                go_meet
                exact ⟨rfl, hb2'⟩
            · rename_i h46
              obtain rfl : P = false := by rw [← HP.out]; exact decide_eq_false h46
              cases hf
              clear h46 HR2 CI CD HB HCS hrr HX CP
              go_wp2_with fail
              go_meet
              exact ⟨rfl, hb2'⟩
          case rest =>
            obtain ⟨rfl, hb3⟩ := hcut
            obtain ⟨w3, hw3⟩ : ∃ w3 : World, w3 = wc := ⟨_, rfl⟩
            subst hw3
            clear CP HP hf hrr hb2 HR2 hb1
            have CE := CI.out w3 hb3 K hKl ⟨#[101, 69]⟩ (by show 2 ≤ 1000; decide)
            rw [show (⟨#[101, 69]⟩ : ByteArray).data.toList = [101, 69] from rfl, isAt_two] at CE
            have hX := HX.out
            unfold expN at hX
            by_cases he : (b.drop K).head? = some 101 ∨ (b.drop K).head? = some 69
            · rw [decide_eq_true he] at CE
              rw [if_pos he, List.drop_drop, List.drop_drop] at hX
              have hKb : K < b.length := by
                rcases Nat.lt_or_ge K b.length with h | h
                · exact h
                · rw [List.drop_of_length_le h] at he; rcases he with he | he <;> cases he
              obtain ⟨g, hg⟩ : ∃ g, signN (b.drop (K + 1)) = g := ⟨_, rfl⟩
              have hg2 := sign_two (b.drop (K + 1))
              have hgl := sign_le (b.drop (K + 1))
              rw [hg] at hX hg2 hgl
              rw [List.length_drop] at hgl
              have CS := fun W (h : Below w.heap.size w W) => CI.out W h (K + 1) hKb ⟨#[43, 45]⟩ (by show 2 ≤ 1000; decide)
              rw [show (⟨#[43, 45]⟩ : ByteArray).data.toList = [43, 45] from rfl, sign_at, hg] at CS
              simp only [Int.natCast_add, Int.natCast_one] at CS
              have CS := Lib.hid CS
              obtain ⟨P, hP⟩ : ∃ P, decide (g = 1) = P := ⟨_, rfl⟩
              rw [hP] at CS
              have HP := Lib.hid hP
              clear hP he
              go_upto_region 14 with (go_at_call 52; refine CE.mono ?_; rintro e w4 ⟨rfl, hb4⟩)
              have hb4' := hb3.trans (hb4.mono hb3.size)
              have CS4 := CS.out w4 hb4'
              go_upto_if 49 with (go_at_call 52; refine CS4.mono ?_; rintro e w5 ⟨rfl, hb5⟩)
              have hb5' := hb4'.trans (hb5.mono hb4'.size)
              go_cut [3] from 49 to 51 (fun av wx => av = .int .i64 ((K : Int) + 1 + (g : Int)) ∧ Below w.heap.size w wx)
              case first =>
                clear CE CS CS4 HB HCS HX hX CI CD
                rcases hg2 with rfl | rfl
                · obtain rfl : P = false := by rw [← HP.out]; rfl
                  go_wp2_with fail
                  go_meet
                  exact ⟨by simp, hb5'⟩
                · obtain rfl : P = true := by rw [← HP.out]; rfl
                  go_wp2_with fail
                  go_meet
                  exact ⟨by first | rfl | (congr 1; omega), hb5'⟩
              case rest =>
                obtain ⟨rfl, hb6⟩ := hcut
                obtain ⟨w6, hw6⟩ : ∃ w6 : World, w6 = wc := ⟨_, rfl⟩
                subst hw6
                have CD6 := CD.out w6 hb6 (K + 1 + g) (by omega)
                rw [show K + (1 + g) = K + 1 + g by omega] at hX
                obtain ⟨D, hD⟩ : ∃ D, digs (b.drop (K + 1 + g)) = D := ⟨_, rfl⟩
                rw [hD] at CD6 hX
                simp only [Int.natCast_add, Int.natCast_one] at CD6
                obtain ⟨Z, hZ⟩ : ∃ Z : Int, (K : Int) + 1 + (g : Int) = Z := ⟨_, rfl⟩
                obtain ⟨Y, hY⟩ : ∃ Y : Int, Z + (D : Int) = Y := ⟨_, rfl⟩
                rw [hZ, hY] at CD6
                rw [hZ]
                have HBL := Lib.hid hb6
                clear CE CS CS4 HB HCS HX CI CD hb4 hb5 hb4' hb5' hb6 hD
                by_cases hd0 : D = 0
                · rw [if_pos hd0] at hX
                  simp only at hX
                  subst hX
                  have q : (Y == Z) = true := by rw [beq_iff_eq]; omega
                  clear hY hZ hd0
                  go_wp2_with (go_at_call 53; refine CD6.mono ?_; rintro e w7 ⟨rfl, rfl⟩)
                  go_ret
                  exact ⟨rfl, HBL.out⟩
                · rw [if_neg hd0] at hX
                  simp only at hX
                  have q : (Y == Z) = false := by rw [beq_eq_false_iff_ne]; omega
                  have hR : Y = (R : Int) := by omega
                  have HR := Lib.hid hR
                  clear hY hZ hd0 hR hX
                  go_wp2_with (go_at_call 53; refine CD6.mono ?_; rintro e w7 ⟨rfl, rfl⟩)
                  go_ret
                  exact ⟨ret_intE HR.out, HBL.out⟩
            · rw [decide_eq_false he] at CE
              rw [if_neg he] at hX
              simp only at hX
              subst hX
              clear CI CD HB HCS HX he
              go_wp2_with (go_at_call 52; refine CE.mono ?_; rintro e w4 ⟨rfl, hb4⟩)
              go_ret
              exact ⟨rfl, hb3.trans (hb4.mono hb3.size)⟩
end Go.Proofs.YtljnbbdhmlfhjaaDoor
