/-
  The reference's Compare and Same; Find.
-/
import Derived.Test.YtaimldndooijdaaGreatDoorLabD
namespace Go.Proofs.YtaimldndooijdaaGreatDoor
open Go.RowKit

set_option maxRecDepth 100000 in
set_option maxHeartbeats 4000000 in
theorem ref_Compare (va vb : Value) (A B : List Lab) (w : World) (hA : LRow w va A) (hB : LRow w vb B) :
    Calls Tryz.prog 71 #[va, vb] w fun e w' => e = .returned (.int .i64 (cmpLabs A B)) ∧ Below w.heap.size w w' := by
  obtain ⟨aa, ca, rfl, hca, hca2⟩ := hA.shape
  obtain ⟨ab, cb, rfl, hcb, hcb2⟩ := hB.shape
  unfold maxLen at hca2 hcb2
  have HA := Lib.hid hA
  have HB := Lib.hid hB
  clear hA hB
  obtain ⟨R, hR⟩ : ∃ R, cmpLabs A B = R := ⟨_, rfl⟩
  rw [hR]
  have HR := Lib.hid hR
  clear hR
  go_enter Tryz.func71, Tryz.ntmps71
  go_wp2
  go_loopw [5] (fun iv wr => ∃ k : Nat, iv = .int .i64 k ∧ k ≤ A.length ∧ k ≤ B.length ∧ cmpLabs (A.drop k) (B.drop k) = R ∧ Below w.heap.size w wr) (fun iv _ => A.length - (intOf iv).toNat)
  case atStart => exact ⟨0, rfl, Nat.zero_le _, Nat.zero_le _, HR.out, Below.refl _ _⟩
  case round =>
    obtain ⟨k, rfl, hkA, hkB, hk, hb⟩ := hrel
    by_cases hltA : k < A.length
    · have i1 : (k : Int) < (A.length : Int) := by omega
      by_cases hltB : k < B.length
      · obtain ⟨ba, oa, rfl, hba, ga1, ga2⟩ := HA.out.at hltA
        obtain ⟨bb, ob, rfl, hbb, gb1, gb2⟩ := HB.out.at hltB
        have hst := cmpLabs_cons hltA hltB
        rw [hk] at hst
        have hdn : ∀ n, Below w.heap.size w (wr.drewN n) := fun n => ⟨hb.os, hb.tape, hb.output, hb.size, hb.block⟩
        have g1 : ∀ W, Below w.heap.size w W → W.cell? ⟨ba, oa + k * 2, none⟩ = some (.string A[k].1) := fun W hW => by rw [hW.cell (p := ⟨ba, _, none⟩) hba]; exact ga1
        have g2 : ∀ W, Below w.heap.size w W → W.cell? ⟨ba, oa + k * 2 + 1, none⟩ = some (.string A[k].2) := fun W hW => by rw [hW.cell (p := ⟨ba, _, none⟩) hba]; exact ga2
        have g3 : ∀ W, Below w.heap.size w W → W.cell? ⟨bb, ob + k * 2, none⟩ = some (.string B[k].1) := fun W hW => by rw [hW.cell (p := ⟨bb, _, none⟩) hbb]; exact gb1
        have g4 : ∀ W, Below w.heap.size w W → W.cell? ⟨bb, ob + k * 2 + 1, none⟩ = some (.string B[k].2) := fun W hW => by rw [hW.cell (p := ⟨bb, _, none⟩) hbb]; exact gb2
        have hbe := eq_lab A[k] B[k]
        have hz := cmpLab_zero (x := A[k]) (y := B[k])
        have HST := Lib.hid hst
        clear hst hk ga1 ga2 gb1 gb2
        generalize A[k] = x at *
        generalize B[k] = y at *
        obtain ⟨x1, x2⟩ := x
        obtain ⟨y1, y2⟩ := y
        simp only at *
        have hse := lab_eq x1 x2 y1 y2
        have hsg := lab_guard
        have f1 := fun n => g1 _ (hdn n)
        have f2 := fun n => g2 _ (hdn n)
        have f3 := fun n => g3 _ (hdn n)
        have f4 := fun n => g4 _ (hdn n)
        have HDN := Lib.hid hdn
        have G := Lib.hid (And.intro g1 (And.intro g2 (And.intro g3 g4)))
        clear g1 g2 g3 g4 hdn
        have i0 : (0 : Int) ≤ (k : Int) := by omega
        have i2 : (k : Int) < (B.length : Int) := by omega
        by_cases hxy : (x1, x2) = (y1, y2)
        · rw [decide_eq_true hxy] at hbe
          have hfin := HST.out
          rw [if_pos (hz.2 hxy)] at hfin
          have HFIN := Lib.hid hfin
          clear hfin hxy hz
          go_wp2_with fail
          go_quiet (fail)
          go_wp2_with fail
          go_roundw
          case rel => exact ⟨k + 1, by go_num, by omega, by omega, HFIN.out.symm, HDN.out _⟩
          case measure => simp [intOf]; omega
        · rw [decide_eq_false hxy] at hbe
          have hfin := HST.out
          rw [if_neg (fun h => hxy (hz.1 h))] at hfin
          have HFIN := Lib.hid hfin
          have HNE := Lib.hid hxy
          clear hfin hxy hz
          go_wp2_with fail
          go_quiet (fail)
          have hB2 := HDN.out nq
          generalize wr.drewN nq = w2 at *
          have hdn2 : ∀ n, Below w.heap.size w (w2.drewN n) := fun n => ⟨hB2.os, hB2.tape, hB2.output, hB2.size, hB2.block⟩
          have l1 := fun n => G.out.1 _ (hdn2 n)
          have l2 := fun n => G.out.2.1 _ (hdn2 n)
          have l3 := fun n => G.out.2.2.1 _ (hdn2 n)
          have l4 := fun n => G.out.2.2.2 _ (hdn2 n)
          have HDN2 := Lib.hid hdn2
          clear hdn2 f1 f2 f3 f4 hbe hse hsg
          have hval : R = if Op.bytesLess x1.toList y1.toList = true ∨ ((x1.toList == y1.toList) = true ∧ Op.bytesLess x2.toList y2.toList = true) then -1 else 1 := by
            rw [HFIN.out]
            have hne := HNE.out
            unfold cmpLab
            simp only
            by_cases q1 : Op.bytesLess x1.toList y1.toList = true
            · have hc : cmpB x1.toList y1.toList = -1 := by unfold cmpB; rw [if_pos q1]
              rw [hc, if_neg (by omega), if_pos (.inl q1)]
            · by_cases q2 : (x1.toList == y1.toList) = true
              · have hc : cmpB x1.toList y1.toList = 0 := cmpB_zero.2 (eq_of_beq q2)
                rw [hc, if_pos rfl]
                by_cases q3 : Op.bytesLess x2.toList y2.toList = true
                · rw [if_pos (.inr ⟨q2, q3⟩)]
                  unfold cmpB
                  rw [if_pos q3]
                · rw [if_neg (fun h => by rcases h with h | h; exact q1 h; exact q3 h.2)]
                  unfold cmpB
                  rw [if_neg q3, if_neg]
                  intro q4
                  exact hne (Prod.ext (bytes_inj (eq_of_beq q2)) (bytes_inj (eq_of_beq q4)))
              · have hc : cmpB x1.toList y1.toList = 1 := by unfold cmpB; rw [if_neg q1, if_neg q2]
                rw [hc, if_neg (by omega), if_neg (fun h => by rcases h with h | h; exact q1 h; exact q2 h.1)]
          clear HST HFIN HNE
          obtain ⟨b1, h1⟩ : ∃ b, Op.bytesLess x1.toList y1.toList = b := ⟨_, rfl⟩
          obtain ⟨b2, h2⟩ : ∃ b, (x1.toList == y1.toList) = b := ⟨_, rfl⟩
          obtain ⟨b3, h3⟩ : ∃ b, Op.bytesLess x2.toList y2.toList = b := ⟨_, rfl⟩
          rw [h1, h2, h3] at hval
          have HVAL := Lib.hid hval
          clear hval
          cases b1 <;> cases b2 <;> cases b3
          all_goals
            have hfin := HVAL.out
            simp only [Bool.false_eq_true, and_false, or_false, and_self, or_true, or_self, if_true, if_false, and_true] at hfin
            clear HVAL
            go_wp2_with fail
            go_quiet (fail)
            go_wp2_with fail
            go_ret
            exact ⟨by first | rfl | (rw [hfin]; rfl), HDN2.out _⟩
      · have hR := cmpLabs_over hltA (B := B) (by omega)
        rw [hk] at hR
        have i2 : ¬ (k : Int) < (B.length : Int) := by omega
        have j1 : ¬ (A.length : Int) < (B.length : Int) := by omega
        have j2 : (B.length : Int) < (A.length : Int) := by omega
        have j1n : ¬ A.length < B.length := by omega
        have j2n : B.length < A.length := by omega
        clear hk
        go_wp2
        go_ret
        exact ⟨by first | rfl | (rw [hR]; rfl), hb⟩
    · have i1 : ¬ (k : Int) < (A.length : Int) := by omega
      by_cases hltB : k < B.length
      · have hR := cmpLabs_under (A := A) (by omega) hltB
        rw [hk] at hR
        have j1 : (A.length : Int) < (B.length : Int) := by omega
        have j1n : A.length < B.length := by omega
        clear hk
        go_wp2
        go_ret
        exact ⟨by first | rfl | (rw [hR]; rfl), hb⟩
      · have hR := cmpLabs_end (A := A) (B := B) (k := k) (by omega) (by omega)
        rw [hk] at hR
        have j1 : ¬ (A.length : Int) < (B.length : Int) := by omega
        have j2 : ¬ (B.length : Int) < (A.length : Int) := by omega
        have j1n : ¬ A.length < B.length := by omega
        have j2n : ¬ B.length < A.length := by omega
        clear hk
        go_wp2
        go_ret
        exact ⟨by first | rfl | (rw [hR]; rfl), hb⟩
theorem ref_Same (va vb : Value) (A B : List Lab) (w : World) (hA : LRow w va A) (hB : LRow w vb B) :
    Calls Tryz.prog 47 #[va, vb] w fun e w' => e = .returned (.bool (decide (A = B))) ∧ Below w.heap.size w w' := by
  have cF := ref_Compare va vb A B w hA hB
  have hz : (cmpLabs A B == 0) = decide (A = B) := by
    rw [Bool.eq_iff_iff, beq_iff_eq, decide_eq_true_eq]
    exact cmpLabs_zero
  generalize cmpLabs A B = R at *
  go_enter Tryz.func47, Tryz.ntmps47
  go_wp2_with (go_at_call 71; refine cF.mono ?_; rintro e w1 ⟨rfl, hb1⟩)
  go_ret
  exact ⟨by first | rfl | (rw [← hz]; rfl), hb1⟩

end Go.Proofs.YtaimldndooijdaaGreatDoor
