/-
  The reference's Compare and Same; slices.Equal; Find.
-/
import Derived.Test.YtaimldndooijdaaGreatDoorLabC
import Derived.Laws.StructEq
namespace Go.Proofs.YtaimldndooijdaaGreatDoor
open Go.RowKit

theorem eq_lab (x y : Lab) : (x.1.toList == y.1.toList && x.2.toList == y.2.toList) = decide (x = y) := by
  rw [Bool.eq_iff_iff]
  simp only [Bool.and_eq_true, beq_iff_eq, decide_eq_true_eq]
  exact ⟨fun h => Prod.ext (bytes_inj h.1) (bytes_inj h.2), fun h => by rw [h]; exact ⟨rfl, rfl⟩⟩

theorem lab_guard : Program.eqGuardType Tryz.prog Tryz.prog.depth 62 = false := by kernel_rfl
theorem lab_eq (x1 x2 y1 y2 : ByteArray) (W : World) : (Op.equalIn 10000 62 (.agg #[.string x1, .string x2]) (.agg #[.string y1, .string y2])).run Tryz.prog W = .ok (x1.toList == y1.toList && x2.toList == y2.toList) W := by
  have hf : Tryz.prog.underlying 62 = some (.struct (Tryz.prog.fieldsOf 62)) := by kernel_rfl
  rw [show (10000 : Nat) = 9999 + 1 from rfl, run_equalIn_agg W _ _ _ _ hf (by kernel_rfl)]
  have hu := Tryz.underlying62
  unfold Program.fieldsOf
  rw [hu]
  have hs : Tryz.prog.underlying 9 = some .string := Tryz.underlying9
  have he : ∀ a b (W : World), (Op.equalIn 9999 9 (.string a) (.string b)).run Tryz.prog W = .ok (a.toList == b.toList) W := fun a b W => run_equalIn_string W 9998 9 a b hs
  have h1 := he x1 y1
  have h2 := he x2 y2
  generalize (x1.toList == y1.toList) = p at *
  generalize (x2.toList == y2.toList) = q at *
  clear hu hf he
  simp only [Op.eqFields]
  cases p <;> cases q <;> simp [part, h1, h2]

set_option maxRecDepth 100000 in
set_option maxHeartbeats 4000000 in
theorem slices_Equal (va vb : Value) (A B : List Lab) (w : World) (hA : LRow w va A) (hB : LRow w vb B) :
    Calls Tryz.prog 37 #[va, vb] w fun e w' => e = .returned (.bool (decide (A = B))) ∧ Below w.heap.size w w' := by
  obtain ⟨aa, ca, rfl, hca, hca2⟩ := hA.shape
  obtain ⟨ab, cb, rfl, hcb, hcb2⟩ := hB.shape
  unfold maxLen at hca2 hcb2
  have HA := Lib.hid hA
  have HB := Lib.hid hB
  clear hA hB
  obtain ⟨R, hR⟩ : ∃ R, decide (A = B) = R := ⟨_, rfl⟩
  rw [hR]
  have HR := Lib.hid hR
  clear hR
  by_cases hl : A.length = B.length
  · have e1 : ((A.length : Int) != (B.length : Int)) = false := by simp; omega
    have HL := Lib.hid hl
    clear hl
    go_enter Tryz.func37, Tryz.ntmps37
    go_wp2
    go_loopw [13] (fun iv wr => ∃ k : Nat, iv = .int .i64 k ∧ k ≤ A.length ∧ A.take k = B.take k ∧ Below w.heap.size w wr) (fun iv _ => A.length - (intOf iv).toNat)
    case atStart => exact ⟨0, rfl, Nat.zero_le _, rfl, Below.refl _ _⟩
    case round =>
      obtain ⟨k, rfl, hk, htk, hb⟩ := hrel
      have HTK := Lib.hid htk
      clear htk
      by_cases hlt : k < A.length
      · have hltB : k < B.length := by have := HL.out; omega
        obtain ⟨ba, oa, rfl, hba, ga1, ga2⟩ := HA.out.at hlt
        obtain ⟨bb, ob, rfl, hbb, gb1, gb2⟩ := HB.out.at hltB
        have hdn : ∀ n, Below w.heap.size w (wr.drewN n) := fun n => ⟨hb.os, hb.tape, hb.output, hb.size, hb.block⟩
        have g1 : ∀ n, (wr.drewN n).cell? ⟨ba, oa + k * 2, none⟩ = some (.string A[k].1) := fun n => by rw [(hdn n).cell (p := ⟨ba, _, none⟩) hba]; exact ga1
        have g2 : ∀ n, (wr.drewN n).cell? ⟨ba, oa + k * 2 + 1, none⟩ = some (.string A[k].2) := fun n => by rw [(hdn n).cell (p := ⟨ba, _, none⟩) hba]; exact ga2
        have g3 : ∀ n, (wr.drewN n).cell? ⟨bb, ob + k * 2, none⟩ = some (.string B[k].1) := fun n => by rw [(hdn n).cell (p := ⟨bb, _, none⟩) hbb]; exact gb1
        have g4 : ∀ n, (wr.drewN n).cell? ⟨bb, ob + k * 2 + 1, none⟩ = some (.string B[k].2) := fun n => by rw [(hdn n).cell (p := ⟨bb, _, none⟩) hbb]; exact gb2
        have HDN := Lib.hid hdn
        have ta : A.take (k + 1) = A.take k ++ [A[k]] := List.take_succ_eq_append_getElem hlt
        have tb : B.take (k + 1) = B.take k ++ [B[k]] := List.take_succ_eq_append_getElem hltB
        have hne : A[k] ≠ B[k] → R = false := fun h => by
          rw [← HR.out]
          exact decide_eq_false (fun e => h (by subst e; rfl))
        have heq : A[k] = B[k] → A.take (k + 1) = B.take (k + 1) := fun h => by rw [ta, tb, HTK.out, h]
        have hbe := eq_lab A[k] B[k]
        have HNE := Lib.hid hne
        have HEQ := Lib.hid heq
        clear ta tb hne heq ga1 ga2 gb1 gb2 hdn
        generalize A[k] = x at *
        generalize B[k] = y at *
        obtain ⟨x1, x2⟩ := x
        obtain ⟨y1, y2⟩ := y
        simp only at *
        have hse := lab_eq x1 x2 y1 y2
        have hsg := lab_guard
        have i1 : (0 : Int) ≤ (k : Int) := by omega
        have i2 : (k : Int) < (A.length : Int) := by omega
        have i3 : (k : Int) < (B.length : Int) := by omega
        by_cases hxy : (x1, x2) = (y1, y2)
        · have hfin := HEQ.out hxy
          have HFIN := Lib.hid hfin
          rw [decide_eq_true hxy] at hbe
          clear hfin hxy
          go_wp2_with fail
          go_quiet (fail)
          go_wp2_with fail
          go_roundw
          case rel => exact ⟨k + 1, by go_num, by omega, HFIN.out, HDN.out _⟩
          case measure => simp [intOf]; omega
        · have hfin := HNE.out hxy
          rw [decide_eq_false hxy] at hbe
          clear hxy
          go_wp2_with fail
          go_quiet (fail)
          go_wp2_with fail
          go_ret
          exact ⟨by first | rfl | (rw [hfin]; rfl), HDN.out _⟩
      · have hkA : k = A.length := by omega
        have hfin : R = true := by
          rw [← HR.out]
          refine decide_eq_true ?_
          have h := HTK.out
          rw [hkA, List.take_length, HL.out, List.take_length] at h
          exact h
        have hq : ¬ (k : Int) < (A.length : Int) := by omega
        go_wp2
        go_ret
        exact ⟨by first | rfl | (rw [hfin]; rfl), hb⟩
  · have e1 : ((A.length : Int) != (B.length : Int)) = true := by simp; omega
    have hfin : R = false := by rw [← HR.out]; exact decide_eq_false (fun e => hl (by rw [e]))
    clear hl
    go_enter Tryz.func37, Tryz.ntmps37
    go_wp2
    go_ret
    exact ⟨by first | rfl | (rw [hfin]; rfl), Below.refl _ _⟩
end Go.Proofs.YtaimldndooijdaaGreatDoor
