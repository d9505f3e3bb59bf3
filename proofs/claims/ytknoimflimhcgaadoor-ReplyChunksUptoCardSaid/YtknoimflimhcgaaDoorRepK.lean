/-
  The contracts of reply.Chunk and of the reference's Same.
-/
import Derived.Test.YtknoimflimhcgaaDoorRepJ
import Derived.BigQuiet
namespace Go.Proofs.YtknoimflimhcgaaDoor
open Go.RowKit

set_option maxRecDepth 100000 in
set_option maxHeartbeats 4000000 in
theorem reply_Chunk (vb : Value) (body : Byt) (w : World) (hT : Tabs27 w) (hrow : argRow w vb body.length 1 (Lib.byteCells body)) (hb : body.length ≤ 1000000000) :
    Calls Tryd.prog 12 #[vb] w fun e w' => ∃ v, e = .returned v ∧ Part w' w.heap.size v (chunkOf body) ∧ Below w.heap.size w w' := by
  have E8 : ElemT Tryd.prog 22 5 (.int .u8 0) 1 1 := ⟨Tryd.underlying22, info_u8', rfl, by decide⟩
  have HROW := Lib.hid hrow
  obtain ⟨_, a0, cap, rfl, hlc, hcm, hcx⟩ := hrow
  clear hcx
  obtain ⟨R, hR⟩ : ∃ R, chunkOf body = R := ⟨_, rfl⟩
  rw [hR]
  by_cases h0 : body.length = 0
  · have hfin : R = [] := by rw [← hR, chunkOf, if_pos (List.eq_nil_of_length_eq_zero h0)]
    rw [hfin]
    have e0 : ((body.length : Int) == 0) = true := by simp; exact List.eq_nil_of_length_eq_zero h0
    go_enter Tryd.func12, Tryd.ntmps12
    go_wp2
    go_ret
    exact ⟨_, rfl, World.ownsRow_nil _ _ _ _, Below.refl _ _⟩
  · have hfin : hexD body.length ++ [13, 10] ++ body ++ [13, 10] = R := by rw [← hR, chunkOf, if_neg (fun e => h0 (by rw [e]; rfl))]
    have e0 : ((body.length : Int) == 0) = false := by simp; exact fun e => h0 (by rw [e]; rfl)
    have HFIN := Lib.hid hfin
    have hxl := hexD_len body.length
    have cA := append_int body.length w (by omega) hT.t16
    clear hfin hR
    generalize hexD body.length = X at *
    go_enter Tryd.func12, Tryd.ntmps12
    go_wp2_with (first | (go_at_call 22; refine cA.mono ?_; rintro e w1 ⟨v1, rfl, hown1, hb1⟩; have hs1 := hb1.size) | (at_builtin; refine wpList_append_src rfl (.tmp 9) _ _ _ rfl w.heap.size E8 _ _ _ rfl hown1 _ 2 (Lib.byteCells [13, 10]) rfl (by exact src_str Tryd.underlying9 [13, 10] _) (by unfold maxLen; omega) (by omega) (by omega) ?_; intro v2 w2 hown2 hgr2 _ _; have hb2 := hb1.grown hgr2 (by omega) (fun k hk => (hown1.lt k hk).1); have hs2 := hb2.size) | (at_builtin; refine wpList_append_src rfl (.tmp 11) (.tmp 12) _ _ rfl w.heap.size E8 _ _ _ rfl hown2 _ body.length (Lib.byteCells body) rfl (by exact src_arg Tryd.underlying22 (argRow_below HROW.out hb2) (byteCells_one body)) (by unfold maxLen; omega) (by omega) (by omega) ?_; intro v3 w3 hown3 hgr3 _ _; have hb3 := hb2.grown hgr3 (by omega) (fun k hk => (hown2.lt k hk).1); have hs3 := hb3.size) | (at_builtin; refine wpList_append_src rfl (.tmp 13) _ _ _ rfl w.heap.size E8 _ _ _ rfl hown3 _ 2 (Lib.byteCells [13, 10]) rfl (by exact src_str Tryd.underlying9 [13, 10] _) (by unfold maxLen; omega) (by omega) (by omega) ?_; intro v4 w4 hown4 hgr4 _ _; have hb4 := hb3.grown hgr4 (by omega) (fun k hk => (hown3.lt k hk).1)))
    go_ret
    refine ⟨_, rfl, ?_, hb4⟩
    unfold Part
    rw [← HFIN.out]
    simp only [byteCells_append, List.length_append]
    exact hown4

/-- A list of byte slices that can be read. -/
def Rows (w : World) (v : Value) (L : List Byt) : Prop := ∃ E : List Value, argRow w v L.length 1 E ∧ ∀ i (h : i < L.length) (h' : i < E.length), argRow w E[i] L[i].length 1 (Lib.byteCells L[i])
theorem Parts.rows {w : World} {B : Nat} {v : Value} {L : List Byt} (h : Parts w B v L) : Rows w v L := by
  obtain ⟨E, h1, h2⟩ := h
  exact ⟨E, argRow_owns h1, fun i hi hi' => argRow_owns (h2 i hi hi')⟩
theorem Rows.below {w w' : World} {v : Value} {L : List Byt} (h : Rows w v L) (hb : Below w.heap.size w w') : Rows w' v L := by
  obtain ⟨E, h1, h2⟩ := h
  exact ⟨E, argRow_below h1 hb, fun i hi hi' => argRow_below (h2 i hi hi') hb⟩
theorem Rows.shape {w : World} {v : Value} {L : List Byt} (h : Rows w v L) : ∃ a c, v = .slice a L.length c ∧ L.length ≤ c ∧ c ≤ maxLen := by
  obtain ⟨E, ⟨_, a, c, rfl, h1, h2, _⟩, _⟩ := h
  exact ⟨a, c, rfl, h1, h2⟩
theorem Rows.at {w : World} {a : Option Addr} {n c : Nat} {L : List Byt} (h : Rows w (.slice a n c) L) {k : Nat} (hk : k < L.length) :
    ∃ b off x, a = some ⟨b, off, none⟩ ∧ b < w.heap.size ∧ w.cell? ⟨b, off + k, none⟩ = some x ∧ argRow w x L[k].length 1 (Lib.byteCells L[k]) := by
  obtain ⟨E, ⟨hl, a, c, e, h1, h2, hc⟩, h3⟩ := h
  cases e
  obtain ⟨b, off, rfl, hb, hcs⟩ := hc (by omega)
  exact ⟨b, off, E[k]'(by omega), rfl, hb, hcs k (by omega), h3 k hk (by omega)⟩

set_option maxRecDepth 100000 in
set_option maxHeartbeats 4000000 in
theorem ref_Same (va vb : Value) (A B : List Byt) (w : World) (hA : Rows w va A) (hB : Rows w vb B) :
    Calls Tryd.prog 10 #[va, vb] w fun e w' => e = .returned (.bool (decide (A = B))) ∧ Below w.heap.size w w' := by
  obtain ⟨aa, ca, rfl, hca, hca2⟩ := hA.shape
  obtain ⟨ab, cb, rfl, hcb, hcb2⟩ := hB.shape
  have hlA : A.length ≤ 9223372036854775807 := by unfold maxLen at hca2; omega
  have hlB : B.length ≤ 9223372036854775807 := by unfold maxLen at hcb2; omega
  have HA := Lib.hid hA
  have HB := Lib.hid hB
  clear hA hB
  obtain ⟨R, hR⟩ : ∃ R, decide (A = B) = R := ⟨_, rfl⟩
  rw [hR]
  have HR := Lib.hid hR
  clear hR
  by_cases hl : A.length = B.length
  · have e1 : ((A.length : Int) != (B.length : Int)) = false := by simp; omega
    have HL := Lib.hid hl
    clear hl
    go_enter Tryd.func10, Tryd.ntmps10
    go_wp2
    go_loopw [5] (fun i wr => ∃ k : Nat, i = .int .i64 k ∧ k ≤ A.length ∧ A.take k = B.take k ∧ Below w.heap.size w wr) (fun i _ => A.length - (intOf i).toNat)
    case atStart => exact ⟨0, rfl, Nat.zero_le _, rfl, Below.refl _ _⟩
    case round =>
      obtain ⟨k, rfl, hk, htk, hbr⟩ := hrel
      have HTK := Lib.hid htk
      clear htk
      by_cases hlt : k < A.length
      · have hltB : k < B.length := by have := HL.out; omega
        obtain ⟨ba, oa, xa, rfl, hba, hxa, hra⟩ := HA.out.at hlt
        obtain ⟨bb, ob, xb, rfl, hbb, hxb, hrb⟩ := HB.out.at hltB
        have g1 : wr.cell? ⟨ba, oa + k, none⟩ = some xa := by rw [hbr.cell (p := ⟨ba, _, none⟩) hba]; exact hxa
        have g2 : wr.cell? ⟨bb, ob + k, none⟩ = some xb := by rw [hbr.cell (p := ⟨bb, _, none⟩) hbb]; exact hxb
        have k1 := fun W (h : Below w.heap.size w W) => conv_arg (argRow_below hra h)
        have k2 := fun W (h : Below w.heap.size w W) => conv_arg (argRow_below hrb h)
        have hdn : ∀ n, Below w.heap.size w (wr.drewN n) := fun n => ⟨hbr.os, hbr.tape, hbr.output, hbr.size, hbr.block⟩
        have k1a := fun n => k1 (wr.drewN n) (hdn n)
        have k2a := fun n => k2 (wr.drewN n) (hdn n)
        have HDN := Lib.hid hdn
        clear hdn
        clear k1 k2 hra hrb hxa hxb
        have ta : A.take (k + 1) = A.take k ++ [A[k]] := List.take_succ_eq_append_getElem hlt
        have tb : B.take (k + 1) = B.take k ++ [B[k]] := List.take_succ_eq_append_getElem hltB
        have hne : A[k] ≠ B[k] → R = false := fun h => by
          rw [← HR.out]
          exact decide_eq_false (fun e => h (by subst e; rfl))
        have heq : A[k] = B[k] → A.take (k + 1) = B.take (k + 1) := fun h => by rw [ta, tb, HTK.out, h]
        have hbe : (A[k] == B[k]) = decide (A[k] = B[k]) := by rw [Bool.eq_iff_iff]; simp
        have HNE := Lib.hid hne
        have HEQ := Lib.hid heq
        clear ta tb hne heq
        generalize A[k] = x at *
        generalize B[k] = y at *
        have i1 : (0 : Int) ≤ (k : Int) := by omega
        have i2 : (k : Int) < (A.length : Int) := by omega
        have i3 : (k : Int) < (B.length : Int) := by omega
        by_cases hxy : x = y
        · rw [decide_eq_true hxy] at hbe
          have hfin := HEQ.out hxy
          have HFIN := Lib.hid hfin
          clear hfin
          go_wp2_with fail
          go_quiet (fail)
          go_wp2_with fail
          go_roundw
          case rel => exact ⟨k + 1, by go_num, by omega, HFIN.out, HDN.out _⟩
          case measure => simp [intOf]; omega
        · rw [decide_eq_false hxy] at hbe
          have hfin := HNE.out hxy
          clear hxy
          go_wp2_with fail
          go_quiet (fail)
          go_wp2_with fail
          go_ret
          exact ⟨by first | rfl | (rw [hfin]; rfl), HDN.out _⟩
      · have hkA : k = A.length := by omega
        have hfin : R = true := by
          rw [← HR.out]
          refine decide_eq_true ?_
          have h := HTK.out
          rw [hkA, List.take_length, HL.out, List.take_length] at h
          exact h
        have hq : ¬ (k : Int) < (A.length : Int) := by omega
        go_wp2
        go_ret
        exact ⟨by first | rfl | (rw [hfin]; rfl), hbr⟩
  · have e1 : ((A.length : Int) != (B.length : Int)) = true := by simp; omega
    have hfin : R = false := by rw [← HR.out]; exact decide_eq_false (fun e => hl (by rw [e]))
    rw [hfin]
    clear hl
    go_enter Tryd.func10, Tryd.ntmps10
    go_wp2
    go_ret
    exact ⟨rfl, Below.refl _ _⟩
end Go.Proofs.YtknoimflimhcgaaDoor
