/-
  The contract of the reference's Write.
-/
import Derived.Test.YtknoimflimhcgaaDoorRepK
namespace Go.Proofs.YtknoimflimhcgaaDoor
open Go.RowKit

def stA (k : Nat) : Int := [200, 400, 404, 405, 413, 431, 507].getD k 0
theorem stA_words : ∀ k, k < 7 → wordsOf (stA k) ≠ []
  | 0, _ => by decide
  | 1, _ => by decide
  | 2, _ => by decide
  | 3, _ => by decide
  | 4, _ => by decide
  | 5, _ => by decide
  | 6, _ => by decide
  | k + 7, h => absurd h (by omega)
theorem words_stA {n : Int} (h : wordsOf n ≠ []) : ∃ k, k < 7 ∧ stA k = n := by
  rcases wordsOf_cases n with rfl | rfl | rfl | rfl | rfl | rfl | rfl | ⟨h1, h2, h3, h4, h5, h6, h7⟩
  · exact ⟨0, by decide, rfl⟩
  · exact ⟨1, by decide, rfl⟩
  · exact ⟨2, by decide, rfl⟩
  · exact ⟨3, by decide, rfl⟩
  · exact ⟨4, by decide, rfl⟩
  · exact ⟨5, by decide, rfl⟩
  · exact ⟨6, by decide, rfl⟩
  · exact absurd (by simp [wordsOf, h1, h2, h3, h4, h5, h6, h7]) h
def arr1 : Array Value := #[.int .i64 200, .int .i64 400, .int .i64 404, .int .i64 405, .int .i64 413, .int .i64 431, .int .i64 507]
def arr2 : Array Value := #[.string ⟨#[79, 75]⟩, .string ⟨#[66, 97, 100, 32, 82, 101, 113, 117, 101, 115, 116]⟩, .string ⟨#[78, 111, 116, 32, 70, 111, 117, 110, 100]⟩, .string ⟨#[77, 101, 116, 104, 111, 100, 32, 78, 111, 116, 32, 65, 108, 108, 111, 119, 101, 100]⟩, .string ⟨#[67, 111, 110, 116, 101, 110, 116, 32, 84, 111, 111, 32, 76, 97, 114, 103, 101]⟩, .string ⟨#[82, 101, 113, 117, 101, 115, 116, 32, 72, 101, 97, 100, 101, 114, 32, 70, 105, 101, 108, 100, 115, 32, 84, 111, 111, 32, 76, 97, 114, 103, 101]⟩, .string ⟨#[73, 110, 115, 117, 102, 102, 105, 99, 105, 101, 110, 116, 32, 83, 116, 111, 114, 97, 103, 101]⟩]
theorem arr1_at : ∀ k, k < 7 → arr1[k]? = some (.int .i64 (stA k))
  | 0, _ => rfl
  | 1, _ => rfl
  | 2, _ => rfl
  | 3, _ => rfl
  | 4, _ => rfl
  | 5, _ => rfl
  | 6, _ => rfl
  | k + 7, h => absurd h (by omega)
theorem arr2_at : ∀ k, k < 7 → arr2[k]? = some (.string ⟨(wordsOf (stA k)).toArray⟩)
  | 0, _ => rfl
  | 1, _ => rfl
  | 2, _ => rfl
  | 3, _ => rfl
  | 4, _ => rfl
  | 5, _ => rfl
  | 6, _ => rfl
  | k + 7, h => absurd h (by omega)
theorem keep3 {a W : World} {p q r : World → Prop} (h : ∀ W, Below a.heap.size a W → p W ∧ q W ∧ r W) (hb : Below a.heap.size a W) : p W ∧ q W ∧ r W ∧ Below a.heap.size a W := ⟨(h W hb).1, (h W hb).2.1, (h W hb).2.2, hb⟩
/-- Three new rows. -/
theorem three_cells (w : World) (a b c : Array Value) (ta tb tc : TypeId) :
    (∀ j, (((w.alloc (.cells a ta)).alloc (.cells b tb)).alloc (.cells c tc)).cell? ⟨w.heap.size, j, none⟩ = a[j]?) ∧
    (∀ j, (((w.alloc (.cells a ta)).alloc (.cells b tb)).alloc (.cells c tc)).cell? ⟨w.heap.size + 1, j, none⟩ = b[j]?) ∧
    (∀ j, (((w.alloc (.cells a ta)).alloc (.cells b tb)).alloc (.cells c tc)).cell? ⟨w.heap.size + 1 + 1, j, none⟩ = c[j]?) := by
  have h1 : (w.alloc (.cells a ta)).heap.size = w.heap.size + 1 := by simp
  have h2 : ((w.alloc (.cells a ta)).alloc (.cells b tb)).heap.size = w.heap.size + 1 + 1 := by simp
  refine ⟨fun j => cell_of_row _ _ j a ta (0, 0) ?_, fun j => cell_of_row _ _ j b tb (0, 0) ?_, fun j => cell_of_row _ _ j c tc (0, 0) ?_⟩
  · rw [heap_alloc_old _ _ (by rw [h2]; omega), heap_alloc_old _ _ (by rw [h1]; omega)]
    exact heap_alloc_new w _
  · rw [heap_alloc_old _ _ (by rw [h2]; omega)]
    have := heap_alloc_new (w.alloc (.cells a ta)) (.cells b tb)
    rw [h1] at this
    exact this
  · have := heap_alloc_new ((w.alloc (.cells a ta)).alloc (.cells b tb)) (.cells c tc)
    rw [h2] at this
    exact this

def bMid : Byt := [13, 10, 67, 111, 110, 116, 101, 110, 116, 45, 84, 121, 112, 101, 58, 32, 97, 112, 112, 108, 105, 99, 97, 116, 105, 111, 110, 47, 106, 115, 111, 110, 13, 10, 67, 111, 110, 116, 101, 110, 116, 45, 76, 101, 110, 103, 116, 104, 58, 32]
/-- The document's answer, as it lays it together. -/
def refOf (st : Int) (body : Byt) (cl : Bool) : Byt := bH ++ Lib.itoa st ++ [32] ++ wordsOf st ++ bMid ++ Lib.itoa body.length ++ [13, 10] ++ (if cl then bCC ++ [13, 10] else []) ++ [13, 10] ++ body
theorem ref_eq (st : Int) (body : Byt) (cl : Bool) : linesOf (headOf st body.length cl) ++ body = refOf st body cl := by
  have hm : bMid = [13, 10] ++ bCT ++ [13, 10] ++ bCL := by decide
  unfold headOf
  rw [linesOf_four _ _ _ _ (by simp [bH]) (by decide) (by simp [bCL])]
  unfold refOf
  rw [hm]
  have hl : lineOf (if cl then bCC else []) = if cl then bCC ++ [13, 10] else [] := by
    cases cl
    · rfl
    · rfl
  rw [hl]
  simp only [List.append_assoc]
def RefWriteEnd (r : Option Byt) (e : Ending) : Prop := match r with
  | none => e = .returned (.tuple #[.string ⟨#[]⟩, .int .i64 1])
  | some b => e = .returned (.tuple #[.string ⟨b.toArray⟩, .int .i64 0])

theorem digits_int (z : Int) (h0 : 0 ≤ z) (h1 : z < 9223372036854775808) (w : World) :
    Calls Tryd.prog 23 #[.int .u64 z] w fun e w' => e = .returned (.string ⟨(Lib.itoa z).toArray⟩) ∧ Below w.heap.size w w' := by
  have h := ref_Digits z.toNat w (by omega)
  rw [← Lib.itoa_nonneg, show ((z.toNat : Nat) : Int) = z from by omega] at h
  exact h
set_option maxRecDepth 100000 in
set_option maxHeartbeats 8000000 in
theorem ref_Write (st : Int) (vb : Value) (body : Byt) (cl : Bool) (w : World) (hrow : argRow w vb body.length 1 (Lib.byteCells body)) (hb : body.length ≤ 1000000000) :
    Calls Tryd.prog 14 #[.agg #[.int .i64 st, vb, .bool cl]] w fun e w' => RefWriteEnd (writeOf st body cl) e ∧ Below w.heap.size w w' := by
  have HROW := Lib.hid hrow
  obtain ⟨_, a0, cap, rfl, hlc, hcm, hcx⟩ := hrow
  clear hcx
  obtain ⟨R, hR⟩ : ∃ R, writeOf st body cl = R := ⟨_, rfl⟩
  rw [hR]
  have HR := Lib.hid hR
  clear hR
  have h3 := three_cells w #[.int .i64 st, .slice a0 body.length cap, .bool cl] arr1 arr2 31 49 50
  have hbn : Below w.heap.size w (((w.alloc (.cells #[.int .i64 st, .slice a0 body.length cap, .bool cl] 31)).alloc (.cells arr1 49)).alloc (.cells arr2 50)) := belowA (belowA (belowA (Below.refl _ _)))
  have hsz : (((w.alloc (.cells #[.int .i64 st, .slice a0 body.length cap, .bool cl] 31)).alloc (.cells arr1 49)).alloc (.cells arr2 50)).heap.size = w.heap.size + 3 := by simp
  obtain ⟨w1, hw1⟩ : ∃ W, ((w.alloc (.cells #[.int .i64 st, .slice a0 body.length cap, .bool cl] 31)).alloc (.cells arr1 49)).alloc (.cells arr2 50) = W := ⟨_, rfl⟩
  rw [hw1] at h3 hbn hsz
  obtain ⟨r1, r2, r3⟩ := h3
  have c0 : w1.cell? ⟨w.heap.size, 0, none⟩ = some (.int .i64 st) := by rw [r1]; rfl
  have c1 : w1.cell? ⟨w.heap.size, 1, none⟩ = some (.slice a0 body.length cap) := by rw [r1]; rfl
  have c2 : w1.cell? ⟨w.heap.size, 2, none⟩ = some (.bool cl) := by rw [r1]; rfl
  have HA1 := Lib.hid (fun k hk => (r2 k).trans (arr1_at k hk))
  have HA2 := Lib.hid (fun k hk => (r3 k).trans (arr2_at k hk))
  have HW1 := Lib.hid hw1
  clear r1 r2 r3 hw1
  go_enter Tryd.func14, Tryd.ntmps14
  go_wp2
  have hw1 := HW1.out
  unfold arr1 arr2 at hw1
  rw [hw1]
  clear hw1
  go_loopw [6] (fun i wr => ∃ k : Nat, i = .int .i64 k ∧ k ≤ 7 ∧ (∀ j, j < k → stA j ≠ st) ∧ Below w1.heap.size w1 wr) (fun i _ => 7 - (intOf i).toNat)
  case atStart => exact ⟨0, rfl, by omega, (fun j hj => absurd hj (Nat.not_lt_zero j)), Below.refl _ _⟩
  case round =>
    obtain ⟨k, rfl, hk, hno, hbr⟩ := hrel
    have HNO := Lib.hid hno
    clear hno
    by_cases h7 : k < 7
    · have h7' : (k : Int) < 7 := by omega
      have i1 : (0 : Int) ≤ (k : Int) := by omega
      have g0 := (hbr.cell (p := ⟨w.heap.size, 0, none⟩) (show w.heap.size < _ by omega)).trans c0
      have g1 := (hbr.cell (p := ⟨w.heap.size + 1, k, none⟩) (show w.heap.size + 1 < _ by omega)).trans (HA1.out k h7)
      have hw := stA_words k h7
      have HA2k := Lib.hid (HA2.out k h7)
      have hnx : stA k ≠ st → ∀ j, j < k + 1 → stA j ≠ st := fun h j hj => by
        rcases Nat.lt_or_ge j k with h1 | h1
        · exact HNO.out j h1
        · rw [show j = k from by omega]; exact h
      have HNX := Lib.hid hnx
      clear hnx
      have hdn : ∀ n, Below w1.heap.size w1 (wr.drewN n) := fun n => ⟨hbr.os, hbr.tape, hbr.output, hbr.size, hbr.block⟩
      have HDN := Lib.hid hdn
      clear hdn
      generalize hsk : stA k = sk at *
      by_cases hst : sk = st
      · have e1 : (sk != st) = false := by simpa using hst
        have hw' : wordsOf st ≠ [] := by rw [← hst]; exact hw
        have hst2 := words_some hw'
        have hfin : R = some (refOf st body cl) := by rw [← HR.out, writeOf, if_neg hw', ref_eq]
        have HFIN := Lib.hid hfin
        have hwl := words_len st
        have HW2 : ∀ W, Below w1.heap.size w1 W → W.cell? ⟨w.heap.size + 1 + 1, k, none⟩ = some (.string ⟨(wordsOf st).toArray⟩) := fun W hW => by
          rw [← hst]
          exact (hW.cell (p := ⟨w.heap.size + 1 + 1, k, none⟩) (show w.heap.size + 1 + 1 < _ by omega)).trans HA2k.out
        have hG := Lib.hid (fun W (hW : Below w1.heap.size w1 W) => (⟨(hW.cell (p := ⟨w.heap.size, 0, none⟩) (show w.heap.size < _ by omega)).trans c0, (hW.cell (p := ⟨w.heap.size, 1, none⟩) (show w.heap.size < _ by omega)).trans c1, HW2 W hW⟩ : W.cell? ⟨w.heap.size, 0, none⟩ = some (.int .i64 st) ∧ W.cell? ⟨w.heap.size, 1, none⟩ = some (.slice a0 body.length cap) ∧ W.cell? ⟨w.heap.size + 1 + 1, k, none⟩ = some (.string ⟨(wordsOf st).toArray⟩)))
        have hG2 := Lib.hid (fun W (hW : Below w1.heap.size w1 W) => (hW.cell (p := ⟨w.heap.size, 2, none⟩) (show w.heap.size < _ by omega)).trans c2)
        have hKC := Lib.hid (fun W (hW : Below w1.heap.size w1 W) => conv_arg (argRow_below HROW.out (hbn.trans (hW.mono hbn.size))))
        have cD := Lib.hid (fun (z : Int) (hz0 : 0 ≤ z) (hz1 : z < 9223372036854775808) W (hW : Below w1.heap.size w1 W) => (digits_int z hz0 hz1 W).mono (fun e w' h => ⟨h.1, below_seq hW h.2⟩ : ∀ e w', _ → e = .returned (.string ⟨(Lib.itoa z).toArray⟩) ∧ Below w1.heap.size w1 w'))
        have hIl : (Lib.itoa st).length ≤ 21 := Lib.itoa_length_le _ (by omega) (by omega)
        have hIn : (Lib.itoa (body.length : Int)).length ≤ 21 := Lib.itoa_length_le _ (by omega) (by omega)
        have HFIN2 := Lib.hid (show refOf st body cl = bH ++ Lib.itoa st ++ [32] ++ wordsOf st ++ bMid ++ Lib.itoa body.length ++ [13, 10] ++ (if cl then bCC ++ [13, 10] else []) ++ [13, 10] ++ body from rfl)
        clear hfin hw hw' HW2 hst HA2k hsk HNX
        generalize refOf st body cl = REF at *
        generalize wordsOf st = wd at *
        have hst0 := hst2.1
        have hst1 := hst2.2
        clear hst2
        have b0 : (0 : Int) ≤ (body.length : Int) := by omega
        have b1 : (body.length : Int) < 9223372036854775808 := by omega
        have n1 : ¬ 9223372036854775807 < 9 + (Lib.itoa st).length := by omega
        have n2 : ¬ 9223372036854775807 < 9 + (Lib.itoa st).length + 1 := by omega
        have n3 : ¬ 9223372036854775807 < 9 + (Lib.itoa st).length + 1 + wd.length := by omega
        have n4 : ¬ 9223372036854775807 < 9 + (Lib.itoa st).length + 1 + wd.length + 50 := by omega
        have n5 : ¬ 9223372036854775807 < 9 + (Lib.itoa st).length + 1 + wd.length + 50 + (Lib.itoa (body.length : Int)).length := by omega
        have n6 : ¬ 9223372036854775807 < 9 + (Lib.itoa st).length + 1 + wd.length + 50 + (Lib.itoa (body.length : Int)).length + 2 := by omega
        have n7 : ¬ 9223372036854775807 < 9 + (Lib.itoa st).length + 1 + wd.length + 50 + (Lib.itoa (body.length : Int)).length + 2 + 19 := by omega
        have n8 : ¬ 9223372036854775807 < 9 + (Lib.itoa st).length + 1 + wd.length + 50 + (Lib.itoa (body.length : Int)).length + 2 + 19 + 2 := by omega
        have n9 : ¬ 9223372036854775807 < 9 + (Lib.itoa st).length + 1 + wd.length + 50 + (Lib.itoa (body.length : Int)).length + 2 + 19 + 2 + body.length := by omega
        have n10 : ¬ 9223372036854775807 < 9 + (Lib.itoa st).length + 1 + wd.length + 50 + (Lib.itoa (body.length : Int)).length + 2 + 2 := by omega
        have n11 : ¬ 9223372036854775807 < 9 + (Lib.itoa st).length + 1 + wd.length + 50 + (Lib.itoa (body.length : Int)).length + 2 + 2 + body.length := by omega
        have u1 : IntKind.u64.wrap st = st := by rw [IntKind.wrap_u64]; omega
        have u2 : IntKind.u64.wrap (body.length : Int) = (body.length : Int) := by rw [IntKind.wrap_u64]; omega
        cases cl
        all_goals
          go_upto_region 6 with fail
          go_quiet (fail)
          go_upto_region 7 with fail
          have hB2 := HDN.out nq
          generalize wr.drewN nq = w2 at *
          have hB0 : Below w1.heap.size w1 w2.drew := hB2.drew
          clear HDN hB2
          go_region_held3 (fun w' => w'.cell? ⟨w.heap.size, 0, none⟩ = some (.int .i64 st) ∧ w'.cell? ⟨w.heap.size, 1, none⟩ = some (.slice a0 body.length cap) ∧ w'.cell? ⟨w.heap.size + 1 + 1, k, none⟩ = some (.string ⟨wd.toArray⟩) ∧ Below w1.heap.size w1 w')
            (first | exact keep3 hG.out (by first | assumption | exact belowA (by assumption)))
            (first | (go_at_call 23; refine (cD.out _ (by omega) (by omega) _ (by assumption)).mono ?_; rintro e wn ⟨rfl, hBn⟩))
          have g2 := hG2.out _ hBn
          have q1 := (hG.out _ hBn).2.1
          have kc := hKC.out _ hBn
          go_wp2
          go_ret2
          exact ⟨by rw [HFIN.out, HFIN2.out]; simp only [RefWriteEnd, Bool.false_eq_true, if_false, if_true, List.append_nil, bap]; rfl, hbn.trans (hBn.mono hbn.size)⟩
      · have e1 : (sk != st) = true := by simpa using hst
        have hfin := HNX.out hst
        have HFIN := Lib.hid hfin
        clear hfin hst hw hsk
        go_wp2_with fail
        go_quiet (fail)
        go_wp2_with fail
        go_roundw
        case rel => exact ⟨k + 1, by go_num, by omega, HFIN.out, HDN.out _⟩
        case measure => simp [intOf]; omega
    · have hk7 : k = 7 := by omega
      have hfin : R = none := by
        rw [← HR.out, writeOf, if_pos]
        refine Classical.byContradiction fun h => ?_
        obtain ⟨j, hj, e⟩ := words_stA h
        exact HNO.out j (by omega) e
      have HFIN := Lib.hid hfin
      have h7' : ¬ (k : Int) < 7 := by omega
      clear hfin hk7
      go_wp2
      go_ret2
      exact ⟨by rw [HFIN.out]; rfl, hbn.trans (hbr.mono hbn.size)⟩
end Go.Proofs.YtknoimflimhcgaaDoor
