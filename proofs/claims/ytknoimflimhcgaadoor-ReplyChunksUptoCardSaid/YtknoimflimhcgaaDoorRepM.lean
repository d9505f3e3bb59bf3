/-
  The contract of the law's awake, and ReplyReads' walk.
-/
import Derived.Test.YtknoimflimhcgaaDoorRepL
import Derived.Test.YtknoimflimhcgaaDoorRepG
namespace Go.Proofs.YtknoimflimhcgaaDoor
open Go.RowKit

def awB : Byt := [72, 84, 84, 80, 47, 49, 46, 49, 32, 50, 48, 48, 32, 79, 75, 13, 10, 67, 111, 110, 116, 101, 110, 116, 45, 84, 121, 112, 101, 58, 32, 97, 112, 112, 108, 105, 99, 97, 116, 105, 111, 110, 47, 106, 115, 111, 110, 13, 10, 67, 111, 110, 116, 101, 110, 116, 45, 76, 101, 110, 103, 116, 104, 58, 32, 50, 13, 10, 13, 10, 123, 125]
def awT : Byt := [51, 13, 10, 97, 98, 99, 13, 10, 48, 13, 10, 13, 10]
theorem dec200 : Lib.itoa 200 = [50, 48, 48] := by
  rw [show (200 : Int) = ((200 : Nat) : Int) from rfl, Lib.itoa_nonneg, decDigits_step (by decide), decDigits_step (by decide), Lib.decDigits_one (by decide)]
  decide
theorem dec2 : Lib.itoa ((2 : Nat) : Int) = [50] := by
  rw [Lib.itoa_nonneg, Lib.decDigits_one (by decide)]
  decide
theorem aw_write : writeOf 200 [123, 125] false = some awB := by
  unfold writeOf headOf
  rw [if_neg (by decide), show ([123, 125] : Byt).length = 2 from rfl, dec200, dec2]
  decide +kernel
theorem aw_chunks : chunksOf awT = some ([[97, 98, 99]], true) := by decide +kernel
theorem aw_chunk : chunkOf [97, 98, 99] = [51, 13, 10, 97, 98, 99, 13, 10] := by decide +kernel
theorem rows_one {w : World} {v : Value} {l : Byt} (h : Rows w v [l]) : ∃ b off c x, v = .slice (some ⟨b, off, none⟩) 1 c ∧ 1 ≤ c ∧ w.cell? ⟨b, off, none⟩ = some x ∧ argRow w x l.length 1 (Lib.byteCells l) := by
  obtain ⟨a, c, rfl, h1, _⟩ := h.shape
  obtain ⟨b, off, x, rfl, _, hc, hx⟩ := h.at (k := 0) (by simp)
  exact ⟨b, off, c, x, rfl, h1, hc, hx⟩

set_option maxRecDepth 100000 in
set_option maxHeartbeats 8000000 in
theorem law_awake (w : World) (hT : Tabs27 w) : Calls Tryd.prog 7 #[] w fun e w' => e = .returned (.bool true) ∧ Below w.heap.size w w' := by
  have hcv := fun (w : World) (C : Array Value) (n c : Nat) => Lib.run_convert_bytes_const (P := Tryd.prog) w 22 5 C n c Tryd.underlying22 Tryd.underlying5
  have cW : ∀ W : World, Tabs27 W → Calls Tryd.prog 11 #[.agg #[.int .i64 200, .slice (some ⟨W.heap.size, 0, none⟩) 2 2, .bool false]] (W.alloc (.cells #[.int .u8 123, .int .u8 125] 5 (2, 3))) fun e w' =>
      ∃ v, e = .returned (.tuple #[v, .int .i64 0]) ∧ argRow w' v awB.length 1 (Lib.byteCells awB) ∧ Below W.heap.size W w' := fun W hW => by
    have h := reply_Write 200 (.slice (some ⟨W.heap.size, 0, none⟩) 2 2) [123, 125] false (W.alloc (.cells #[.int .u8 123, .int .u8 125] 5 (2, 3))) (hW.below (belowA (Below.refl _ _))) (row_marked W [123, 125]) (by decide)
    rw [aw_write] at h
    exact h.mono fun e w' ⟨⟨v, he, hp⟩, hb⟩ => ⟨v, he, argRow_owns hp, below_seq (belowA (Below.refl _ _)) hb⟩
  have cC : ∀ W : World, Calls Tryd.prog 8 #[.slice (some ⟨W.heap.size, 0, none⟩) 13 13] (W.alloc (.cells #[.int .u8 51, .int .u8 13, .int .u8 10, .int .u8 97, .int .u8 98, .int .u8 99, .int .u8 13, .int .u8 10, .int .u8 48, .int .u8 13, .int .u8 10, .int .u8 13, .int .u8 10] 5 (13, 14))) fun e w' =>
      ∃ v, e = .returned (.tuple #[v, .bool true, .int .i64 0]) ∧ Rows w' v [[97, 98, 99]] ∧ Below W.heap.size W w' := fun W => by
    have h := reply_Chunks (.slice (some ⟨W.heap.size, 0, none⟩) 13 13) awT (W.alloc (.cells #[.int .u8 51, .int .u8 13, .int .u8 10, .int .u8 97, .int .u8 98, .int .u8 99, .int .u8 13, .int .u8 10, .int .u8 48, .int .u8 13, .int .u8 10, .int .u8 13, .int .u8 10] 5 (13, 14))) (row_marked W awT) (by decide)
    rw [aw_chunks] at h
    exact h.mono fun e w' ⟨⟨v, he, hp⟩, hb⟩ => ⟨v, he, hp.rows, below_seq (belowA (Below.refl _ _)) hb⟩
  have cH : ∀ W : World, Tabs27 W → Calls Tryd.prog 12 #[.slice (some ⟨W.heap.size, 0, none⟩) 3 3] (W.alloc (.cells #[.int .u8 97, .int .u8 98, .int .u8 99] 5 (3, 4))) fun e w' =>
      ∃ v, e = .returned v ∧ argRow w' v 8 1 (Lib.byteCells [51, 13, 10, 97, 98, 99, 13, 10]) ∧ Below W.heap.size W w' := fun W hW => by
    have h := reply_Chunk (.slice (some ⟨W.heap.size, 0, none⟩) 3 3) [97, 98, 99] (W.alloc (.cells #[.int .u8 97, .int .u8 98, .int .u8 99] 5 (3, 4))) (hW.below (belowA (Below.refl _ _))) (row_marked W [97, 98, 99]) (by decide)
    rw [aw_chunk] at h
    exact h.mono fun e w' ⟨v, he, hp, hb⟩ => ⟨v, he, argRow_owns hp, below_seq (belowA (Below.refl _ _)) hb⟩
  have hq : (awB == [72, 84, 84, 80, 47, 49, 46, 49, 32, 50, 48, 48, 32, 79, 75, 13, 10, 67, 111, 110, 116, 101, 110, 116, 45, 84, 121, 112, 101, 58, 32, 97, 112, 112, 108, 105].append [99, 97, 116, 105, 111, 110, 47, 106, 115, 111, 110, 13, 10, 67, 111, 110, 116, 101, 110, 116, 45, 76, 101, 110, 103, 116, 104, 58, 32, 50, 13, 10, 13, 10, 123, 125]) = true := by decide
  have hq' : (awB = [72, 84, 84, 80, 47, 49, 46, 49, 32, 50, 48, 48, 32, 79, 75, 13, 10, 67, 111, 110, 116, 101, 110, 116, 45, 84, 121, 112, 101, 58, 32, 97, 112, 112, 108, 105].append [99, 97, 116, 105, 111, 110, 47, 106, 115, 111, 110, 13, 10, 67, 111, 110, 116, 101, 110, 116, 45, 76, 101, 110, 103, 116, 104, 58, 32, 50, 13, 10, 13, 10, 123, 125]) := by decide
  go_enter Tryd.func7, Tryd.ntmps7
  go_wp2_with (first | (go_at_call 11; refine (cW _ hT).mono ?_; rintro e w1 ⟨v1, rfl, hr1, hb1⟩) | (go_at_call 8; refine (cC _).mono ?_; rintro e w2 ⟨v2, rfl, hr2, hb2⟩; have hb12 := below_seq hb1 hb2; have k1 := conv_arg (argRow_below hr1 hb2); obtain ⟨b2, o2, c2, x2, rfl, hc1, hcx, hrx⟩ := rows_one hr2; have k2 := conv_arg hrx) | (go_at_call 12; refine (cH _ (hT.below hb12)).mono ?_; rintro e w3 ⟨v3, rfl, hr3, hb3⟩; have k3 := conv_arg (l := [51, 13, 10, 97, 98, 99, 13, 10]) hr3))
  go_ret
  exact ⟨rfl, below_seq hb12 hb3⟩

def chD (R : Option (List Byt × Bool)) : Bool := match R with | none => false | some p => p.2
def chN (R : Option (List Byt × Bool)) : Int := match R with | none => 6 | some _ => 0
def chL (R : Option (List Byt × Bool)) : List Byt := match R with | none => [] | some p => p.1
theorem ChunksEnd.val {R : Option (List Byt × Bool)} {B : Nat} {w' : World} {e : Ending} (h : ChunksEnd R B w' e) :
    ∃ v, e = .returned (.tuple #[v, .bool (chD R), .int .i64 (chN R)]) ∧ Parts w' B v (chL R) := by
  match R, h with
  | none, h => exact ⟨_, h, Parts.nil _ _⟩
  | some (acc, d), ⟨v, he, hp⟩ => exact ⟨v, he, hp⟩
theorem chunks_val (va : Value) (l : Byt) (w : World) (hrow : argRow w va l.length 1 (Lib.byteCells l)) (hl : l.length ≤ 1000000000) :
    Calls Tryd.prog 8 #[va] w fun e w' => ∃ v, e = .returned (.tuple #[v, .bool (chD (chunksOf l)), .int .i64 (chN (chunksOf l))]) ∧ Parts w' w.heap.size v (chL (chunksOf l)) ∧ Below w.heap.size w w' :=
  (reply_Chunks va l w hrow hl).mono fun e w' h => by
    obtain ⟨v, h1, h2⟩ := h.1.val
    exact ⟨v, h1, h2, h.2⟩
theorem ref_val (va : Value) (l : Byt) (w : World) (hrow : argRow w va l.length 1 (Lib.byteCells l)) (hl : l.length ≤ 1000000000) :
    Calls Tryd.prog 9 #[va] w fun e w' => ∃ v, e = .returned (.tuple #[v, .bool (chD (chunksOf l)), .int .i64 (chN (chunksOf l))]) ∧ Parts w' w.heap.size v (chL (chunksOf l)) ∧ Below w.heap.size w w' :=
  (ref_Chunks va l w hrow hl).mono fun e w' h => by
    rw [chunks_run] at h
    obtain ⟨v, h1, h2⟩ := h.1.val
    exact ⟨v, h1, h2, h.2⟩

set_option maxRecDepth 100000 in
set_option maxHeartbeats 4000000 in
theorem reads_walk (va : Value) (l : Byt) (w : World) (hT : Tabs27 w) (hrow : argRow w va l.length 1 (Lib.byteCells l)) (hl : l.length ≤ 1000000000) :
    Calls Tryd.prog 3 #[va] w fun e w' => e = .returned (.bool true) ∧ Below w.heap.size w w' := by
  have cA := law_awake w hT
  have cC := fun W (hW : Below w.heap.size w W) => chunks_val va l W (argRow_below hrow hW) hl
  have cR := fun W (hW : Below w.heap.size w W) => ref_val va l W (argRow_below hrow hW) hl
  generalize chD (chunksOf l) = d at *
  generalize chN (chunksOf l) = n at *
  generalize chL (chunksOf l) = L at *
  have cS : ∀ W a b, Rows W a L → Rows W b L → Calls Tryd.prog 10 #[a, b] W fun e w' => e = .returned (.bool true) ∧ Below W.heap.size W w' := fun W a b h1 h2 => by
    have := ref_Same a b L L W h1 h2
    rw [decide_eq_true rfl] at this
    exact this
  go_enter Tryd.func3, Tryd.ntmps3
  go_wp2_with (first | (go_at_call 7; refine cA.mono ?_; rintro e w1 ⟨rfl, hb1⟩) | (go_at_call 8; refine (cC _ hb1).mono ?_; rintro e w2 ⟨v2, rfl, hp2, hb2⟩; have hb12 := below_seq hb1 hb2) | (go_at_call 9; refine (cR _ hb12).mono ?_; rintro e w3 ⟨v3, rfl, hp3, hb3⟩; have hb13 := below_seq hb12 hb3) | (go_at_call 10; refine (cS _ _ _ (hp2.rows.below hb3) hp3.rows).mono ?_; rintro e w4 ⟨rfl, hb4⟩))
  go_ret
  refine ⟨?_, below_seq hb13 hb4⟩
  first | rfl | (simp)
end Go.Proofs.YtknoimflimhcgaaDoor
