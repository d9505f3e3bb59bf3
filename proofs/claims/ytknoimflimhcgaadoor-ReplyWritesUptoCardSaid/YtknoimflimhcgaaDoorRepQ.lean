/-
  ReplyWrites' walk.
-/
import Derived.Test.YtknoimflimhcgaaDoorRepM
import Derived.Deep.RegionLaw
namespace Go.Proofs.YtknoimflimhcgaaDoor
open Go.RowKit

def wrB (r : Option Byt) : Byt := match r with | none => [] | some b => b
def wrN (r : Option Byt) : Int := match r with | none => 1 | some _ => 0
/-- The stream's head, spelled as the program spells it. -/
def strB : Byt := [72, 84, 84, 80, 47, 49, 46, 49, 32, 50, 48, 48, 32, 79, 75, 13, 10, 67, 111, 110, 116, 101, 110, 116, 45, 84, 121, 112, 101, 58, 32, 97, 112, 112, 108, 105, 99, 97, 116, 105, 111, 110, 47, 106, 115, 111, 110, 13, 10, 84, 114, 97, 110, 115, 102, 101, 114, 45, 69, 110, 99, 111, 100, 105, 110, 103, 58, 32, 99, 104, 117, 110, 107, 101, 100, 13, 10, 67, 111, 110, 110, 101, 99, 116, 105, 111, 110, 58, 32, 99, 108, 111, 115, 101, 13, 10, 13, 10]
theorem stream_eq : linesOf streamL = strB := by decide +kernel
theorem write_val (st : Int) (vb : Value) (body : Byt) (cl : Bool) (w : World) (hT : Tabs27 w) (hrow : argRow w vb body.length 1 (Lib.byteCells body)) (hb : body.length ≤ 1000000000) :
    Calls Tryd.prog 11 #[.agg #[.int .i64 st, vb, .bool cl]] w fun e w' => ∃ v, e = .returned (.tuple #[v, .int .i64 (wrN (writeOf st body cl))]) ∧ Part w' w.heap.size v (wrB (writeOf st body cl)) ∧ Below w.heap.size w w' :=
  (reply_Write st vb body cl w hT hrow hb).mono fun e w' ⟨h, hb⟩ => by
    cases hw : writeOf st body cl with
    | none =>
      rw [hw] at h
      exact ⟨_, h, World.ownsRow_nil _ _ _ _, hb⟩
    | some b =>
      rw [hw] at h
      obtain ⟨v, he, hp⟩ := h
      exact ⟨v, he, hp, hb⟩
theorem refw_val (st : Int) (vb : Value) (body : Byt) (cl : Bool) (w : World) (hrow : argRow w vb body.length 1 (Lib.byteCells body)) (hb : body.length ≤ 1000000000) :
    Calls Tryd.prog 14 #[.agg #[.int .i64 st, vb, .bool cl]] w fun e w' => e = .returned (.tuple #[.string ⟨(wrB (writeOf st body cl)).toArray⟩, .int .i64 (wrN (writeOf st body cl))]) ∧ Below w.heap.size w w' :=
  (ref_Write st vb body cl w hrow hb).mono fun e w' ⟨h, hb⟩ => by
    cases hw : writeOf st body cl with
    | none =>
      rw [hw] at h
      exact ⟨h, hb⟩
    | some b =>
      rw [hw] at h
      exact ⟨h, hb⟩

set_option maxRecDepth 100000 in
set_option maxHeartbeats 4000000 in
theorem writes_walk (st : Int) (vb : Value) (body : Byt) (cl : Bool) (w : World) (hT : Tabs27 w) (hrow : argRow w vb body.length 1 (Lib.byteCells body)) (hb : body.length ≤ 1000000000) :
    Calls Tryd.prog 6 #[.agg #[.int .i64 st, vb, .bool cl]] w fun e w' => e = .returned (.bool true) ∧ Below w.heap.size w w' := by
  have cW := fun W (h : Below w.heap.size w W) => write_val st vb body cl W (hT.below h) (argRow_below hrow h) hb
  have cX := fun W (h : Below w.heap.size w W) => refw_val st vb body cl W (argRow_below hrow h) hb
  have HROW := Lib.hid hrow
  obtain ⟨_, a0, cap, rfl, hlc, hcm, hcx⟩ := hrow
  clear hcx
  generalize wrB (writeOf st body cl) = B at *
  generalize wrN (writeOf st body cl) = N at *
  have hbox : ∀ (a b c : Value) (t : TypeId), Below w.heap.size w (w.alloc (.cells #[a, b, c] t)) ∧ ∀ W, Below (w.alloc (.cells #[a, b, c] t)).heap.size (w.alloc (.cells #[a, b, c] t)) W → W.cell? ⟨w.heap.size, 0, none⟩ = some a ∧ W.cell? ⟨w.heap.size, 1, none⟩ = some b ∧ W.cell? ⟨w.heap.size, 2, none⟩ = some c := by
    intro a b c t
    have hs : (w.alloc (.cells #[a, b, c] t)).heap.size = w.heap.size + 1 := by simp
    refine ⟨belowA (Below.refl _ _), fun W hW => ?_⟩
    have := fun j => cell_of_row (w.alloc (.cells #[a, b, c] t)) w.heap.size j _ _ _ (heap_alloc_new _ _)
    refine ⟨?_, ?_, ?_⟩
    · rw [hW.cell (p := ⟨w.heap.size, 0, none⟩) (show w.heap.size < _ by omega), this]; rfl
    · rw [hW.cell (p := ⟨w.heap.size, 1, none⟩) (show w.heap.size < _ by omega), this]; rfl
    · rw [hW.cell (p := ⟨w.heap.size, 2, none⟩) (show w.heap.size < _ by omega), this]; rfl
  have hbx := hbox (.int .i64 st) (.slice a0 body.length cap) (.bool cl) 31
  clear hbox
  go_enter Tryd.func6, Tryd.ntmps6
  go_upto_region 1 with fail
  generalize w.alloc (.cells #[.int .i64 st, .slice a0 body.length cap, .bool cl] 31) = w1 at *
  obtain ⟨hb1, hG⟩ := hbx
  have cA := law_awake w1 (hT.below hb1)
  go_upto_region 5 with (first | (go_at_call 7; refine cA.mono ?_; rintro e w2 ⟨rfl, hb2⟩; have hb12 := below_seq hb1 hb2; obtain ⟨q0, q1, q2⟩ := hG _ hb2) | (go_at_call 11; refine (cW _ hb12).mono ?_; rintro e w3 ⟨v3, rfl, hp3, hb3⟩; have hb13 := below_seq hb2 hb3; obtain ⟨q0', q1', q2'⟩ := hG _ hb13) | (go_at_call 14; refine (cX _ (below_seq hb12 hb3)).mono ?_; rintro e w4 ⟨rfl, hb4⟩; have hb14 := below_seq hb13 hb4))
  have hs4 := hb14.size
  have hs1 := hb1.size
  have cv3 : ∀ W, Below w4.heap.size w4 W → (convert 22 9 v3).run Tryd.prog W = .ok (.string ⟨B.toArray⟩) W := fun W h => conv_arg (argRow_below (argRow_below (argRow_owns hp3) hb4) h)
  have cvb : ∀ W, Below w4.heap.size w4 W → (convert 22 9 (.slice a0 body.length cap)).run Tryd.prog W = .ok (.string ⟨body.toArray⟩) W := fun W h => conv_arg (argRow_below HROW.out (hb1.trans ((below_seq hb14 h).mono hs1)))
  have hB0 : Below w4.heap.size w4 w4.drew := (Below.refl _ _).drew
  have hK := Lib.hid (fun W (hW : Below w4.heap.size w4 W) => (⟨(hG _ (below_seq hb14 hW)).2.1, cv3 W hW, cvb W hW⟩ : W.cell? ⟨w.heap.size, 1, none⟩ = some (.slice a0 body.length cap) ∧ (convert 22 9 v3).run Tryd.prog W = .ok (.string ⟨B.toArray⟩) W ∧ (convert 22 9 (.slice a0 body.length cap)).run Tryd.prog W = .ok (.string ⟨body.toArray⟩) W))
  have cS := Lib.hid (fun W (hW : Below w4.heap.size w4 W) => (reply_Stream W).mono (fun e w' h => by
    obtain ⟨v, he, hp, hb⟩ := h
    rw [stream_eq] at hp
    exact ⟨v, he, conv_arg (argRow_owns hp), below_seq hW hb⟩ : ∀ e w', _ → ∃ v, e = .returned v ∧ (convert 22 9 v).run Tryd.prog w' = .ok (.string ⟨strB.toArray⟩) w' ∧ Below w4.heap.size w4 w'))
  have cC := Lib.hid (fun W (hW : Below w4.heap.size w4 W) => (reply_Chunk (.slice a0 body.length cap) body W (hT.below (hb1.trans ((below_seq hb14 hW).mono hs1))) (argRow_below HROW.out (hb1.trans ((below_seq hb14 hW).mono hs1))) hb).mono (fun e w' h => by
    obtain ⟨v, he, hp, hb⟩ := h
    exact ⟨v, he, conv_arg (argRow_owns hp), below_seq hW hb⟩ : ∀ e w', _ → ∃ v, e = .returned v ∧ (convert 22 9 v).run Tryd.prog w' = .ok (.string ⟨(chunkOf body).toArray⟩) w' ∧ Below w4.heap.size w4 w'))
  have cD := Lib.hid (fun W => ref_Chunk body W hb)
  have cL := Lib.hid (fun W (hW : Below w4.heap.size w4 W) => (reply_Last W).mono (fun e w' h => by
    obtain ⟨v, he, hp, hb⟩ := h
    exact ⟨v, he, conv_arg (l := lastB) hp, below_seq hW hb⟩ : ∀ e w', _ → ∃ v, e = .returned v ∧ (convert 22 9 v).run Tryd.prog w' = .ok (.string ⟨lastB.toArray⟩) w' ∧ Below w4.heap.size w4 w'))
  have e0 : (strB = [72, 84, 84, 80, 47, 49, 46, 49, 32, 50, 48, 48, 32, 79, 75, 13, 10, 67, 111, 110, 116, 101, 110, 116, 45, 84, 121, 112, 101, 58, 32, 97, 112, 112, 108, 105, 99, 97, 116, 105, 111, 110, 47, 106, 115, 111, 110, 13, 10, 84, 114, 97, 110, 115, 102, 101, 114, 45, 69, 110, 99, 111, 100, 105, 110, 103, 58, 32, 99, 104, 117, 110, 107, 101, 100, 13, 10, 67, 111, 110, 110, 101, 99, 116, 105, 111, 110, 58, 32, 99, 108, 111, 115, 101, 13, 10, 13, 10]) = True := eq_true (by decide)
  clear cW cX cA hG hT cv3 cvb
  generalize hX : chunkOf body = X at *
  obtain ⟨z1, z2, z3⟩ := hK.out _ hB0
  go_region_law (first | (go_simp; go_at_call 15; refine (cS.out _ hB0).mono ?_; rintro e w5 ⟨v5, rfl, hcv5, hB5⟩; obtain ⟨y1, y2, y3⟩ := hK.out _ hB5) | (go_simp; go_at_call 12; refine (cC.out _ hB5).mono ?_; rintro e w6 ⟨v6, rfl, hcv6, hB6⟩; obtain ⟨x1, x2, x3⟩ := hK.out _ hB6) | (go_simp; go_at_call 16; refine (cD.out _).mono ?_; rintro e wn ⟨rfl, rfl⟩) | (go_simp; go_at_call 13; refine (cL.out _ hB6).mono ?_; rintro e w7 ⟨v7, rfl, hcv7, hB7⟩))
  all_goals
    go_wp2_with fail
    go_ret
    refine ⟨?_, hb1.trans ((below_seq hb14 hB7).mono hs1)⟩
    first | rfl | (simp)
end Go.Proofs.YtknoimflimhcgaaDoor
