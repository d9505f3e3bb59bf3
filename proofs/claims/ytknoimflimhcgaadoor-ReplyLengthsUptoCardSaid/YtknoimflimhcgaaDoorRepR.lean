/-
  ReplyLengths' walk.
-/
import Derived.Test.YtknoimflimhcgaaDoorRepO
import Derived.Test.YtknoimflimhcgaaDoorRepM
import Derived.Lib.IndexBytes
namespace Go.Proofs.YtknoimflimhcgaaDoor
open Go.RowKit

theorem box_reply (w : World) (a b c : Value) (t : TypeId) : Below w.heap.size w (w.alloc (.cells #[a, b, c] t)) ∧ ∀ W, Below (w.alloc (.cells #[a, b, c] t)).heap.size (w.alloc (.cells #[a, b, c] t)) W → W.cell? ⟨w.heap.size, 0, none⟩ = some a ∧ W.cell? ⟨w.heap.size, 1, none⟩ = some b ∧ W.cell? ⟨w.heap.size, 2, none⟩ = some c := by
  have hs : (w.alloc (.cells #[a, b, c] t)).heap.size = w.heap.size + 1 := by simp
  refine ⟨belowA (Below.refl _ _), fun W hW => ?_⟩
  have := fun j => cell_of_row (w.alloc (.cells #[a, b, c] t)) w.heap.size j _ _ _ (heap_alloc_new _ _)
  refine ⟨?_, ?_, ?_⟩
  · rw [hW.cell (p := ⟨w.heap.size, 0, none⟩) (show w.heap.size < _ by omega), this]; rfl
  · rw [hW.cell (p := ⟨w.heap.size, 1, none⟩) (show w.heap.size < _ by omega), this]; rfl
  · rw [hW.cell (p := ⟨w.heap.size, 2, none⟩) (show w.heap.size < _ by omega), this]; rfl

theorem grown_trans {a w w' : World} {row : Option Nat} (h : a.grownBy w row) (k : w.grownBy w' row) : a.grownBy w' row :=
  ⟨k.os.trans h.os, k.tape.trans h.tape, k.output.trans h.output, Nat.le_trans h.size k.size, fun j hj hne => (k.block j (Nat.lt_of_lt_of_le hj h.size) hne).trans (h.block j hj hne)⟩
theorem ext_win (b : Byt) (k m : Nat) : ((⟨b.toArray⟩ : ByteArray).extract k (k + m)).toList = winOf b k m := by
  unfold winOf
  rw [Lib.extract_toList, Nat.add_sub_cancel_left]

set_option maxRecDepth 100000 in
set_option maxHeartbeats 4000000 in
theorem lengths_walk (st : Int) (vb : Value) (body : Byt) (cl : Bool) (w : World) (hT : Tabs27 w) (hrow : argRow w vb body.length 1 (Lib.byteCells body)) (hb : body.length ≤ 1000000000) :
    Calls Tryd.prog 4 #[.agg #[.int .i64 st, vb, .bool cl]] w fun e w' => e = .returned (.bool true) ∧ Below w.heap.size w w' := by
  have cW0 := fun W (h : Below w.heap.size w W) => reply_Write st vb body cl W (hT.below h) (argRow_below hrow h) hb
  have HROW := Lib.hid hrow
  obtain ⟨_, a0, cap, rfl, hlc, hcm, hcx⟩ := hrow
  clear hcx
  have hbx := box_reply w (.int .i64 st) (.slice a0 body.length cap) (.bool cl) 31
  cases hR : writeOf st body cl with
  | none =>
    rw [hR] at cW0
    have cW : ∀ W, Below w.heap.size w W → Calls Tryd.prog 11 #[.agg #[.int .i64 st, .slice a0 body.length cap, .bool cl]] W fun e w' => e = .returned (.tuple #[.slice none 0 0, .int .i64 1]) ∧ Below W.heap.size W w' := cW0
    clear cW0 hR
    go_enter Tryd.func4, Tryd.ntmps4
    go_upto_region 1 with fail
    generalize w.alloc (.cells #[.int .i64 st, .slice a0 body.length cap, .bool cl] 31) = w1 at *
    obtain ⟨hb1, hG⟩ := hbx
    have cA := law_awake w1 (hT.below hb1)
    go_wp2_with (first | (go_at_call 7; refine cA.mono ?_; rintro e w2 ⟨rfl, hb2⟩; have hb12 := below_seq hb1 hb2; obtain ⟨q0, q1, q2⟩ := hG _ hb2) | (go_at_call 11; refine (cW _ hb12).mono ?_; rintro e w3 ⟨rfl, hb3⟩; have hb13 := below_seq hb12 hb3; obtain ⟨q0', q1', q2'⟩ := hG _ (below_seq hb2 hb3)) | (go_at_call 11; refine (cW _ hb13).mono ?_; rintro e w4 ⟨rfl, hb4⟩))
    go_ret
    exact ⟨rfl, below_seq hb13 hb4⟩
  | some b =>
    obtain ⟨n, HD, hbody⟩ := head_of hR hb
    rw [hR] at cW0
    have cW : ∀ W, Below w.heap.size w W → Calls Tryd.prog 11 #[.agg #[.int .i64 st, .slice a0 body.length cap, .bool cl]] W fun e w' => (∃ v, e = .returned (.tuple #[v, .int .i64 0]) ∧ Part w' W.heap.size v b) ∧ Below W.heap.size W w' := cW0
    clear cW0 hR
    have n0 := HD.lo
    have n1 := HD.hi
    have n2 := HD.le
    go_enter Tryd.func4, Tryd.ntmps4
    go_upto_region 1 with fail
    generalize w.alloc (.cells #[.int .i64 st, .slice a0 body.length cap, .bool cl] 31) = w1 at *
    obtain ⟨hb1, hG⟩ := hbx
    have cA := law_awake w1 (hT.below hb1)
    go_upto_region 7 with (first | (go_at_call 7; refine cA.mono ?_; rintro e w2 ⟨rfl, hb2⟩; have hb12 := below_seq hb1 hb2; obtain ⟨q0, q1, q2⟩ := hG _ hb2) | (go_at_call 11; refine (cW _ hb12).mono ?_; rintro e w3 ⟨⟨v3, rfl, hp3⟩, hb3⟩; have hb13 := below_seq hb12 hb3; obtain ⟨q0', q1', q2'⟩ := hG _ (below_seq hb2 hb3)) | (go_at_call 11; refine (cW _ hb13).mono ?_; rintro e w4 ⟨⟨v4, rfl, hp4⟩, hb4⟩))
    have k3 := conv_arg (argRow_below (argRow_owns hp3) hb4)
    have hln : b.length = n + body.length := by
      have := congrArg List.length hbody
      rw [List.length_drop] at this
      omega
    have HP3 := Lib.hid hp3
    have HP4 := Lib.hid hp4
    clear hp3 hp4 q0 q1 q2 q0' q1' q2' cA cW
    go_wp2
    go_loop [8, 9, 10] (fun av cv kv => ∃ (k : Nat) (A : Int) (C : Bool), av = .int .i64 A ∧ cv = .bool C ∧ kv = .int .i64 k ∧ k + 3 ≤ n ∧ (k + 4 ≤ n → A = 0) ∧ (k + 3 = n → A = n) ∧ (C = true → cl = true) ∧ (cl = true → n < k + 21 → C = true)) (fun _ _ kv => n - (intOf kv).toNat)
    case atStart => exact ⟨0, 0, false, rfl, rfl, rfl, by omega, fun _ => rfl, fun h => by omega, fun h => by (cases h), fun _ h => by omega⟩
    case round =>
      obtain ⟨k, A, C, rfl, rfl, rfl, hk, hA0, hAn, hC1, hC2⟩ := hrel
      by_cases hlt : k + 4 ≤ n
      · obtain rfl := hA0 hlt
        have HC1 := Lib.hid hC1
        have HC2 := Lib.hid hC2
        clear hA0 hAn hC1 hC2
        have i1 : (k : Int) + 4 ≤ (b.length : Int) := by omega
        have i2 : (0 : Int) ≤ (k : Int) := by omega
        have hx4 := ext_win b k 4
        have hx17 := ext_win b k 17
        obtain ⟨B4, hB4⟩ : ∃ B, (((⟨b.toArray⟩ : ByteArray).extract k (k + 4)).toList == [13, 10, 13, 10]) = B := ⟨_, rfl⟩
        obtain ⟨B17, hB17⟩ : ∃ B, (((⟨b.toArray⟩ : ByteArray).extract k (k + 17)).toList == [67, 111, 110, 110, 101, 99, 116, 105, 111, 110, 58, 32, 99, 108, 111, 115, 101]) = B := ⟨_, rfl⟩
        have h4t : B4 = true → k + 4 = n := fun h => by
          rw [h, hx4] at hB4
          have := eq_of_beq hB4
          refine Classical.byContradiction fun hne => HD.noEnd k (by omega) this
        have h4f : B4 = false → k + 4 ≠ n := fun h e => by
          rw [h, hx4] at hB4
          have := HD.atEnd
          rw [show n - 4 = k from by omega] at this
          rw [this] at hB4
          exact absurd hB4 (by decide)
        have h17t : B17 = true → cl = true := fun h => by
          rw [h, hx17] at hB17
          exact HD.noClose k hlt (eq_of_beq hB17)
        have h17f : B17 = false → cl = true → k + 21 ≠ n := fun h hc e => by
          rw [h, hx17] at hB17
          have := HD.close hc
          rw [show n - 21 = k from by omega] at this
          rw [this] at hB17
          exact absurd hB17 (by decide)
        have H4t := Lib.hid h4t
        have H4f := Lib.hid h4f
        have H17t := Lib.hid h17t
        have H17f := Lib.hid h17f
        clear h4t h4f h17t h17f hx4 hx17
        by_cases hl17 : (k : Int) + 17 ≤ (b.length : Int)
        · have hl17' : (k : Int) + 17 ≤ (n : Int) + (body.length : Int) := by omega
          cases B4
          · have q4 := Lib.hid (H4f.out rfl)
            cases B17
            · have q17 := Lib.hid (H17f.out rfl)
              go_wp2
              have q4 := q4.out
              exact ⟨⟨k + 1, 0, C, rfl, rfl, by go_num, by omega, fun _ => rfl, fun h => by omega, HC1.out, fun h1 h2 => Decidable.byCases (fun hc : n < k + 21 => HC2.out h1 hc) (fun hc => absurd (by omega) (q17.out h1))⟩, by simp [intOf]; omega⟩
            · have q17 := Lib.hid (H17t.out rfl)
              go_wp2
              have q4 := q4.out
              exact ⟨⟨k + 1, 0, true, rfl, rfl, by go_num, by omega, fun _ => rfl, fun h => by omega, fun _ => q17.out, fun _ _ => rfl⟩, by simp [intOf]; omega⟩
          · have q4 := Lib.hid (H4t.out rfl)
            cases B17
            · have q17 := Lib.hid (H17f.out rfl)
              go_wp2
              have q4 := q4.out
              exact ⟨⟨k + 1, (k : Int) + 4, C, rfl, rfl, by go_num, by omega, fun h => by omega, fun h => by omega, HC1.out, fun h1 h2 => Decidable.byCases (fun hc : n < k + 21 => HC2.out h1 hc) (fun hc => absurd (by omega) (q17.out h1))⟩, by simp [intOf]; omega⟩
            · have q17 := Lib.hid (H17t.out rfl)
              go_wp2
              have q4 := q4.out
              exact ⟨⟨k + 1, (k : Int) + 4, true, rfl, rfl, by go_num, by omega, fun h => by omega, fun h => by omega, fun _ => q17.out, fun _ _ => rfl⟩, by simp [intOf]; omega⟩
        · have hl17' : ¬ (k : Int) + 17 ≤ (n : Int) + (body.length : Int) := by omega
          cases B4
          · have q4 := Lib.hid (H4f.out rfl)
            go_wp2
            have q4 := q4.out
            exact ⟨⟨k + 1, 0, C, rfl, rfl, by go_num, by omega, fun _ => rfl, fun h => by omega, HC1.out, fun h1 h2 => Decidable.byCases (fun hc : n < k + 21 => HC2.out h1 hc) (fun hc => by omega)⟩, by simp [intOf]; omega⟩
          · have q4 := Lib.hid (H4t.out rfl)
            go_wp2
            have q4 := q4.out
            exact ⟨⟨k + 1, (k : Int) + 4, C, rfl, rfl, by go_num, by omega, fun h => by omega, fun h => by omega, HC1.out, fun h1 h2 => Decidable.byCases (fun hc : n < k + 21 => HC2.out h1 hc) (fun hc => by omega)⟩, by simp [intOf]; omega⟩
      · have e1 := hAn (by omega)
        have hkn := Lib.hid (show n = k + 3 by omega)
        have hCc : C = cl := by
          cases cl
          · cases C
            · rfl
            · exact (hC1 rfl).symm
          · exact hC2 rfl (by omega)
        clear hA0 hAn hC1 hC2
        subst e1 hCc
        have hA : ((n : Int) == 0) = false := by simp; omega
        have hG4 := hG _ (below_seq hb2 (below_seq hb3 hb4))
        obtain ⟨g, cg, rfl, hg2, hg3⟩ : ∃ g c, v3 = .slice (some ⟨g, 0, none⟩) b.length c ∧ w2.heap.size ≤ g ∧ g < w3.heap.size := by
          rcases HP3.out.2 with ⟨_, h0⟩ | ⟨g, c, cur, rfl, hb, hg, _⟩
          · omega
          · exact ⟨g, c, rfl, hb, (Array.getElem?_eq_some_iff.1 hg).1⟩
        have hP3 : Part w4 w2.heap.size (.slice (some ⟨g, 0, none⟩) b.length cg) b := owns_below HP3.out hb4
        have hP4 := HP4.out
        have hv4 : v4.ownBlock ≠ some g := fun e => by have := (hP4.lt g e).1; omega
        have HST := Lib.hid (show ∀ wr, w4.grownBy wr (some g) → Part wr w3.heap.size v4 b ∧ Below w2.heap.size w2 wr from fun wr hg => ⟨hP4.kept hg (.inr hv4), (below_seq hb3 hb4).grown hg (below_seq hb3 hb4).size (fun k hk => by cases hk; exact hg2)⟩)
        have HP := Lib.hid hP3
        clear hP3 hP4 hv4 k3
        by_cases hz : (k : Int) + 4 ≤ (n : Int) + (body.length : Int)
        all_goals
          go_wp2
          go_loopw [11] (fun iv wr => ∃ p : Nat, iv = .int .i64 p ∧ p ≤ b.length ∧ w4.grownBy wr (some g) ∧ ∃ xs, wr.ownsRow w2.heap.size 5 1 (.slice (some ⟨g, 0, none⟩) b.length cg) b.length xs) (fun iv _ => b.length - (intOf iv).toNat)
          case atStart => exact ⟨0, rfl, Nat.zero_le _, ⟨rfl, rfl, rfl, Nat.le_refl _, fun _ _ _ => rfl⟩, _, HP.out⟩
          case round =>
            obtain ⟨p, rfl, hp, hgr, xs, hxs⟩ := hrel
            by_cases hpl : p < b.length
            · obtain ⟨x, hcp⟩ : ∃ x, wr.cell? ⟨g, p, none⟩ = some x := ⟨xs[p]'(by have := hxs.1; omega), by rw [hxs.cellAt p (by omega), List.getElem?_eq_getElem]⟩
              have hfp := hxs.frozenAt p
              have hst := Lib.hid (hxs.stored p (.int .u8 238))
              have HGR := Lib.hid hgr
              clear hxs hgr
              have i1 : (0 : Int) ≤ (p : Int) := by omega
              have i2 : (p : Int) < (b.length : Int) := by omega
              go_wp2
              go_roundw
              case rel => exact ⟨p + 1, by go_num, by omega, grown_trans HGR.out hst.out.2, _, hst.out.1⟩
              case measure => simp [intOf]; omega
            · obtain rfl : p = b.length := by omega
              obtain ⟨hp4, hB2⟩ := HST.out wr hgr
              have hB1 := below_seq hb2 hB2
              have hB := below_seq hb12 hB2
              have hc := hG _ hB1
              have hdn : ∀ n, Below wr.heap.size wr (wr.drewN n) := fun n => ⟨rfl, rfl, rfl, Nat.le_refl _, fun _ _ => rfl⟩
              have c1 := fun n => (hG _ (below_seq hB1 (hdn n))).2.1
              have c2 := fun n => (hG _ (below_seq hB1 (hdn n))).2.2
              have v1 := fun n => conv_arg (argRow_below (argRow_owns hp4) (hdn n))
              have v2 := fun n => conv_arg (argRow_below HROW.out (below_seq hB (hdn n)))
              have hx9 : ((⟨b.toArray⟩ : ByteArray).extract 0 9).toList = [72, 84, 84, 80, 47, 49, 46, 49, 32] := by
                have := ext_win b 0 9
                rw [Nat.zero_add] at this
                rw [this, HD.first]
                rfl
              have i9 : (9 : Int) ≤ (b.length : Int) := by omega
              have in1 : (n : Int) ≤ (b.length : Int) := by omega
              have in0 : (0 : Int) < (n : Int) := by omega
              have in0n : 0 < n := by omega
              have hxn : ((⟨b.toArray⟩ : ByteArray).extract n (n + body.length)).toList = body := by
                rw [ext_win b n body.length]
                unfold winOf
                rw [hbody, List.take_length]
              have hxs : ((⟨b.toArray⟩ : ByteArray).extract n (n + body.length)) = ⟨body.toArray⟩ := by
                apply ByteArray.ext
                have h := hxn
                rw [ByteArray.toList_eq] at h
                rw [← Array.toList_inj, h]
              have in0z : (0 : Int) ≤ (n : Int) := by omega
              have in2 : (n : Int) ≤ (n : Int) + (body.length : Int) := by omega
              have in3 : n ≤ n + body.length := by omega
              have in4 : ¬ (n : Int) + (body.length : Int) < (n : Int) := by omega
              have in5 : ¬ (n : Int) < 0 := by omega
              have in6 : ¬ n + body.length < n := by omega
              have in0d : decide ((n : Int) > 0) = true := decide_eq_true in0
              have in0e : decide (n > 0) = true := decide_eq_true in0n
              go_wp2_with fail
              go_quiet (fail)
              go_wp2_with fail
              go_ret
              exact ⟨by first | rfl | simp, below_seq hB (hdn _)⟩
end Go.Proofs.YtknoimflimhcgaaDoor
