/-
  The walk of RecordGets.
-/
import Derived.Test.YtkgnhimepcihpaaDoorGetAll
namespace Go.Proofs.YtkgnhimepcihpaaDoor
open Go.RowKit
theorem allL_len (b : List UInt8) : (allL b).length ≤ 65536 := by
  unfold allL
  cases h : getAll b with
  | error E => simp
  | ok l =>
    unfold getAll at h
    split at h
    · cases h
    · rename_i l' c h1
      split at h
      · cases h
      · cases h
        exact (bat_reads.back b l c h1).1.1
set_option maxRecDepth 100000 in
set_option maxHeartbeats 4000000 in
theorem gets_walk (v : Value) (b : List UInt8) (z : Int) (w : World) (hrow : argRow w v b.length 1 (Lib.byteCells b)) (hl : b.length ≤ 1000000000) (hT : Tabs w) (h1 : -9223372036854775808 ≤ z) (h2 : z ≤ 9223372036854775807) :
    Calls Tryd.prog 3 #[v, .int .i64 z] w fun e w' => e = .returned (.bool true) ∧ Below w.heap.size w w' := by
  have CA := Lib.hid (law09_awake w hT)
  have CG := Lib.hid (fun W (hW : Below w.heap.size w W) => record_Get v b z W h1 h2 (argRow_below hrow hW) hl (Utf8Tabs_below hT hW))
  have CR := Lib.hid (fun W (hW : Below w.heap.size w W) => rrec_Get v b z W h1 h2 (argRow_below hrow hW) hl)
  have CL := Lib.hid (fun W (hW : Below w.heap.size w W) => record_GetAll v b W (argRow_below hrow hW) hl (Utf8Tabs_below hT hW))
  have CM := Lib.hid (fun W (hW : Below w.heap.size w W) => rrec_GetAll v b W (argRow_below hrow hW) hl)
  have hlen := allL_len b
  obtain ⟨X, hX⟩ : ∃ X, getR b z = X := ⟨_, rfl⟩
  obtain ⟨T, hT'⟩ : ∃ X, getTo b z = X := ⟨_, rfl⟩
  obtain ⟨E, hE⟩ : ∃ X, getE b z = X := ⟨_, rfl⟩
  obtain ⟨F, hF⟩ : ∃ X, allE b = X := ⟨_, rfl⟩
  obtain ⟨L, hL⟩ : ∃ X, allL b = X := ⟨_, rfl⟩
  rw [hX, hT', hE] at CG CR
  rw [hF, hL] at CL CM
  rw [hL] at hlen
  unfold recV at CG CR
  clear hX hT' hE hF hL hrow h1 h2
  go_enter Tryd.func3, Tryd.ntmps3
  go_upto_region 3 with (go_at_call 12; refine CA.out.mono ?_; rintro en w1 ⟨rfl, hb1⟩)
  go_upto_region 4 with (go_at_call 13; refine (CG.out _ hb1).mono ?_; rintro en w2 ⟨la, rfl, hr2, hown2, hb2⟩; obtain ⟨al, cl, rfl⟩ := owns_slice hown2)
  have hbB := belowA (o := .cells #[.int .i64 X.time, .int .u64 (X.seq : Int), .slice al X.labs.length cl, .string X.line] 27) (Below.refl w2.heap.size w2)
  have hc3 := heap_alloc_new w2 (.cells #[.int .i64 X.time, .int .u64 (X.seq : Int), .slice al X.labs.length cl, .string X.line] 27)
  have hr3 := hr2.below hbB
  have hb3 := below_seq (below_seq hb1 hb2) hbB
  have hs3 : w2.heap.size < (w2.alloc (.cells #[.int .i64 X.time, .int .u64 (X.seq : Int), .slice al X.labs.length cl, .string X.line] 27)).heap.size := by simp
  clear hr2 hown2 hbB hb1 hb2
  generalize w2.alloc (.cells #[.int .i64 X.time, .int .u64 (X.seq : Int), .slice al X.labs.length cl, .string X.line] 27) = w3 at *
  generalize w2.heap.size = ba at *
  go_upto_region 5 with (go_at_call 14; refine (CR.out _ hb3).mono ?_; rintro en w4 ⟨lb, rfl, hr4, hown4, hb4⟩; obtain ⟨bl, dl, rfl⟩ := owns_slice hown4)
  have hbB := belowA (o := .cells #[.int .i64 X.time, .int .u64 (X.seq : Int), .slice bl X.labs.length dl, .string X.line] 27) (Below.refl w4.heap.size w4)
  have hc5 := heap_alloc_new w4 (.cells #[.int .i64 X.time, .int .u64 (X.seq : Int), .slice bl X.labs.length dl, .string X.line] 27)
  have hr5 := hr4.below hbB
  have hb35 := below_seq hb4 hbB
  have hb5 := below_seq hb3 hb35
  have hr35 := hr3.below hb35
  have hc35 : (w4.alloc (.cells #[.int .i64 X.time, .int .u64 (X.seq : Int), .slice bl X.labs.length dl, .string X.line] 27)).heap[ba]? = some (.cells #[.int .i64 X.time, .int .u64 (X.seq : Int), .slice al X.labs.length cl, .string X.line] 27 (0, 0)) := by
    rw [hb35.block _ hs3]; exact hc3
  have hs5 : w4.heap.size < (w4.alloc (.cells #[.int .i64 X.time, .int .u64 (X.seq : Int), .slice bl X.labs.length dl, .string X.line] 27)).heap.size := by simp
  have hs45 := hb35.size
  clear hr4 hown4 hbB hb4 hr3 hc3 hb3 hb35
  generalize w4.alloc (.cells #[.int .i64 X.time, .int .u64 (X.seq : Int), .slice bl X.labs.length dl, .string X.line] 27) = w5 at *
  generalize w4.heap.size = bb at *
  go_upto_region 6 with (go_at_call 15; refine (CL.out _ hb5).mono ?_; rintro en w6 ⟨v6, Z6, rfl, hZ6, hown6, hb6⟩)
  have hb56 := below_seq hb5 hb6
  go_upto_region 7 with (go_at_call 16; refine (CM.out _ hb56).mono ?_; rintro en w7 ⟨v7, Z7, rfl, hZ7, hown7, hb7⟩)
  have hb57 := below_seq hb6 hb7
  have hb07 := below_seq hb5 hb57
  have hra := hr35.below hb57
  have hrb := hr5.below hb57
  have hca : w7.heap[ba]? = some (.cells #[.int .i64 X.time, .int .u64 (X.seq : Int), .slice al X.labs.length cl, .string X.line] 27 (0, 0)) := by
    rw [hb57.block _ (by omega)]; exact hc35
  have hcb : w7.heap[bb]? = some (.cells #[.int .i64 X.time, .int .u64 (X.seq : Int), .slice bl X.labs.length dl, .string X.line] 27 (0, 0)) := by
    rw [hb57.block _ hs5]; exact hc5
  obtain ⟨c0, c1, c2, c3, -, -, -, -⟩ := cells4 hca
  obtain ⟨d0, d1, d2, d3, -, -, -, -⟩ := cells4 hcb
  have hS := rrec_Same X X (.slice al X.labs.length cl) (.slice bl X.labs.length dl) w7 hra.1 hrb.1
  rw [decide_eq_true rfl] at hS
  unfold recV at hS
  have CS := Lib.hid hS
  have hrow6 := (hown6.row.below hb7)
  have CQ := Lib.hid (fun W (hW : Below w7.heap.size w7 W) => rrec_SameAll v6 v7 Z6 Z7 W (hrow6.below hW) (hown7.row.below hW) (by have := congrArg List.length hZ6; rw [List.length_map] at this; omega))
  rw [hZ6, hZ7, decide_eq_true rfl] at CQ
  clear hS hra hrb hca hcb hc5 hc35 hr35 hr5 hown6 hown7 hrow6 hZ6 hZ7 CA CG CR CL CM hb56 hb6 hb7
  go_wp2_with (first
    | (go_at_call 17; refine CS.out.mono ?_; rintro en w8 ⟨rfl, hb8⟩)
    | (go_at_call 18; refine (CQ.out _ hb8).mono ?_; rintro en w9 ⟨rfl, hb9⟩))
  go_ret
  exact ⟨by first | rfl | simp, below_seq hb07 (below_seq hb8 hb9)⟩
end Go.Proofs.YtkgnhimepcihpaaDoor
