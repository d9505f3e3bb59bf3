/-
  The walk of RecordPuts.
-/
import Derived.Test.YtkgnhimepcihpaaDoorGetAll
import Derived.Lib.QuietBelow
namespace Go.Proofs.YtkgnhimepcihpaaDoor
open Go.RowKit
theorem conv_ob {w : World} {B : Nat} {v : Value} {l : List UInt8} (h : OB w B v l) : (convert 22 9 v).run Tryd.prog w = .ok (.string ⟨l.toArray⟩) w :=
  conv_owned (P := Tryd.prog) (src := 22) (dst := 9) Tryd.underlying22 Tryd.underlying5 Tryd.underlying9 h
set_option maxRecDepth 100000 in
set_option maxHeartbeats 8000000 in
theorem puts_walk (v : Value) (Z : List RecL) (w : World) (hT : Tabs w) (h : RRow w v Z) (hi : ∀ z ∈ Z, inRec z.1) (hZ : Z.length ≤ 1048576) :
    Calls Tryd.prog 5 #[v] w fun e w' => e = .returned (.bool true) ∧ Below w.heap.size w w' := by
  have CA := Lib.hid (law09_awake w hT)
  have CP := Lib.hid (fun W (hW : Below w.heap.size w W) => record_PutAll v Z W (h.below hW) (Utf8Tabs_below hT hW) hi hZ)
  have CR := Lib.hid (fun W (hW : Below w.heap.size w W) => rrec_PutAll v Z W (h.below hW) hi hZ)
  obtain ⟨al, cl, rfl, hlc, hlc2⟩ := h.shape
  unfold maxLen at hlc2
  have H := Lib.hid h
  have HI := Lib.hid hi
  obtain ⟨E, hE⟩ : ∃ E, putE (Z.map Prod.fst) = E := ⟨_, rfl⟩
  obtain ⟨G, hG⟩ : ∃ E, putB (Z.map Prod.fst) = E := ⟨_, rfl⟩
  rw [hE, hG] at CP CR
  clear h hi hE hG
  go_enter Tryd.func5, Tryd.ntmps5
  go_upto_region 3 with (go_at_call 12; refine CA.out.mono ?_; rintro en w1 ⟨rfl, hb1⟩)
  go_upto_region 4 with (go_at_call 20; refine (CP.out _ hb1).mono ?_; rintro en w2 ⟨v2, rfl, ho2, hb2⟩)
  have hb12 := below_seq hb1 hb2
  go_upto_region 5 with (go_at_call 21; refine (CR.out _ hb12).mono ?_; rintro en w3 ⟨v3, rfl, ho3, hb3⟩)
  have hb13 := below_seq hb12 hb3
  have hcv2 := conv_ob (owns_below ho2 hb3)
  have hcv3 := conv_ob ho3
  clear ho2 ho3 CA CP CR
  go_wp2_with fail
  clear hcv2 hcv3
  go_loopw [3, 4, 5, 6, 7] (fun _ _ _ _ iv wr => ∃ k : Nat, iv = .int .i64 k ∧ k ≤ Z.length ∧ Below w.heap.size w wr) (fun _ _ _ _ iv _ => Z.length - (intOf iv).toNat)
  case atStart => exact ⟨0, rfl, Nat.zero_le _, hb13⟩
  case round =>
    obtain ⟨k, rfl, hk, hbr⟩ := hrel
    by_cases hlt : k < Z.length
    · have h0lt : 0 < Z.length := by omega
      have hmk := List.getElem_mem hlt
      have hm0 := List.getElem_mem h0lt
      obtain ⟨ba, oa, rfl, hba, ga0, ga1, ga2, ga3⟩ := H.out.at hlt
      obtain ⟨ba', oa', e', -, gz0, gz1, gz2, gz3⟩ := H.out.at h0lt
      cases e'
      obtain ⟨ak, ck, hlk, -, -⟩ := (H.out.2 _ hmk).1.shape
      obtain ⟨az, cz, hlz, -, -⟩ := (H.out.2 _ hm0).1.shape
      have RK := fun W (hW : Below w.heap.size w W) => (H.out.2 _ hmk).below hW
      rw [hlk] at RK ga2
      rw [hlz] at gz2
      have CP := Lib.hid (fun W (hW : Below w.heap.size w W) => record_Put Z[k].1 _ W (RK W hW) (Utf8Tabs_below hT hW) (HI.out _ hmk))
      have CR := Lib.hid (fun W (hW : Below w.heap.size w W) => rrec_Put Z[k].1 _ W (RK W hW) (HI.out _ hmk))
      have CC := Lib.hid (fun W (hW : Below w.heap.size w W) => rec_Check Z[k].1 _ W (RK W hW) (Utf8Tabs_below hT hW))
      have CD := Lib.hid (fun W (hW : Below w.heap.size w W) => rrec_Check Z[k].1 _ W (RK W hW))
      have C1 := Lib.hid (fun W => record_Compare Z[0].1 Z[k].1 (.slice az Z[0].1.labs.length cz) (.slice ak Z[k].1.labs.length ck) W)
      have C2 := Lib.hid (fun W => record_Compare Z[k].1 Z[0].1 (.slice ak Z[k].1.labs.length ck) (.slice az Z[0].1.labs.length cz) W)
      have D1 := Lib.hid (fun W => rrec_Compare Z[0].1 Z[k].1 (.slice az Z[0].1.labs.length cz) (.slice ak Z[k].1.labs.length ck) W)
      have D2 := Lib.hid (fun W => rrec_Compare Z[k].1 Z[0].1 (.slice ak Z[k].1.labs.length ck) (.slice az Z[0].1.labs.length cz) W)
      generalize chkRec Z[k].1 = chk at *
      obtain ⟨T, hT'⟩ : ∃ T, (if chk = 0 then wRec Z[k].1 else []) = T := ⟨_, rfl⟩
      rw [hT'] at CP CR
      generalize cmpRec Z[0].1 Z[k].1 = x1 at *
      generalize cmpRec Z[k].1 Z[0].1 = x2 at *
      unfold recV at CP CR CC CD C1 C2 D1 D2
      have hcell : ∀ W, Below w.heap.size w W → (W.cell? ⟨ba, oa + k * 4, none⟩ = some (.int .i64 Z[k].1.time) ∧ W.cell? ⟨ba, oa + k * 4 + 1, none⟩ = some (.int .u64 (Z[k].1.seq : Int)) ∧ W.cell? ⟨ba, oa + k * 4 + 2, none⟩ = some (.slice ak Z[k].1.labs.length ck) ∧ W.cell? ⟨ba, oa + k * 4 + 3, none⟩ = some (.string Z[k].1.line)) ∧
          (W.cell? ⟨ba, oa, none⟩ = some (.int .i64 Z[0].1.time) ∧ W.cell? ⟨ba, oa + 1, none⟩ = some (.int .u64 (Z[0].1.seq : Int)) ∧ W.cell? ⟨ba, oa + 2, none⟩ = some (.slice az Z[0].1.labs.length cz) ∧ W.cell? ⟨ba, oa + 3, none⟩ = some (.string Z[0].1.line)) := fun W hW => by
        have z0 : oa + 0 * 4 = oa := by omega
        rw [z0] at gz0 gz1 gz2 gz3
        refine ⟨⟨?_, ?_, ?_, ?_⟩, ?_, ?_, ?_, ?_⟩
        · rw [hW.cell (p := ⟨ba, _, none⟩) hba]; exact ga0
        · rw [hW.cell (p := ⟨ba, _, none⟩) hba]; exact ga1
        · rw [hW.cell (p := ⟨ba, _, none⟩) hba]; exact ga2
        · rw [hW.cell (p := ⟨ba, _, none⟩) hba]; exact ga3
        · rw [hW.cell (p := ⟨ba, _, none⟩) hba]; exact gz0
        · rw [hW.cell (p := ⟨ba, _, none⟩) hba]; exact gz1
        · rw [hW.cell (p := ⟨ba, _, none⟩) hba]; exact gz2
        · rw [hW.cell (p := ⟨ba, _, none⟩) hba]; exact gz3
      have HC := Lib.hid hcell
      clear ga0 ga1 ga2 ga3 gz0 gz1 gz2 gz3 hlk hlz RK hT' hcell hmk hm0
      generalize Z[k].1.time = ta at *
      generalize (Z[k].1.seq : Int) = sa at *
      generalize Z[k].1.line = na at *
      generalize Z[k].1.labs.length = la at *
      generalize Z[0].1.time = tz at *
      generalize (Z[0].1.seq : Int) = sz at *
      generalize Z[0].1.line = nz at *
      generalize Z[0].1.labs.length = lz at *
      have i1 : (k : Int) < (Z.length : Int) := by omega
      have i2 : (0 : Int) ≤ (k : Int) := by omega
      have i3 : (0 : Int) < (Z.length : Int) := by omega
      obtain ⟨⟨p0, p1, p2, p3⟩, -⟩ := HC.out wr hbr
      go_upto_region 11 with (go_at_call 22; refine (CP.out _ hbr).mono ?_; rintro en w4 ⟨v4, rfl, ho4, hb4⟩; have hbr4 := below_seq hbr hb4; obtain ⟨⟨p0, p1, p2, p3⟩, -⟩ := HC.out w4 hbr4)
      go_upto_region 12 with (go_at_call 23; refine (CR.out _ hbr4).mono ?_; rintro en w5 ⟨v5, rfl, ho5, hb5⟩; have hbr5 := below_seq hbr4 hb5)
      clear p0 p1 p2 p3
      have hall := fun d os => HC.out _ (below_seq hbr5 (below_regrown w5 d os))
      have p0 := fun d os => (hall d os).1.1
      have p1 := fun d os => (hall d os).1.2.1
      have p2 := fun d os => (hall d os).1.2.2.1
      have p3 := fun d os => (hall d os).1.2.2.2
      have q0 := fun d os => (hall d os).2.1
      have q1 := fun d os => (hall d os).2.2.1
      have q2 := fun d os => (hall d os).2.2.2.1
      have q3 := fun d os => (hall d os).2.2.2.2
      have cv4 : ∀ d os, (convert 22 9 v4).run Tryd.prog (Sort.grow (redrawn w5 d) os) = .ok (.string ⟨T.toArray⟩) (Sort.grow (redrawn w5 d) os) := fun d os => conv_ob (owns_below (owns_below ho4 hb5) (below_regrown w5 d os))
      have cv5 : ∀ d os, (convert 22 9 v5).run Tryd.prog (Sort.grow (redrawn w5 d) os) = .ok (.string ⟨T.toArray⟩) (Sort.grow (redrawn w5 d) os) := fun d os => conv_ob (owns_below ho5 (below_regrown w5 d os))
      have dC : ∀ d os, Calls Tryd.prog 24 #[.agg #[.int .i64 ta, .int .u64 sa, .slice ak la ck, .string na]] (Sort.grow (redrawn w5 d) os) fun e w'' => e = .returned (.int .i64 chk) ∧ ∃ p : Regrown, w'' = Sort.grow (redrawn w5 p.d) p.os := fun d os => Calls.regrown_of (CC.out _ (below_seq hbr5 (below_regrown w5 d os)))
      have dD : ∀ d os, Calls Tryd.prog 25 #[.agg #[.int .i64 ta, .int .u64 sa, .slice ak la ck, .string na]] (Sort.grow (redrawn w5 d) os) fun e w'' => e = .returned (.int .i64 chk) ∧ ∃ p : Regrown, w'' = Sort.grow (redrawn w5 p.d) p.os := fun d os => Calls.regrown_of (CD.out _ (below_seq hbr5 (below_regrown w5 d os)))
      have d1 : ∀ d os, Calls Tryd.prog 19 #[.agg #[.int .i64 tz, .int .u64 sz, .slice az lz cz, .string nz], .agg #[.int .i64 ta, .int .u64 sa, .slice ak la ck, .string na]] (Sort.grow (redrawn w5 d) os) fun e w'' => e = .returned (.int .i64 x1) ∧ ∃ p : Regrown, w'' = Sort.grow (redrawn w5 p.d) p.os := fun d os => Calls.regrown_of (C1.out _)
      have d2 : ∀ d os, Calls Tryd.prog 19 #[.agg #[.int .i64 ta, .int .u64 sa, .slice ak la ck, .string na], .agg #[.int .i64 tz, .int .u64 sz, .slice az lz cz, .string nz]] (Sort.grow (redrawn w5 d) os) fun e w'' => e = .returned (.int .i64 x2) ∧ ∃ p : Regrown, w'' = Sort.grow (redrawn w5 p.d) p.os := fun d os => Calls.regrown_of (C2.out _)
      have d3 : ∀ d os, Calls Tryd.prog 26 #[.agg #[.int .i64 tz, .int .u64 sz, .slice az lz cz, .string nz], .agg #[.int .i64 ta, .int .u64 sa, .slice ak la ck, .string na]] (Sort.grow (redrawn w5 d) os) fun e w'' => e = .returned (.int .i64 x1) ∧ ∃ p : Regrown, w'' = Sort.grow (redrawn w5 p.d) p.os := fun d os => Calls.regrown_of (D1.out _)
      have d4 : ∀ d os, Calls Tryd.prog 26 #[.agg #[.int .i64 ta, .int .u64 sa, .slice ak la ck, .string na], .agg #[.int .i64 tz, .int .u64 sz, .slice az lz cz, .string nz]] (Sort.grow (redrawn w5 d) os) fun e w'' => e = .returned (.int .i64 x2) ∧ ∃ p : Regrown, w'' = Sort.grow (redrawn w5 p.d) p.os := fun d os => Calls.regrown_of (D2.out _)
      clear hall CP CR CC CD C1 C2 D1 D2 HC ho4 ho5
      refine wp_region_quiet_below (by kernel_rfl) (by kernel_rfl) ?_
      repeat (go_big_quiet_step (first | with_reducible exact dC _ _ | with_reducible exact dD _ _ | with_reducible exact d1 _ _ | with_reducible exact d2 _ _ | with_reducible exact d3 _ _ | with_reducible exact d4 _ _))
      refine wpQuiet_nil ?_
      intro _ hw'
      obtain ⟨⟨dq, osq⟩, hw''⟩ := hw'
      subst hw''
      have hbq := below_seq hbr5 (below_regrown w5 dq osq)
      clear p0 p1 p2 p3 q0 q1 q2 q3 cv4 cv5 dC dD d1 d2 d3 d4
      go_wp2
      go_roundw
      case rel => exact ⟨k + 1, by go_num, by omega, hbq⟩
      case measure => simp [intOf]; omega
    · have i1 : ¬ (k : Int) < (Z.length : Int) := by omega
      go_wp2
      go_ret
      exact ⟨rfl, hbr⟩
end Go.Proofs.YtkgnhimepcihpaaDoor
