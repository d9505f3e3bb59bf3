/-
  The document's One: a record written.
-/
import Derived.Test.YtljnbbdhmlfhjaaGreatDoorWbB
import Derived.Test.YtljnbbdhmlfhjaaGreatDoorWirTri
namespace Go.Proofs.YtljnbbdhmlfhjaaGreatDoor
open Go.RowKit
theorem recJ_text (r : Rec) : formJ (recJ r) = ([123, 34, 116, 105, 109, 101, 34, 58] : Bs) ++ (Lib.itoa r.time ++ (([44, 34, 115, 101, 113, 34, 58] : Bs) ++ (Lib.decDigits r.seq ++ (([44, 34, 108, 97, 98, 101, 108, 115, 34, 58, 123] : Bs) ++ (memG true (r.labs.map memOf) ++ (([125, 44, 34, 108, 105, 110, 101, 34, 58] : Bs) ++ (quote (bsOf r.line) ++ ([125] : Bs)))))))) := by
  have e1 : quote kTime = [34, 116, 105, 109, 101, 34] := by decide
  have e2 : quote kLabels = [34, 108, 97, 98, 101, 108, 115, 34] := by decide
  have e3 : quote kLine = [34, 108, 105, 110, 101, 34] := by decide
  have e4 : quote kSeq = [34, 115, 101, 113, 34] := by decide
  simp [recJ, formJ, formM, formU, formE, e1, e2, e3, e4, memG]
set_option maxRecDepth 100000 in
set_option maxHeartbeats 40000000 in
theorem ref23_One (r : Rec) (lv : Value) (w : World) (hL : LRow w lv r.labs) (ht : -9223372036854775808 ≤ r.time ∧ r.time ≤ 9223372036854775807) (hs : r.seq < 18446744073709551616) (hlab : ∀ x ∈ r.labs, x.1.size ≤ 1000000000 ∧ x.2.size ≤ 1000000000) (hline : r.line.size ≤ 1000000000) (hln : r.labs.length ≤ 1048576) (hlen : (formJ (recJ r)).length ≤ 1000000000) :
    Calls Tryz.prog 52 #[recV r lv] w fun e w' => e = .returned (.string ⟨(formJ (recJ r)).toArray⟩) ∧ Below w.heap.size w w' := by
  have hb0 := belowAJ (o := .cells #[.int .i64 r.time, .int .u64 (r.seq : Int), lv, .string r.line] 34) (Below.refl w.heap.size w) (Nat.le_refl _)
  have hbox := heap_alloc_new w (.cells #[.int .i64 r.time, .int .u64 (r.seq : Int), lv, .string r.line] 34)
  have hsize : (w.alloc (.cells #[.int .i64 r.time, .int .u64 (r.seq : Int), lv, .string r.line] 34)).heap.size = w.heap.size + 1 := by simp
  have hL1 := hL.below hb0
  obtain ⟨la, lc, rfl, hc1, hc2⟩ := hL.shape
  obtain ⟨c0, c1, c2, c3, -, -, -, -⟩ := cells4 hbox
  unfold recV
  have htx := recJ_text r
  obtain ⟨R, hR⟩ : ∃ R, formJ (recJ r) = R := ⟨_, rfl⟩
  rw [hR] at hlen htx ⊢
  obtain ⟨rt, rs, L, rl⟩ := r
  simp only at *
  obtain ⟨D, hD⟩ : ∃ D : ByteArray, (⟨(Lib.itoa rt).toArray⟩ : ByteArray) = D := ⟨_, rfl⟩
  obtain ⟨E, hE⟩ : ∃ E : ByteArray, (⟨(Lib.decDigits rs).toArray⟩ : ByteArray) = E := ⟨_, rfl⟩
  obtain ⟨Q, hQ⟩ : ∃ Q : ByteArray, (⟨(quote (bsOf rl)).toArray⟩ : ByteArray) = Q := ⟨_, rfl⟩
  have hDl : Lib.itoa rt = D.data.toList := by rw [← hD]
  have hEl : Lib.decDigits rs = E.data.toList := by rw [← hE]
  have hQl : quote (bsOf rl) = Q.data.toList := by rw [← hQ]
  have CD := Lib.hid (fun W => ref_Signed rt ht.1 ht.2 W)
  have CE := Lib.hid (fun W => ref_Digits rs hs W)
  have CQ := Lib.hid (fun W => ref_Quote rl W (by omega))
  rw [show rl.data.toList = bsOf rl from rfl] at CQ
  rw [hD] at CD
  rw [hE] at CE
  rw [hQ] at CQ
  rw [hDl, hEl, hQl] at htx
  have hln2 := congrArg List.length htx
  simp only [List.length_append, List.length_cons, List.length_nil, zlen_size] at hln2
  have zD : D.size ≤ 1000000000 := by omega
  have zE : E.size ≤ 1000000000 := by omega
  have zQ : Q.size ≤ 1000000000 := by omega
  have HSZ := Lib.hid hlab
  have HTX := Lib.hid htx
  obtain ⟨p, hp⟩ : ∃ p, w.heap.size = p := ⟨_, rfl⟩
  have hll : L.length ≤ 1048576 := hln
  have y1 : ((⟨#[123, 34, 116, 105, 109, 101, 34, 58]⟩ : ByteArray) ++ D).size ≤ 1000000008 := by rw [zcat_size, show (⟨#[123, 34, 116, 105, 109, 101, 34, 58]⟩ : ByteArray).size = 8 from rfl]; omega
  have y2 : ((⟨#[123, 34, 116, 105, 109, 101, 34, 58]⟩ : ByteArray) ++ D ++ (⟨#[44, 34, 115, 101, 113, 34, 58]⟩ : ByteArray)).size ≤ 1000000015 := by rw [zcat_size, show (⟨#[44, 34, 115, 101, 113, 34, 58]⟩ : ByteArray).size = 7 from rfl]; omega
  have y3 : ((⟨#[123, 34, 116, 105, 109, 101, 34, 58]⟩ : ByteArray) ++ D ++ (⟨#[44, 34, 115, 101, 113, 34, 58]⟩ : ByteArray) ++ E).size ≤ 2000000015 := by rw [zcat_size]; omega
  obtain ⟨s0, hs0⟩ : ∃ s0, (⟨#[123, 34, 116, 105, 109, 101, 34, 58]⟩ : ByteArray) ++ D ++ (⟨#[44, 34, 115, 101, 113, 34, 58]⟩ : ByteArray) ++ E ++ (⟨#[44, 34, 108, 97, 98, 101, 108, 115, 34, 58, 123]⟩ : ByteArray) = s0 := ⟨_, rfl⟩
  have HAC := Lib.hid (show s0.data.toList ++ (memG true (L.map memOf) ++ (([125, 44, 34, 108, 105, 110, 101, 34, 58] : Bs) ++ (Q.data.toList ++ ([125] : Bs)))) = R by
    rw [htx, ← hs0, zcat_list, zcat_list, zcat_list, zcat_list]
    simp)
  have CD' := Lib.hid CD.out
  have HLW := Lib.hid (fun (W : World) (hW : Below (w.alloc (.cells #[.int .i64 rt, .int .u64 (rs : Int), .slice la L.length lc, .string rl] 34)).heap.size (w.alloc (.cells #[.int .i64 rt, .int .u64 (rs : Int), .slice la L.length lc, .string rl] 34)) W) => hL1.below hW)
  clear hL hL1 hc1 hbox hlab hln htx hln2 hDl hEl hQl hD hE hQ hR hs ht hc2 CD'
  go_enter Tryz.func52, Tryz.ntmps52
  go_upto_region 1 with fail
  rw [hp] at c0 c1 c2 c3 hsize
  generalize hw1 : w.alloc (.cells #[.int .i64 rt, .int .u64 (rs : Int), .slice la L.length lc, .string rl] 34) = w1 at *
  have HC := Lib.hid (fun (W : World) (hW : Below w1.heap.size w1 W) => (⟨by rw [hW.cell (p := ⟨p, 0, none⟩) (by show p < _; omega)]; exact c0, by rw [hW.cell (p := ⟨p, 2, none⟩) (by show p < _; omega)]; exact c2, by rw [hW.cell (p := ⟨p, 3, none⟩) (by show p < _; omega)]; exact c3⟩ : W.cell? ⟨p, 0, none⟩ = some (.int .i64 rt) ∧ W.cell? ⟨p, 2, none⟩ = some (.slice la L.length lc) ∧ W.cell? ⟨p, 3, none⟩ = some (.string rl)))
  have HB0 := Lib.hid hb0
  have HL0 := Lib.hid (HLW.out w1 (Below.refl _ _))
  have g0 := cell_regrown c0
  have g1 := cell_regrown c1
  have dD : ∀ d os, Calls Tryz.prog 37 #[.int .i64 rt] (Sort.grow (redrawn w1 d) os) fun e w'' => e = .returned (.string D) ∧ ∃ p : Regrown, w'' = Sort.grow (redrawn w1 p.d) p.os := fun d os => Calls.regrown_of (CD.out _)
  have dE : ∀ d os, Calls Tryz.prog 72 #[.int .u64 (rs : Int)] (Sort.grow (redrawn w1 d) os) fun e w'' => e = .returned (.string E) ∧ ∃ p : Regrown, w'' = Sort.grow (redrawn w1 p.d) p.os := fun d os => Calls.regrown_of (CE.out _)
  clear c0 c1 c2 c3 hb0 hp hw1 hsize CD CE
  refine wp_region_quiet_below (by kernel_rfl) (by kernel_rfl) ?_
  repeat (go_big_quiet_step (first | with_reducible exact dD _ _ | with_reducible exact dE _ _))
  refine wpQuiet_nil ?_
  intro _ hw'
  obtain ⟨⟨dq, osq⟩, hw''⟩ := hw'
  subst hw''
  have hbq := below_regrown w1 dq osq
  clear g0 g1 dD dE y1 y2 y3 hs0
  generalize Sort.grow (redrawn w1 dq) osq = w2 at *
  go_wp2
  go_loopw [3, 4] (fun sv iv wr => ∃ (j : Nat) (a : ByteArray), sv = .string a ∧ iv = .int .i64 j ∧ j ≤ L.length ∧ a.data.toList ++ (memG (decide (j = 0)) ((L.drop j).map memOf) ++ (([125, 44, 34, 108, 105, 110, 101, 34, 58] : Bs) ++ (Q.data.toList ++ ([125] : Bs)))) = R ∧ Below w1.heap.size w1 wr) (fun _ iv _ => L.length - (intOf iv).toNat)
  case atStart => exact ⟨0, s0, rfl, rfl, Nat.zero_le _, HAC.out, hbq⟩
  case round =>
    obtain ⟨j, a, rfl, rfl, hj, hacc, hbr⟩ := hrel
    by_cases hjl : j < L.length
    · obtain ⟨bb, ob, rfl, hbb, p1, p2⟩ := HL0.out.at hjl
      obtain ⟨hx1, hx2⟩ := HSZ.out L[j] (List.getElem_mem hjl)
      rw [List.drop_eq_getElem_cons hjl, List.map_cons, lab_text] at hacc
      have HJ := Lib.hid (show memG false ((L.drop (j + 1)).map memOf) = memG (decide (j + 1 = 0)) ((L.drop (j + 1)).map memOf) from rfl)
      obtain ⟨U, hU⟩ : ∃ U, memG false ((L.drop (j + 1)).map memOf) = U := ⟨_, rfl⟩
      rw [hU] at HJ hacc
      clear hU
      generalize L[j] = x at *
      obtain ⟨x1, x2⟩ := x
      simp only at *
      obtain ⟨prj, hprj, hcj⟩ := pre_cases j
      rw [hprj] at hacc
      clear hprj
      obtain ⟨N, hN⟩ : ∃ N : ByteArray, (⟨(quote (bsOf x1)).toArray⟩ : ByteArray) = N := ⟨_, rfl⟩
      obtain ⟨V, hV⟩ : ∃ V : ByteArray, (⟨(quote (bsOf x2)).toArray⟩ : ByteArray) = V := ⟨_, rfl⟩
      have hNl : quote (bsOf x1) = N.data.toList := by rw [← hN]
      have hVl : quote (bsOf x2) = V.data.toList := by rw [← hV]
      rw [hNl, hVl] at hacc
      have hln := congrArg List.length hacc
      simp only [List.length_append, List.length_cons, List.length_nil, zlen_size] at hln
      have j0 : (0 : Int) ≤ (j : Int) := by omega
      have j1 : (j : Int) < (L.length : Int) := by omega
      have C1 := Lib.hid (fun W => ref_Quote x1 W (by omega))
      have C2 := Lib.hid (fun W => ref_Quote x2 W (by omega))
      rw [show x1.data.toList = bsOf x1 from rfl, hN] at C1
      rw [show x2.data.toList = bsOf x2 from rfl, hV] at C2
      have hbb' : bb < w1.heap.size := hbb
      have w0 : wr.cell? ⟨p, 2, none⟩ = some (.slice (some ⟨bb, ob, none⟩) L.length lc) := (HC.out wr hbr).2.1
      have x1w : wr.cell? ⟨bb, ob + j * 2, none⟩ = some (.string x1) := by rw [hbr.cell (p := ⟨bb, _, none⟩) hbb']; exact p1
      have x2w : wr.cell? ⟨bb, ob + j * 2 + 1, none⟩ = some (.string x2) := by rw [hbr.cell (p := ⟨bb, _, none⟩) hbb']; exact p2
      have g0 := cell_regrown w0
      have g1 := cell_regrown x1w
      have g2 := cell_regrown x2w
      have d1 : ∀ d os, Calls Tryz.prog 38 #[.string x1] (Sort.grow (redrawn wr d) os) fun e w'' => e = .returned (.string N) ∧ ∃ p : Regrown, w'' = Sort.grow (redrawn wr p.d) p.os := fun d os => Calls.regrown_of (C1.out _)
      have d2 : ∀ d os, Calls Tryz.prog 38 #[.string x2] (Sort.grow (redrawn wr d) os) fun e w'' => e = .returned (.string V) ∧ ∃ p : Regrown, w'' = Sort.grow (redrawn wr p.d) p.os := fun d os => Calls.regrown_of (C2.out _)
      have zN : N.size ≤ 1000000000 := by omega
      have zV : V.size ≤ 1000000000 := by omega
      have za : a.size ≤ 1000000000 := by omega
      have y0 : (a ++ (⟨#[44]⟩ : ByteArray)).size ≤ 1000000001 := by rw [zcat_size, show (⟨#[44]⟩ : ByteArray).size = 1 from rfl]; omega
      have HACC := Lib.hid hacc
      have HBR := Lib.hid hbr
      clear hN hV hNl hVl hacc hln C1 C2 p1 p2 hbb' hx1 hx2 hbr x1w x2w
      rcases hcj with ⟨hj0, rfl⟩ | ⟨hj0, rfl⟩
      case' inl =>
        have i3 : ¬ (0 : Int) < (j : Int) := by omega
        have y1 : (a ++ N).size ≤ 2000000000 := by rw [zcat_size]; omega
        have y2 : (a ++ N ++ (⟨#[58]⟩ : ByteArray)).size ≤ 2000000001 := by rw [zcat_size, show (⟨#[58]⟩ : ByteArray).size = 1 from rfl]; omega
        obtain ⟨a1, ha1⟩ : ∃ a1, a ++ N ++ (⟨#[58]⟩ : ByteArray) ++ V = a1 := ⟨_, rfl⟩
        have HA1 := Lib.hid (show a1.data.toList ++ (U ++ (([125, 44, 34, 108, 105, 110, 101, 34, 58] : Bs) ++ (Q.data.toList ++ ([125] : Bs)))) = R by
          rw [← HACC.out, ← ha1, zcat_list, zcat_list, zcat_list]
          simp)
      case' inr =>
        have i3 : (0 : Int) < (j : Int) := by omega
        have y1 : (a ++ (⟨#[44]⟩ : ByteArray) ++ N).size ≤ 2000000001 := by rw [zcat_size]; omega
        have y2 : (a ++ (⟨#[44]⟩ : ByteArray) ++ N ++ (⟨#[58]⟩ : ByteArray)).size ≤ 2000000002 := by rw [zcat_size, show (⟨#[58]⟩ : ByteArray).size = 1 from rfl]; omega
        obtain ⟨a1, ha1⟩ : ∃ a1, a ++ (⟨#[44]⟩ : ByteArray) ++ N ++ (⟨#[58]⟩ : ByteArray) ++ V = a1 := ⟨_, rfl⟩
        have HA1 := Lib.hid (show a1.data.toList ++ (U ++ (([125, 44, 34, 108, 105, 110, 101, 34, 58] : Bs) ++ (Q.data.toList ++ ([125] : Bs)))) = R by
          rw [← HACC.out, ← ha1, zcat_list, zcat_list, zcat_list, zcat_list]
          simp)
      all_goals
        clear hj0 HACC
        go_upto_region 13 with fail
        clear w0
        refine wp_region_quiet_below (by kernel_rfl) (by kernel_rfl) ?_
        repeat (go_big_quiet_step (first | with_reducible exact d1 _ _ | with_reducible exact d2 _ _))
        refine wpQuiet_nil ?_
        intro _ hw'
        obtain ⟨⟨dq, osq⟩, hw''⟩ := hw'
        subst hw''
        have hbq := below_seq HBR.out (below_regrown wr dq osq)
        clear g0 g1 g2 d1 d2 y0 y1 y2
        go_wp2
        go_roundw
        case rel => exact ⟨j + 1, a1, by simp [ha1], by go_num, by omega, by rw [← HJ.out]; exact HA1.out, hbq⟩
        case measure => simp [intOf]; omega
    · have hje : j = L.length := by omega
      rw [hje, List.drop_length, List.map_nil, memG_nil, List.nil_append] at hacc
      have j1 : ¬ (j : Int) < (L.length : Int) := by omega
      have hln := congrArg List.length hacc
      simp only [List.length_append, List.length_cons, List.length_nil, zlen_size] at hln
      have y0 : a.size ≤ 1000000000 := by omega
      have y1 : (a ++ (⟨#[125, 44, 34, 108, 105, 110, 101, 34, 58]⟩ : ByteArray)).size ≤ 1000000009 := by rw [zcat_size, show (⟨#[125, 44, 34, 108, 105, 110, 101, 34, 58]⟩ : ByteArray).size = 9 from rfl]; omega
      have y2 : (a ++ (⟨#[125, 44, 34, 108, 105, 110, 101, 34, 58]⟩ : ByteArray) ++ Q).size ≤ 2000000009 := by rw [zcat_size]; omega
      have hE : a ++ (⟨#[125, 44, 34, 108, 105, 110, 101, 34, 58]⟩ : ByteArray) ++ Q ++ (⟨#[125]⟩ : ByteArray) = ⟨R.toArray⟩ := zext (by
        rw [zcat_list, zcat_list, zcat_list]
        show _ = R
        rw [← hacc]
        simp)
      obtain ⟨g0, g2, g3⟩ := HC.out wr hbr
      have CQ0 := CQ.out wr
      have HBR := Lib.hid hbr
      clear hacc hln hje hbr
      go_wp2_with (go_at_call 38; refine CQ0.mono ?_; rintro e w3 ⟨rfl, hb3⟩)
      go_ret
      exact ⟨rfl, HB0.out.trans ((below_seq HBR.out hb3).mono HB0.out.size)⟩
end Go.Proofs.YtljnbbdhmlfhjaaGreatDoor
/-
  The document's Valid.
-/
namespace Go.Proofs.YtljnbbdhmlfhjaaGreatDoor
open Go.RowKit
theorem runes_calls (s : ByteArray) (hs : s.size ≤ 1000000000) (W : World) : Calls Tryz.prog 56 #[.string s] W fun e w' => ∃ v, e = .returned (.tuple #[v, .bool (Lib.validD (bsOf s))]) ∧ Below W.heap.size W w' := by
  refine (ref_Runes s W (by omega)).mono ?_
  rintro e w' ⟨v, h1, -, h2⟩
  exact ⟨v, h1, h2⟩
set_option maxRecDepth 100000 in
set_option maxHeartbeats 40000000 in
theorem ref23_Valid (r : Rec) (lv : Value) (w : World) (hL : LRow w lv r.labs) (hlab : ∀ x ∈ r.labs, x.1.size ≤ 1000000000 ∧ x.2.size ≤ 1000000000) (hline : r.line.size ≤ 1000000000) (hln : r.labs.length ≤ 1048576) :
    Calls Tryz.prog 51 #[recV r lv] w fun e w' => e = .returned (.bool (validR r)) ∧ Below w.heap.size w w' := by
  have hb0 := belowAJ (o := .cells #[.int .i64 r.time, .int .u64 (r.seq : Int), lv, .string r.line] 34) (Below.refl w.heap.size w) (Nat.le_refl _)
  have hbox := heap_alloc_new w (.cells #[.int .i64 r.time, .int .u64 (r.seq : Int), lv, .string r.line] 34)
  have hsize : (w.alloc (.cells #[.int .i64 r.time, .int .u64 (r.seq : Int), lv, .string r.line] 34)).heap.size = w.heap.size + 1 := by simp
  have hL1 := hL.below hb0
  obtain ⟨la, lc, rfl, hc1, hc2⟩ := hL.shape
  obtain ⟨c0, c1, c2, c3, -, -, -, -⟩ := cells4 hbox
  unfold recV
  have hvr : validR r = (Lib.validD (bsOf r.line) && r.labs.all fun x => Lib.validD (bsOf x.1) && Lib.validD (bsOf x.2)) := rfl
  obtain ⟨R, hR⟩ : ∃ R, validR r = R := ⟨_, rfl⟩
  rw [hR] at hvr ⊢
  obtain ⟨rt, rs, L, rl⟩ := r
  simp only at *
  have CR := Lib.hid (fun W => runes_calls rl hline W)
  obtain ⟨V0, hV0⟩ : ∃ V, Lib.validD (bsOf rl) = V := ⟨_, rfl⟩
  rw [hV0] at CR hvr
  have HSZ := Lib.hid hlab
  have HAC := Lib.hid (show (V0 && (L.drop 0).all fun x => Lib.validD (bsOf x.1) && Lib.validD (bsOf x.2)) = R from hvr.symm)
  obtain ⟨p, hp⟩ : ∃ p, w.heap.size = p := ⟨_, rfl⟩
  have hll : L.length ≤ 1048576 := hln
  have HLW := Lib.hid (fun (W : World) (hW : Below (w.alloc (.cells #[.int .i64 rt, .int .u64 (rs : Int), .slice la L.length lc, .string rl] 34)).heap.size (w.alloc (.cells #[.int .i64 rt, .int .u64 (rs : Int), .slice la L.length lc, .string rl] 34)) W) => hL1.below hW)
  clear hL hL1 hc1 hbox hlab hln hvr hV0 hR hc2 hline
  go_enter Tryz.func51, Tryz.ntmps51
  go_upto_region 1 with fail
  rw [hp] at c0 c1 c2 c3 hsize
  generalize hw1 : w.alloc (.cells #[.int .i64 rt, .int .u64 (rs : Int), .slice la L.length lc, .string rl] 34) = w1 at *
  have HC := Lib.hid (fun (W : World) (hW : Below w1.heap.size w1 W) => (⟨by rw [hW.cell (p := ⟨p, 2, none⟩) (by show p < _; omega)]; exact c2, by rw [hW.cell (p := ⟨p, 3, none⟩) (by show p < _; omega)]; exact c3⟩ : W.cell? ⟨p, 2, none⟩ = some (.slice la L.length lc) ∧ W.cell? ⟨p, 3, none⟩ = some (.string rl)))
  have HB0 := Lib.hid hb0
  have HL0 := Lib.hid (HLW.out w1 (Below.refl _ _))
  have CR1 := CR.out w1
  clear c0 c1 c2 hb0 hp hw1 hsize CR
  go_wp2_with (go_at_call 56; refine CR1.mono ?_; rintro e w2 ⟨v2, rfl, hb2⟩)
  clear c3 CR1
  go_loopw [4, 5] (fun sv iv wr => ∃ (j : Nat) (v : Bool), sv = .bool v ∧ iv = .int .i64 j ∧ j ≤ L.length ∧ (v && (L.drop j).all fun x => Lib.validD (bsOf x.1) && Lib.validD (bsOf x.2)) = R ∧ Below w1.heap.size w1 wr) (fun _ iv _ => L.length - (intOf iv).toNat)
  case atStart => exact ⟨0, V0, rfl, rfl, Nat.zero_le _, HAC.out, hb2⟩
  case round =>
    obtain ⟨j, v, rfl, rfl, hj, hacc, hbr⟩ := hrel
    obtain ⟨g2, -⟩ := HC.out wr hbr
    by_cases hjl : j < L.length
    · obtain ⟨bb, ob, rfl, hbb, p1, p2⟩ := HL0.out.at hjl
      obtain ⟨hx1, hx2⟩ := HSZ.out L[j] (List.getElem_mem hjl)
      rw [List.drop_eq_getElem_cons hjl, List.all_cons] at hacc
      generalize L[j] = x at *
      obtain ⟨x1, x2⟩ := x
      simp only at *
      have j0 : (0 : Int) ≤ (j : Int) := by omega
      have j1 : (j : Int) < (L.length : Int) := by omega
      have C1 := runes_calls x1 hx1 wr
      have C2 := Lib.hid (fun W => runes_calls x2 hx2 W)
      obtain ⟨A, hA⟩ : ∃ A, Lib.validD (bsOf x1) = A := ⟨_, rfl⟩
      obtain ⟨B, hB⟩ : ∃ B, Lib.validD (bsOf x2) = B := ⟨_, rfl⟩
      rw [hA] at hacc C1
      rw [hB] at hacc C2
      have q1 : wr.cell? ⟨bb, ob + j * 2, none⟩ = some (.string x1) := by rw [hbr.cell (p := ⟨bb, _, none⟩) hbb]; exact p1
      have HQ := Lib.hid (fun (W : World) (hW : Below wr.heap.size wr W) => (⟨(HC.out W (below_seq hbr hW)).1, by rw [(below_seq hbr hW).cell (p := ⟨bb, _, none⟩) hbb]; exact p2⟩ : W.cell? ⟨p, 2, none⟩ = some (.slice (some ⟨bb, ob, none⟩) L.length lc) ∧ W.cell? ⟨bb, ob + j * 2 + 1, none⟩ = some (.string x2)))
      have HACC := Lib.hid (show (v && A && B && (L.drop (j + 1)).all fun x => Lib.validD (bsOf x.1) && Lib.validD (bsOf x.2)) = R by rw [← hacc]; simp only [Bool.and_assoc])
      clear hacc hA hB p1 p2 hx1 hx2 hbb
      go_upto_region 6 with (go_at_call 56; refine C1.mono ?_; rintro e w3 ⟨v3, rfl, hb3⟩)
      obtain ⟨q2, q3⟩ := HQ.out w3 hb3
      have hbr3 := below_seq hbr hb3
      have C3 := C2.out w3
      clear q1 g2 C1 C2 HQ hb3 hbr
      cases v with
      | false =>
        go_wp2_with (go_at_call 56; refine C3.mono ?_; rintro e w4 ⟨v4, rfl, hb4⟩)
        go_roundw
        case rel => exact ⟨j + 1, false, rfl, by go_num, by omega, by first | exact HACC.out | simpa using HACC.out, below_seq hbr3 hb4⟩
        case measure => simp [intOf]; omega
      | true =>
        cases A with
        | false =>
          go_wp2_with (go_at_call 56; refine C3.mono ?_; rintro e w4 ⟨v4, rfl, hb4⟩)
          go_roundw
          case rel => exact ⟨j + 1, false, rfl, by go_num, by omega, by first | exact HACC.out | simpa using HACC.out, below_seq hbr3 hb4⟩
          case measure => simp [intOf]; omega
        | true =>
          go_wp2_with (go_at_call 56; refine C3.mono ?_; rintro e w4 ⟨v4, rfl, hb4⟩)
          go_roundw
          case rel => exact ⟨j + 1, B, rfl, by go_num, by omega, by first | exact HACC.out | simpa using HACC.out, below_seq hbr3 hb4⟩
          case measure => simp [intOf]; omega
    · have j1 : ¬ (j : Int) < (L.length : Int) := by omega
      have hje : j = L.length := by omega
      rw [hje, List.drop_length] at hacc
      obtain rfl : v = R := by simpa using hacc
      clear hacc hje HAC
      go_wp2
      go_ret
      exact ⟨rfl, HB0.out.trans (hbr.mono HB0.out.size)⟩
end Go.Proofs.YtljnbbdhmlfhjaaGreatDoor
/-
  The document's Records.
-/
namespace Go.Proofs.YtljnbbdhmlfhjaaGreatDoor
open Go.RowKit
theorem recsJ_text (l : List Rec) : formJ (underJ kRecords (l.map recJ)) = ([123, 34, 114, 101, 99, 111, 114, 100, 115, 34, 58, 91] : Bs) ++ (lstG true (l.map recJ) ++ [93, 125]) := by
  have e1 : quote kRecords = [34, 114, 101, 99, 111, 114, 100, 115, 34] := by decide
  simp [underJ, formJ, formM, formU, formE, e1, lstG]
/-- What is laid of a record that came in. -/
theorem row_rec {w : World} {v : Value} {Z : List RecL} {l : List Rec} (hZ : RRow w v Z) (hl : Z.map Prod.fst = l) (hin : ∀ z ∈ Z, inRec z.1) {r : Rec} (hr : r ∈ l) :
    (∀ x ∈ r.labs, x.1.size ≤ 1000000000 ∧ x.2.size ≤ 1000000000) ∧ r.labs.length ≤ 1048576 ∧ r.line.size ≤ 1000000000 ∧ (-9223372036854775808 ≤ r.time ∧ r.time ≤ 9223372036854775807) ∧ r.seq < 18446744073709551616 := by
  rw [← hl] at hr
  obtain ⟨z, hz, rfl⟩ := List.mem_map.1 hr
  have h1 := (hZ.2 z hz).2
  have h2 := hin z hz
  exact ⟨h1.1, h1.2.1, h1.2.2, ⟨h2.1, h2.2.1⟩, h2.2.2.1⟩
theorem recOf_le {l : List Rec} {r : Rec} (h : r ∈ l) : (formJ (recJ r)).length ≤ (formJ (underJ kRecords (l.map recJ))).length := by
  have h1 := item_small (List.mem_map.2 ⟨r, h, rfl⟩ : recJ r ∈ l.map recJ)
  have h2 := mem_small (l := [(kRecords, .arr (l.map recJ))]) (m := (kRecords, .arr (l.map recJ))) (by simp)
  simp only at h2
  unfold underJ
  omega
set_option maxRecDepth 100000 in
set_option maxHeartbeats 40000000 in
theorem ref23_Records (sv : Value) (Z : List RecL) (w : World) (hZ : RRow w sv Z) (hin : ∀ z ∈ Z, inRec z.1) (hlen : (formJ (underJ kRecords ((Z.map Prod.fst).map recJ))).length ≤ 1000000000) :
    Calls Tryz.prog 50 #[sv] w fun e w' => e = .returned (if (Z.map Prod.fst).all validR = true then .tuple #[.string ⟨(formJ (underJ kRecords ((Z.map Prod.fst).map recJ))).toArray⟩, .int .i64 0] else .tuple #[.string ⟨#[]⟩, .int .i64 1]) ∧ Below w.heap.size w w' := by
  obtain ⟨l, hl⟩ : ∃ l, Z.map Prod.fst = l := ⟨_, rfl⟩
  obtain ⟨a0, c0, rfl, hc1, hc2⟩ := tail_len hZ hl
  unfold maxLen at hc2
  have HREC := Lib.hid (fun (k : Nat) (hk : k < l.length) => rec_at hZ hl hk)
  have hsz := fun (r : Rec) (hr : r ∈ l) => row_rec hZ hl hin hr
  rw [hl] at hlen ⊢
  have CV := Lib.hid (fun (W : World) (r : Rec) (hr : r ∈ l) (lv : Value) (hL : LRow W lv r.labs) => ref23_Valid r lv W hL (hsz r hr).1 (hsz r hr).2.2.1 (hsz r hr).2.1)
  have CO := Lib.hid (fun (W : World) (r : Rec) (hr : r ∈ l) (lv : Value) (hL : LRow W lv r.labs) => ref23_One r lv W hL (hsz r hr).2.2.2.1 (hsz r hr).2.2.2.2 (hsz r hr).1 (hsz r hr).2.2.1 (hsz r hr).2.1 (by have := recOf_le hr; omega))
  have htx := recsJ_text l
  obtain ⟨R, hR⟩ : ∃ R, formJ (underJ kRecords (l.map recJ)) = R := ⟨_, rfl⟩
  rw [hR] at hlen htx ⊢
  have HR := Lib.hid htx
  have hll : l.length ≤ 9223372036854775807 := by omega
  obtain ⟨OK, hOK⟩ : ∃ b, l.all validR = b := ⟨_, rfl⟩
  rw [hOK]
  have HOK := Lib.hid (show (l.drop 0).all validR = OK from hOK)
  clear hZ hin hl hsz hR hc1 hc2 htx hOK
  go_enter Tryz.func50, Tryz.ntmps50
  go_wp2
  go_loopw [4, 5] (fun sv iv wr => ∃ (k : Nat) (s : ByteArray), sv = .string s ∧ iv = .int .i64 k ∧ k ≤ l.length ∧ s.data.toList ++ (lstG (decide (k = 0)) ((l.drop k).map recJ) ++ [93, 125]) = R ∧ (l.drop k).all validR = OK ∧ Below w.heap.size w wr) (fun _ iv _ => l.length - (intOf iv).toNat)
  case atStart => exact ⟨0, ⟨#[123, 34, 114, 101, 99, 111, 114, 100, 115, 34, 58, 91]⟩, rfl, rfl, Nat.zero_le _, HR.out.symm, HOK.out, Below.refl _ _⟩
  case round =>
    obtain ⟨k, s, rfl, rfl, hk, hacc, hok, hb⟩ := hrel
    by_cases hlt : k < l.length
    · obtain ⟨ba, oa, la, lc, rfl, hba, q0, q1, q2, q3, hL⟩ := HREC.out k hlt
      have hmem := List.getElem_mem hlt
      rw [List.drop_eq_getElem_cons hlt] at hacc hok
      rw [List.map_cons, lstG_cons] at hacc
      rw [List.all_cons] at hok
      have HG := Lib.hid (fun W (hW : Below w.heap.size w W) => (⟨by rw [hW.cell (p := ⟨ba, _, none⟩) hba]; exact q0, by rw [hW.cell (p := ⟨ba, _, none⟩) hba]; exact q1, by rw [hW.cell (p := ⟨ba, _, none⟩) hba]; exact q2, by rw [hW.cell (p := ⟨ba, _, none⟩) hba]; exact q3⟩ : W.cell? ⟨ba, oa + k * 4, none⟩ = some (.int .i64 l[k].time) ∧ W.cell? ⟨ba, oa + k * 4 + 1, none⟩ = some (.int .u64 (l[k].seq : Int)) ∧ W.cell? ⟨ba, oa + k * 4 + 2, none⟩ = some (.slice la l[k].labs.length lc) ∧ W.cell? ⟨ba, oa + k * 4 + 3, none⟩ = some (.string l[k].line)))
      have HL := Lib.hid (fun W (hW : Below w.heap.size w W) => hL.below hW)
      have HT : lstG false ((l.drop (k + 1)).map recJ) = lstG (decide (k + 1 = 0)) ((l.drop (k + 1)).map recJ) := rfl
      obtain ⟨T, hTd⟩ : ∃ T, lstG false ((l.drop (k + 1)).map recJ) = T := ⟨_, rfl⟩
      rw [hTd] at HT hacc
      have HTT := Lib.hid HT
      have CV1 := CV.out wr l[k] hmem _ (hL.below hb)
      have CO1 := Lib.hid (fun W (hW : Below w.heap.size w W) => CO.out W l[k] hmem _ (hL.below hW))
      clear HT hTd q0 q1 q2 q3 hL hmem
      generalize l[k] = r at *
      obtain ⟨g0, g1, g2, g3⟩ := HG.out wr hb
      obtain ⟨pre, hpre, hcase⟩ := pre_cases k
      rw [hpre] at hacc
      clear hpre
      obtain ⟨Q, hQ⟩ : ∃ Q : ByteArray, (⟨(formJ (recJ r)).toArray⟩ : ByteArray) = Q := ⟨_, rfl⟩
      have hQl : formJ (recJ r) = Q.data.toList := by rw [← hQ]
      rw [hQl] at hacc
      rw [hQ] at CO1
      have hln := congrArg List.length hacc
      simp only [List.length_append, List.length_cons, List.length_nil, zlen_size] at hln
      have i0 : (0 : Int) ≤ (k : Int) := by omega
      have i1 : (k : Int) < (l.length : Int) := by omega
      have zQ : Q.size ≤ 1000000000 := by omega
      have zs : s.size ≤ 1000000000 := by omega
      have y0 : (s ++ (⟨#[44]⟩ : ByteArray)).size ≤ 1000000001 := by rw [zcat_size, show (⟨#[44]⟩ : ByteArray).size = 1 from rfl]; omega
      have HACC := Lib.hid hacc
      obtain ⟨v, hv⟩ : ∃ v, validR r = v := ⟨_, rfl⟩
      rw [hv] at CV1 hok
      unfold recV at CV1 CO1
      obtain ⟨rt, rs, L, rl⟩ := r
      simp only at *
      clear hln hQ hQl hacc hv
      cases v with
      | false =>
        obtain rfl : OK = false := by rw [← hok]; rfl
        clear hok HOK hcase
        go_wp2_with (go_at_call 51; refine CV1.mono ?_; rintro e w1 ⟨rfl, hb1⟩)
        go_ret2
        exact ⟨by simp, below_seq hb hb1⟩
      | true =>
        have HOK2 := Lib.hid (show (l.drop (k + 1)).all validR = OK by rw [← hok]; simp)
        clear hok
        rcases hcase with ⟨hk0, rfl⟩ | ⟨hk0, rfl⟩
        case' inl =>
          have i2 : ¬ (0 : Int) < (k : Int) := by omega
          obtain ⟨s1, hs1⟩ : ∃ s1, s ++ Q = s1 := ⟨_, rfl⟩
          have HA1 := Lib.hid (show s1.data.toList ++ (T ++ [93, 125]) = R by rw [← HACC.out, ← hs1, zcat_list]; simp)
        case' inr =>
          have i2 : (0 : Int) < (k : Int) := by omega
          obtain ⟨s1, hs1⟩ : ∃ s1, s ++ (⟨#[44]⟩ : ByteArray) ++ Q = s1 := ⟨_, rfl⟩
          have HA1 := Lib.hid (show s1.data.toList ++ (T ++ [93, 125]) = R by rw [← HACC.out, ← hs1, zcat_list, zcat_list]; simp)
        all_goals
          clear hk0 HACC
          go_upto_region 7 with (go_at_call 51; refine CV1.mono ?_; rintro e w1 ⟨rfl, hb1⟩)
          have hbr1 := below_seq hb hb1
          clear g0 g1 g2 g3 CV1
          obtain ⟨g0, g1, g2, g3⟩ := HG.out w1 hbr1
          have CO2 := CO1.out w1 hbr1
          clear hb1 hb
          go_wp2_with (go_at_call 52; refine CO2.mono ?_; rintro e w2 ⟨rfl, hb2⟩)
          go_roundw
          case rel => exact ⟨k + 1, s1, by simp [hs1], by go_num, by omega, by rw [← HTT.out]; exact HA1.out, HOK2.out, below_seq hbr1 hb2⟩
          case measure => simp [intOf]; omega
    · have i1 : ¬ (k : Int) < (l.length : Int) := by omega
      have hke : k = l.length := by omega
      rw [hke, List.drop_length] at hacc hok
      rw [List.map_nil, lstG_nil, List.nil_append] at hacc
      obtain rfl : OK = true := hok.symm
      have hln := congrArg List.length hacc
      simp only [List.length_append, List.length_cons, List.length_nil, zlen_size] at hln
      have y0 : s.size ≤ 1000000000 := by omega
      have hE : s ++ (⟨#[93, 125]⟩ : ByteArray) = ⟨R.toArray⟩ := zext (by rw [zcat_list, ← hacc])
      have HE := Lib.hid hE
      clear hacc hln hke hE HOK hok
      go_wp2
      go_ret2
      exact ⟨by rw [← HE.out]; rfl, hb⟩
end Go.Proofs.YtljnbbdhmlfhjaaGreatDoor
/-
  The law WireWrites: written.
-/
namespace Go.Proofs.YtljnbbdhmlfhjaaGreatDoor
open Go.RowKit
def outS (j : J) : ByteArray := if okW 0 j = true then ⟨(formJ j).toArray⟩ else ⟨#[]⟩
def outE (j : J) : Int := if okW 0 j = true then 0 else 1
def OutX (w : World) (S : ByteArray) (E : Int) (e : Ending) (w' : World) : Prop := ∃ a c, e = .returned (.tuple #[.slice a S.size c, .int .i64 E]) ∧ argRow w' (.slice a S.size c) S.data.toList.length 1 (S.data.toList.map bCell) ∧ Below w.heap.size w w'
theorem writtenX_out {w : World} {j : J} {e : Ending} {w' : World} (h : WrittenX w j e w') : OutX w (outS j) (outE j) e w' := by
  obtain ⟨a, n, c, E, rfl, ho, hb⟩ := h
  unfold WOut at ho
  unfold outS outE OutX
  split at ho
  · rename_i hok
    rw [if_pos hok, if_pos hok]
    obtain ⟨rfl, hrow⟩ := ho
    have hn : n = (formJ j).length := by
      obtain ⟨_, a', c', e, -⟩ := hrow
      cases e
      rfl
    subst hn
    exact ⟨a, c, rfl, hrow, hb⟩
  · rename_i hok
    rw [if_neg hok, if_neg hok]
    obtain ⟨rfl, hv⟩ := ho
    cases hv
    exact ⟨none, 0, rfl, ⟨rfl, _, _, rfl, Nat.le_refl _, Nat.zero_le _, fun h => by simp at h⟩, hb⟩
theorem conv_outX {w : World} {v : Value} {S : ByteArray} (h : argRow w v S.data.toList.length 1 (S.data.toList.map bCell)) : (convert 22 9 v).run Tryz.prog w = .ok (.string S) w := conv_arg h
set_option maxRecDepth 100000 in
set_option maxHeartbeats 40000000 in
theorem law_written (sv : Value) (Z : List RecL) (w : World) (hT : T23 w) (hZ : RRow w sv Z) (hin : ∀ z ∈ Z, inRec z.1) (hbulk : bulkR (Z.map Prod.fst) ≤ 107 * 1048576) (hlen : (formJ (underJ kRecords ((Z.map Prod.fst).map recJ))).length ≤ 1000000000) (hsr : ∀ r ∈ Z.map Prod.fst, sizeR r ≤ 1048576) :
    Calls Tryz.prog 23 #[sv] w fun e w' => e = .returned (.bool true) ∧ Below w.heap.size w w' := by
  obtain ⟨l, hl⟩ : ∃ l, Z.map Prod.fst = l := ⟨_, rfl⟩
  have CW := Lib.hid (fun (W : World) (hW : Below w.heap.size w W) => (wire_Records sv Z W (hT.to hW) (hZ.below hW) hin (by omega)).mono fun e w' h => writtenX_out h)
  have CR := Lib.hid (fun (W : World) (hW : Below w.heap.size w W) => ref23_Records sv Z W (hZ.below hW) hin hlen)
  have hsz := fun (r : Rec) (hr : r ∈ l) => row_rec hZ hl hin hr
  rw [hl] at CW CR hlen hsr
  have hokE := okW_recs l
  have CV := Lib.hid (fun (W : World) (r : Rec) (hr : r ∈ l) (lv : Value) (hL : LRow W lv r.labs) => ref23_Valid r lv W hL (hsz r hr).1 (hsz r hr).2.2.1 (hsz r hr).2.1)
  have CO := Lib.hid (fun (W : World) (r : Rec) (hr : r ∈ l) (lv : Value) (hL : LRow W lv r.labs) => ref23_One r lv W hL (hsz r hr).2.2.2.1 (hsz r hr).2.2.2.2 (hsz r hr).1 (hsz r hr).2.2.1 (hsz r hr).2.1 (by have := recOf_le hr; omega))
  have CX := Lib.hid (fun (W : World) (hW : Below w.heap.size w W) (r : Rec) (hr : r ∈ l) (lv : Value) (hL : LRow W lv r.labs) => (wire_One r lv W (hT.to hW) hL (hsz r hr).2.2.2.1 (hsz r hr).2.2.2.2 (hsz r hr).2.1 (by have := hsr r hr; omega)).mono fun e w' h => writtenX_out h)
  obtain ⟨S, hS⟩ : ∃ S, outS (underJ kRecords (l.map recJ)) = S := ⟨_, rfl⟩
  obtain ⟨E, hE⟩ : ∃ E, outE (underJ kRecords (l.map recJ)) = E := ⟨_, rfl⟩
  rw [hS, hE] at CW
  unfold OutX at CW
  have CR2 := Lib.hid (show ∀ (W : World), Below w.heap.size w W → Calls Tryz.prog 50 #[sv] W fun e w' => e = .returned (.tuple #[.string S, .int .i64 E]) ∧ Below W.heap.size W w' from fun W hW => by
    refine (CR.out W hW).mono ?_
    rintro e w' ⟨h1, h2⟩
    refine ⟨?_, h2⟩
    rw [h1, ← hS, ← hE]
    unfold outS outE
    rw [hokE]
    split <;> rfl)
  obtain ⟨a0, c0, rfl, hc1, hc2⟩ := tail_len hZ hl
  have HREC := Lib.hid (fun (k : Nat) (hk : k < l.length) => rec_at hZ hl hk)
  unfold maxLen at hc2
  have hll : l.length ≤ 9223372036854775807 := by omega
  have eS : (S.toList == S.toList) = true := by simp
  have eE : (E != E) = false := by simp
  have hokr : ∀ r : Rec, okW 0 (recJ r) = validR r := fun r => okW_recJ r (by omega)
  have HOKR := Lib.hid hokr
  clear hT hZ hin hbulk hlen hsr hl hsz hokE CR hS hE hc1 hc2 hokr
  go_enter Tryz.func23, Tryz.ntmps23
  have CW1 := CW.out w (Below.refl _ _)
  go_upto_region 2 with (go_at_call 14; refine CW1.mono ?_; rintro e w1 ⟨a1, c1, rfl, hr1, hb1⟩)
  have CR1 := CR2.out w1 hb1
  clear CW CW1
  go_upto_region 3 with (go_at_call 50; refine CR1.mono ?_; rintro e w2 ⟨rfl, hb2⟩)
  have hcv := conv_outX (argRow_below hr1 hb2)
  have h2 := hb1.trans (hb2.mono hb1.size)
  clear CR2 CR1 hr1 hb1 hb2
  go_upto_region 5 with fail
  have H2 := Lib.hid h2
  clear hcv h2 eS eE
  go_wp2
  go_loopw [7] (fun iv wr => ∃ (k : Nat), iv = .int .i64 k ∧ k ≤ l.length ∧ Below w2.heap.size w2 wr) (fun iv _ => l.length - (intOf iv).toNat)
  case atStart => exact ⟨0, rfl, Nat.zero_le _, Below.refl _ _⟩
  case round =>
    obtain ⟨k, rfl, hk, hb⟩ := hrel
    have hbb := H2.out.trans (hb.mono H2.out.size)
    by_cases hlt : k < l.length
    · obtain ⟨ba, oa, la, lc, rfl, hba, q0, q1, q2, q3, hL⟩ := HREC.out k hlt
      have hmem := List.getElem_mem hlt
      have HG := Lib.hid (fun W (hW : Below w.heap.size w W) => (⟨by rw [hW.cell (p := ⟨ba, _, none⟩) hba]; exact q0, by rw [hW.cell (p := ⟨ba, _, none⟩) hba]; exact q1, by rw [hW.cell (p := ⟨ba, _, none⟩) hba]; exact q2, by rw [hW.cell (p := ⟨ba, _, none⟩) hba]; exact q3⟩ : W.cell? ⟨ba, oa + k * 4, none⟩ = some (.int .i64 l[k].time) ∧ W.cell? ⟨ba, oa + k * 4 + 1, none⟩ = some (.int .u64 (l[k].seq : Int)) ∧ W.cell? ⟨ba, oa + k * 4 + 2, none⟩ = some (.slice la l[k].labs.length lc) ∧ W.cell? ⟨ba, oa + k * 4 + 3, none⟩ = some (.string l[k].line)))
      have CV1 := Lib.hid (fun W (hW : Below w.heap.size w W) => CV.out W l[k] hmem _ (hL.below hW))
      have CO1 := Lib.hid (fun W (hW : Below w.heap.size w W) => CO.out W l[k] hmem _ (hL.below hW))
      have CX1 := CX.out wr hbb l[k] hmem _ (hL.below hbb)
      have hout := HOKR.out l[k]
      clear q0 q1 q2 q3 hL hmem
      generalize l[k] = r at *
      obtain ⟨g0, g1, g2, g3⟩ := HG.out wr hbb
      obtain ⟨Q, hQ⟩ : ∃ Q : ByteArray, (⟨(formJ (recJ r)).toArray⟩ : ByteArray) = Q := ⟨_, rfl⟩
      rw [hQ] at CO1
      obtain ⟨v, hv⟩ : ∃ v, validR r = v := ⟨_, rfl⟩
      rw [hv] at CV1 hout
      unfold OutX outS outE at CX1
      rw [hout, hQ] at CX1
      have i0 : (0 : Int) ≤ (k : Int) := by omega
      have i1 : (k : Int) < (l.length : Int) := by omega
      unfold recV at CV1 CO1 CX1
      obtain ⟨rt, rs, L, rl⟩ := r
      simp only at *
      have HBB := Lib.hid hbb
      have HB := Lib.hid hb
      clear hout hQ hv hbb hb
      cases v with
      | false =>
        rw [if_neg Bool.false_ne_true, if_neg Bool.false_ne_true] at CX1
        have CX2 : Calls Tryz.prog 21 #[.agg #[.int .i64 rt, .int .u64 (rs : Int), .slice la L.length lc, .string rl]] wr fun e w' => ∃ a c, e = .returned (.tuple #[.slice a 0 c, .int .i64 1]) ∧ Below wr.heap.size wr w' := by
          refine CX1.mono ?_
          rintro e w' ⟨a, c, h1, -, h2⟩
          exact ⟨a, c, h1, h2⟩
        clear CX1 CO1
        go_upto_region 9 with (go_at_call 21; refine CX2.mono ?_; rintro e w3 ⟨a3, c3, rfl, hb3⟩)
        have hb3w := HBB.out.trans (hb3.mono HBB.out.size)
        clear g0 g1 g2 g3 CX2
        obtain ⟨g0, g1, g2, g3⟩ := HG.out w3 hb3w
        have f0 := cell_regrown g0
        have f1 := cell_regrown g1
        have f2 := cell_regrown g2
        have f3 := cell_regrown g3
        have dV : ∀ d os, Calls Tryz.prog 51 #[.agg #[.int .i64 rt, .int .u64 (rs : Int), .slice la L.length lc, .string rl]] (Sort.grow (redrawn w3 d) os) fun e w'' => e = .returned (.bool false) ∧ ∃ p : Regrown, w'' = Sort.grow (redrawn w3 p.d) p.os := fun d os => Calls.regrown_of (CV1.out _ (hb3w.trans ((below_regrown w3 d os).mono hb3w.size)))
        clear g0 g1 g2 g3 CV1
        refine wp_region_quiet_below (by kernel_rfl) (by kernel_rfl) ?_
        repeat (go_big_quiet_step (first | with_reducible exact dV _ _))
        refine wpQuiet_nil ?_
        intro _ hw'
        obtain ⟨⟨dq, osq⟩, hw''⟩ := hw'
        subst hw''
        have hbq := below_seq HB.out (hb3.trans ((below_regrown w3 dq osq).mono hb3.size))
        clear f0 f1 f2 f3 dV
        go_wp2
        go_roundw
        case rel => exact ⟨k + 1, by go_num, by omega, hbq⟩
        case measure => simp [intOf]; omega
      | true =>
        rw [if_pos rfl, if_pos rfl] at CX1
        have eQ : (Q.toList == Q.toList) = true := by simp
        go_upto_region 9 with (go_at_call 21; refine CX1.mono ?_; rintro e w3 ⟨a3, c3, rfl, hr3, hb3⟩)
        have hb3w := HBB.out.trans (hb3.mono HBB.out.size)
        clear g0 g1 g2 g3 CX1
        obtain ⟨g0, g1, g2, g3⟩ := HG.out w3 hb3w
        have f0 := cell_regrown g0
        have f1 := cell_regrown g1
        have f2 := cell_regrown g2
        have f3 := cell_regrown g3
        have cv3 := fun d os => conv_outX (argRow_below hr3 (below_regrown w3 d os))
        have dV : ∀ d os, Calls Tryz.prog 51 #[.agg #[.int .i64 rt, .int .u64 (rs : Int), .slice la L.length lc, .string rl]] (Sort.grow (redrawn w3 d) os) fun e w'' => e = .returned (.bool true) ∧ ∃ p : Regrown, w'' = Sort.grow (redrawn w3 p.d) p.os := fun d os => Calls.regrown_of (CV1.out _ (hb3w.trans ((below_regrown w3 d os).mono hb3w.size)))
        have dO : ∀ d os, Calls Tryz.prog 52 #[.agg #[.int .i64 rt, .int .u64 (rs : Int), .slice la L.length lc, .string rl]] (Sort.grow (redrawn w3 d) os) fun e w'' => e = .returned (.string Q) ∧ ∃ p : Regrown, w'' = Sort.grow (redrawn w3 p.d) p.os := fun d os => Calls.regrown_of (CO1.out _ (hb3w.trans ((below_regrown w3 d os).mono hb3w.size)))
        clear g0 g1 g2 g3 CV1 CO1 hr3
        refine wp_region_quiet_below (by kernel_rfl) (by kernel_rfl) ?_
        repeat (go_big_quiet_step (first | with_reducible exact dV _ _ | with_reducible exact dO _ _))
        refine wpQuiet_nil ?_
        intro _ hw'
        obtain ⟨⟨dq, osq⟩, hw''⟩ := hw'
        subst hw''
        have hbq := below_seq HB.out (hb3.trans ((below_regrown w3 dq osq).mono hb3.size))
        clear f0 f1 f2 f3 dV dO cv3 eQ
        go_wp2
        go_roundw
        case rel => exact ⟨k + 1, by go_num, by omega, hbq⟩
        case measure => simp [intOf]; omega
    · have i1 : ¬ (k : Int) < (l.length : Int) := by omega
      go_wp2
      go_ret
      exact ⟨rfl, hbb⟩
end Go.Proofs.YtljnbbdhmlfhjaaGreatDoor
