/-
  json.writer: value, of booleans and numbers.
-/
import Derived.Test.YtljnbbdhmlfhjaaDoorJsWv
import Derived.Test.YtljnbbdhmlfhjaaDoorJsOne
import Derived.Lib.ConvBytes
import Derived.Lib.SmallJoins
import Derived.Deep.RegionHeld
namespace Go.Proofs.YtljnbbdhmlfhjaaDoor
open Go.RowKit
theorem conv_bytesJ {src : TypeId} (hs : Tryd.prog.underlying src = some .string) (s : ByteArray) (hl : s.size ≤ 70368744177664) (w : World) : ∃ a cap W1, (convert src 22 (.string s)).run Tryd.prog w = .ok (.slice a s.size cap) W1 ∧
    argRow W1 (.slice a s.size cap) s.data.toList.length 1 (s.data.toList.map bCell) ∧ Below w.heap.size w W1 := by
  have hb := Joins.below_bytesWorld w.heap.size w 5 s (Nat.le_refl _)
  have hn : s.data.toList.length = s.size := by simp [ByteArray.size_data]
  refine ⟨_, _, _, Lib.run_convert_string_bytes (P := Tryd.prog) w src 22 5 s (u := .string) hs Tryd.underlying22 Tryd.underlying5, ⟨by simp, _, _, by rw [hn], by rw [hn]; exact grownCap_ge _ _ _ _, grownCap_le_maxLen _ _ _ _ (by unfold maxLen; omega), fun _ => ⟨w.heap.size, 0, rfl, ?_, fun j hj => ?_⟩⟩, hb⟩
  · rw [Lib.bytesWorld_size]; omega
  · have hj' : j < s.size := by rw [← hn]; simpa using hj
    rw [Nat.zero_add, Lib.bytesWorld_cell w 5 s j hj', List.getElem_map]
    simp [bCell, List.getD, List.getElem?_eq_getElem (show j < s.data.toList.length by rw [hn]; exact hj')]
set_option maxRecDepth 100000 in
set_option maxHeartbeats 10000000 in
theorem wv_bool (b : Bool) : WOk (.bool b) := by
  intro d B q S v out bad w hw hT hr hS hd hl
  have hv : v = .iface 4 (.bool b) := hr
  subst hv
  have H0 := Lib.hid (w1_new (d := d) hw hT)
  have a1 : ∀ W, (Instr.typeAssert (.iface 4 (.bool b)) 20 4 true).run Tryd.prog W = .ok (.tuple #[.bool b, .bool true]) W := fun W => by kernel_rfl
  have hfb : Lib.formatBool b = formJ (.bool b) := by cases b <;> decide
  have hfl : (Lib.formatBool b).length ≤ 5 := by cases b <;> decide
  have hll : out.length ≤ 70368744177664 := by omega
  have CF := Lib.hid (fun W => Tryd.strconv_FormatBool b W)
  obtain ⟨T, hT2⟩ : ∃ T : ByteArray, (⟨(Lib.formatBool b).toArray⟩ : ByteArray) = T := ⟨_, rfl⟩
  have hTl : T.data.toList = formJ (.bool b) := by rw [← hT2, ← hfb]
  have hTs : T.size ≤ 5 := by rw [← hT2]; exact hfl
  rw [hT2] at CF
  have HTL := Lib.hid hTl
  clear hw hT hr hS hfb hT2 hfl hTl hl
  go_enter Tryd.func25, Tryd.ntmps25
  go_upto_region 9 with fail
  generalize ((w.alloc (.cells #[.pointer (some ⟨q, 0, none⟩)] 70)).alloc (.cells #[.int .i64 (d : Int)] 3)) = W at *
  have hdr : Below W.heap.size W W.drew := (Below.refl _ _).drew
  have H1 := Lib.hid (H0.out.to (H0.out.st.keptB hdr) (Went.below hdr H0.out.st.size))
  obtain ⟨⟨c0, c1⟩, f0, f1⟩ := H1.out.bx.cells
  have C1 := w_string B q out bad T W.drew H1.out.st (by omega)
  have dF := CF.out W.drew
  clear hdr CF
  refine wp_region_tailJ 5 (by kernel_rfl) (by kernel_rfl) ?_
  simp only [List.take_succ_cons, List.take_zero, List.drop_succ_cons, List.drop_zero]
  repeat (go_big_quiet_step (first | exact dF _))
  refine wpQuiet_nil ?_
  change wpList _ _ _ _ _ W.drew
  go_wp2_with (go_at_call 44; refine C1.mono ?_; rintro e w3 ⟨rfl, hw3, hg3⟩; have H3 := Lib.hid (H1.out.to hw3 hg3); clear hw3 hg3)
  go_end0
  exact wend_of (f := formJ (.bool b)) (ok := true) (by have h3 := H3.out.st; rw [HTL.out] at h3; rw [Bool.not_true, Bool.or_false]; exact h3) H3.out.wt
theorem WSt.flag {B q : Nat} {out : Bs} {bad : Bool} {w : World} (h : WSt B q out bad w) : w.cell? ⟨q, 2, none⟩ = some (.bool bad) ∧ w.frozen? ⟨q, 2, none⟩ = false := by
  obtain ⟨_, _, _, ha⟩ := h
  exact ⟨ha.cells.1.2.2, ha.cells.2 2⟩
set_option maxRecDepth 100000 in
set_option maxHeartbeats 3000000 in
theorem wv_num (s : Bs) (hnum : NumS s) : WOk (.num s) := by
  intro d B q S v out bad w hw hT hr hS hd hl
  obtain ⟨hsn, hnl⟩ := (num_iff s).1 hnum
  have hokt : okW d (.num s) = true := by
    simp only [okW, hnl]
    cases s with
    | nil => exact absurd rfl hsn
    | cons c s => simp
  have hv : v = .iface 30 (.string ⟨s.toArray⟩) := hr
  subst hv
  have H0 := Lib.hid (w1_new (d := d) hw hT)
  have a1 : ∀ W, (Instr.typeAssert (.iface 30 (.string ⟨s.toArray⟩)) 20 4 true).run Tryd.prog W = .ok (.tuple #[.bool false, .bool false]) W := fun W => by kernel_rfl
  have a2 : ∀ W, (Instr.typeAssert (.iface 30 (.string ⟨s.toArray⟩)) 20 30 true).run Tryd.prog W = .ok (.tuple #[.string ⟨s.toArray⟩, .bool true]) W := fun W => by kernel_rfl
  have hls : out.length + 6 * s.length + 2 ≤ 1099511627776 := hl
  obtain ⟨T, hT2⟩ : ∃ T : ByteArray, (⟨s.toArray⟩ : ByteArray) = T := ⟨_, rfl⟩
  have hTl : T.data.toList = s := by rw [← hT2]
  have hTs : T.size = s.length := by rw [← hT2]; rfl
  have HCV := Lib.hid (fun W => conv_bytesJ (src := 30) Tryd.underlying30 T (by rw [hTs]; omega) W)
  rw [hT2] at a1 a2 ⊢
  rw [hTl] at HCV
  have HTL := Lib.hid hTl
  have HT2 := Lib.hid hT2
  obtain ⟨ok, hok⟩ : ∃ ok, okW d (.num s) = ok := ⟨_, rfl⟩
  have HOK := Lib.hid hok
  rw [hok]
  clear hw hT hr hS hT2 hTl hl hok
  go_enter Tryd.func25, Tryd.ntmps25
  go_upto_region 12 with fail
  generalize ((w.alloc (.cells #[.pointer (some ⟨q, 0, none⟩)] 70)).alloc (.cells #[.int .i64 (d : Int)] 3)) = W at *
  have hdr : Below W.heap.size W W.drew := (Below.refl _ _).drew
  have H1 := Lib.hid (H0.out.to (H0.out.st.keptB hdr) (Went.below hdr H0.out.st.size))
  obtain ⟨⟨c0, c1⟩, f0, f1⟩ := H1.out.bx.cells
  obtain ⟨c2, f2⟩ := H1.out.st.flag
  have HG1 := Lib.hid (Went.below (q := q) hdr H0.out.st.size)
  clear hdr
  go_cut [] from 34 to 53 (fun wx => WSt B q out (bad || !ok) wx ∧ Went B q W wx)
  case first =>
    have HSB := Lib.hid (fun b => H1.out.st.setBad b)
    cases bad with
    | true =>
      refine wp_region_tailJ 20 (by kernel_rfl) (by kernel_rfl) ?_
      simp only [List.take_succ_cons, List.take_zero, List.drop_succ_cons, List.drop_zero]
      repeat (go_big_quiet_step (fail))
      refine wpQuiet_nil ?_
      change wpList _ _ _ _ _ W.drew
      go_wp2_with fail
      go_meet
      exact ⟨(HSB.out true).1, HG1.out.trans (HSB.out true).2⟩
    | false =>
      obtain ⟨a, cap, Wc, hcv, hrow, hbc⟩ := HCV.out W.drew
      have CN := js_number _ s Wc hrow (by omega)
      rw [hnl] at CN
      have hko : (false || !ok) = false := by rw [← HOK.out, hokt]; rfl
      have HKO := Lib.hid hko
      have HF := Lib.hid (fun w2 (hb2 : Below Wc.heap.size Wc w2) =>
        (have hb := hbc.trans (hb2.mono hbc.size)
         have hw := H1.out.st.keptB hb
         have hg := Went.below (q := q) hb H1.out.st.size
         ⟨hw.flag, hw.setBad false, HG1.out.trans hg⟩ : (w2.cell? ⟨q, 2, none⟩ = some (.bool false) ∧ w2.frozen? ⟨q, 2, none⟩ = false) ∧ (WSt B q out false (w2.setCell ⟨q, 2, none⟩ (.bool false)) ∧ Went B q w2 (w2.setCell ⟨q, 2, none⟩ (.bool false))) ∧ Went B q W w2))
      have HK := Lib.hid (show ∀ w2, Below (World.drew W).heap.size W.drew w2 → (w2.cell? ⟨w.heap.size, 0, none⟩ = some (.pointer (some ⟨q, 0, none⟩)) ∧ w2.cell? ⟨q, 2, none⟩ = some (.bool false)) ∧ ((w2.setCell ⟨q, 2, none⟩ (.bool false)).cell? ⟨w.heap.size, 0, none⟩ = some (.pointer (some ⟨q, 0, none⟩)) ∧ (w2.setCell ⟨q, 2, none⟩ (.bool false)).cell? ⟨q, 2, none⟩ = some (.bool false)) from fun w2 hb =>
        (have h1 := (H1.out.bx.to (Went.below (q := q) hb H1.out.st.size).2)
         have h2 := H1.out.st.keptB hb
         ⟨⟨h1.cells.1.1, h2.flag.1⟩, ⟨(h1.to (KeepW.set q 2 _ w2)).cells.1.1, (h2.setBad false).1.flag.1⟩⟩))
      obtain ⟨ch, s', rfl⟩ := List.exists_cons_of_ne_nil hsn
      have hT3 := HT2.out
      subst hT3
      rw [List.length_cons, Int.natCast_add, Int.natCast_one] at CN
      clear hsn hnl hrow HT2 hTs HTL HOK HCV hko hokt hnum H0 HSB c0 c1 f0 f1 c2
      go_region_held (fun w2 => w2.cell? ⟨w.heap.size, 0, none⟩ = some (.pointer (some ⟨q, 0, none⟩)) ∧ w2.cell? ⟨q, 2, none⟩ = some (.bool false))
        (first | exact (HK.out _ (Below.refl _ _)).1 | exact (HK.out _ (by assumption)).1 | exact (HK.out _ (by assumption)).2)
        (first | (go_at_call 28; refine CN.mono ?_; rintro e w2 ⟨rfl, hb2⟩; have hbb := hbc.trans (hb2.mono hbc.size); have hsb2 := HF.out w2 hb2; obtain ⟨d2, g2⟩ := hsb2.1; have HSB2 := Lib.hid hsb2; clear hsb2))
      all_goals
        go_wp2_with fail
        go_meet
        rw [HKO.out]
        exact ⟨HSB2.out.2.1.1, HSB2.out.2.2.trans HSB2.out.2.1.2⟩
  case rest =>
    have H2 := Lib.hid (H0.out.to hcut.1 hcut.2)
    obtain ⟨⟨d0, d1⟩, g0, g1⟩ := H2.out.bx.cells
    have C1 := w_string B q out (bad || !ok) T wc H2.out.st (by omega)
    clear c0 c1 f0 f1 c2 f2 hcut HCV
    go_wp2_with (go_at_call 44; refine C1.mono ?_; rintro e w3 ⟨rfl, hw3, hg3⟩; have H3 := Lib.hid (H2.out.to hw3 hg3); clear hw3 hg3)
    go_end0
    exact wend_of (f := formJ (.num s)) (ok := ok) (by have h3 := H3.out.st; rw [HTL.out] at h3; exact h3) H3.out.wt
end Go.Proofs.YtljnbbdhmlfhjaaDoor
