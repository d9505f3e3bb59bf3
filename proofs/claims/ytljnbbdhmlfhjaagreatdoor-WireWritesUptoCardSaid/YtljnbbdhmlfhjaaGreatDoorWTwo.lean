/-
  json.writer: value, of what is no list.
-/
import Derived.Test.YtljnbbdhmlfhjaaGreatDoorWOne
import Derived.Test.YtljnbbdhmlfhjaaGreatDoorJsOne
import Derived.Lib.ConvBytes
import Derived.Lib.SmallJoins
import Derived.Deep.RegionHeld
namespace Go.Proofs.YtljnbbdhmlfhjaaGreatDoor
open Go.RowKit
mutual
/-- May it be written, so deep within lists? -/
def okW (d : Nat) : J → Bool
  | .nul => true
  | .bool _ => true
  | .num s => !s.isEmpty && numN s == s.length
  | .str s => Lib.validD s
  | .arr l => decide (d < 16) && okWL (d + 1) l
  | .obj l => decide (d < 16) && okWM (d + 1) l
def okWL (d : Nat) : List J → Bool
  | [] => true
  | x :: l => okW d x && okWL d l
def okWM (d : Nat) : List (Bs × J) → Bool
  | [] => true
  | x :: l => okWE d x && okWM d l
def okWE (d : Nat) : Bs × J → Bool
  | (n, x) => Lib.validD n && okW d x
end
/-- The tables, from before the call. -/
def TabB (B : Nat) (w : World) : Prop := ∃ w0, Tabs w0 ∧ w0.heap.size = B ∧ Below B w0 w
theorem TabB.tabs {B : Nat} {w : World} (h : TabB B w) : Tabs w := by
  obtain ⟨w0, h1, rfl, h3⟩ := h
  exact Utf8Tabs_below h1 h3
theorem TabB.to {B : Nat} {w w' : World} (h : TabB B w) (hb : Below B w w') : TabB B w' := by
  obtain ⟨w0, h1, h2, h3⟩ := h
  exact ⟨w0, h1, h2, h3.trans hb⟩
/-- What writing leaves. -/
def WEnd (B q : Nat) (w : World) (out : Bs) (bad ok : Bool) (f : Bs) (e : Ending) (w' : World) : Prop :=
  e = .returned (.tuple #[]) ∧ ∃ out' bad', WSt B q out' bad' w' ∧ Went B q w w' ∧ bad' = (bad || !ok) ∧ (bad' = false → out' = out ++ f) ∧ out'.length ≤ out.length + f.length
def WOk (j : J) : Prop := ∀ (d B q : Nat) (S : Nat → Prop) (v : Value) (out : Bs) (bad : Bool) (w : World), WSt B q out bad w → TabB B w → RepJ w S j v → (∀ k, S k → k < B) → d + (formJ j).length ≤ 2199023255552 → out.length + 6 * (formJ j).length + 2 ≤ 1099511627776 →
  Calls Tryz.prog 48 #[.pointer (some ⟨q, 0, none⟩), v, .int .i64 (d : Int)] w (WEnd B q w out bad (okW d j) (formJ j))
theorem wend_of {B q : Nat} {w w' : World} {out f : Bs} {bad ok : Bool} (hs : WSt B q (out ++ f) (bad || !ok) w') (hg : Went B q w w') : WEnd B q w out bad ok f (.returned (.tuple #[])) w' :=
  ⟨rfl, _, _, hs, hg, rfl, fun _ => rfl, by rw [List.length_append]; exact Nat.le_refl _⟩
/-- The two boxes that the call makes of its arguments. -/
structure Bx (q d k : Nat) (W : World) : Prop where
  b0 : W.heap[k]? = some (.cells #[.pointer (some ⟨q, 0, none⟩)] 102 (0, 0))
  b1 : W.heap[k + 1]? = some (.cells #[.int .i64 (d : Int)] 3 (0, 0))
  ne : q < k
theorem Bx.to {q d k : Nat} {W W' : World} (h : Bx q d k W) (hk : KeepW q W W') : Bx q d k W' :=
  ⟨hk _ _ _ _ h.b0 (by decide) (by have := h.ne; omega), hk _ _ _ _ h.b1 (by decide) (by have := h.ne; omega), h.ne⟩
theorem Bx.cells {q d k : Nat} {W : World} (h : Bx q d k W) : (W.cell? ⟨k, 0, none⟩ = some (.pointer (some ⟨q, 0, none⟩)) ∧ W.cell? ⟨k + 1, 0, none⟩ = some (.int .i64 (d : Int))) ∧ W.frozen? ⟨k, 0, none⟩ = false ∧ W.frozen? ⟨k + 1, 0, none⟩ = false :=
  ⟨⟨by rw [Lib.cell_of_heap h.b0]; rfl, by rw [Lib.cell_of_heap h.b1]; rfl⟩, Lib.frozen_of_heap h.b0 0, Lib.frozen_of_heap h.b1 0⟩
theorem bx_new {B q d : Nat} {out : Bs} {bad : Bool} {w : World} (h : WSt B q out bad w) :
    Bx q d w.heap.size ((w.alloc (.cells #[.pointer (some ⟨q, 0, none⟩)] 102)).alloc (.cells #[.int .i64 (d : Int)] 3)) ∧
      Below w.heap.size w ((w.alloc (.cells #[.pointer (some ⟨q, 0, none⟩)] 102)).alloc (.cells #[.int .i64 (d : Int)] 3)) := by
  have e : (w.alloc (.cells #[.pointer (some ⟨q, 0, none⟩)] 102)).heap.size = w.heap.size + 1 := by simp
  refine ⟨⟨?_, ?_, h.lt⟩, belowAJ (belowAJ (Below.refl _ _) (Nat.le_refl _)) (by omega)⟩
  · rw [heap_alloc_old _ _ (by omega)]
    exact heap_alloc_new w _
  · have := heap_alloc_new (w.alloc (.cells #[.pointer (some ⟨q, 0, none⟩)] 102)) (.cells #[.int .i64 (d : Int)] 3)
    rwa [e] at this
/-- The start of every call: the writer beside its boxes. -/
structure W1 (B q d : Nat) (w : World) (out : Bs) (bad : Bool) (W : World) : Prop where
  st : WSt B q out bad W
  bx : Bx q d w.heap.size W
  wt : Went B q w W
  tb : TabB B W
theorem w1_new {B q d : Nat} {out : Bs} {bad : Bool} {w : World} (h : WSt B q out bad w) (hT : TabB B w) : W1 B q d w out bad ((w.alloc (.cells #[.pointer (some ⟨q, 0, none⟩)] 102)).alloc (.cells #[.int .i64 (d : Int)] 3)) := by
  obtain ⟨h1, h2⟩ := bx_new (d := d) h
  have hg := Went.below (q := q) h2 h.size
  exact ⟨h.keptB h2, h1, hg, hT.to hg.1⟩
theorem W1.to {B q d : Nat} {out out' : Bs} {bad bad' : Bool} {w W W' : World} (h : W1 B q d w out bad W) (hs : WSt B q out' bad' W') (hg : Went B q W W') : W1 B q d w out' bad' W' := ⟨hs, h.bx.to hg.2, h.wt.trans hg, h.tb.to hg.1⟩
set_option maxRecDepth 100000 in
set_option maxHeartbeats 10000000 in
theorem wv_nul : WOk .nul := by
  intro d B q S v out bad w hw hT hr hS hd hl
  have hv : v = .nilIface := hr
  subst hv
  have H0 := Lib.hid (w1_new (d := d) hw hT)
  clear hw hT hr hS
  go_enter Tryz.func48, Tryz.ntmps48
  go_upto_region 6 with fail
  generalize ((w.alloc (.cells #[.pointer (some ⟨q, 0, none⟩)] 102)).alloc (.cells #[.int .i64 (d : Int)] 3)) = W at *
  obtain ⟨⟨c0, c1⟩, f0, f1⟩ := H0.out.bx.cells
  have C1 := w_string B q out bad ⟨#[110, 117, 108, 108]⟩ W H0.out.st (by show _ + 4 ≤ _; omega)
  go_wp2_with (go_at_call 85; refine C1.mono ?_; rintro e w3 ⟨rfl, hw3, hg3⟩; have H3 := Lib.hid (H0.out.to hw3 hg3); clear hw3 hg3)
  go_end0
  exact wend_of (f := formJ .nul) (ok := true) (by rw [Bool.not_true, Bool.or_false]; exact H3.out.st) H3.out.wt
set_option maxRecDepth 100000 in
set_option maxHeartbeats 10000000 in
theorem wv_str (s : Bs) : WOk (.str s) := by
  intro d B q S v out bad w hw hT hr hS hd hl
  have hv : v = .iface 9 (.string ⟨s.toArray⟩) := hr
  subst hv
  have H0 := Lib.hid (w1_new (d := d) hw hT)
  have hsl : s.length ≤ (quote s).length := by
    have : ∀ l : Bs, l.length ≤ (escS l).length := by
      intro l
      induction l with
      | nil => exact Nat.le_refl _
      | cons c l ih =>
        have : 1 ≤ (escB c).length := by
          unfold escB
          repeat' split
          all_goals simp
        rw [escS_cons, List.length_append, List.length_cons]
        omega
    have := this s
    simp only [quote, List.length_cons, List.length_append]
    omega
  have hl2 : out.length + 6 * s.length + 2 ≤ 70368744177664 := by
    have : (formJ (.str s)).length = (quote s).length := rfl
    omega
  have a1 : ∀ W, (Instr.typeAssert (.iface 9 (.string ⟨s.toArray⟩)) 20 4 true).run Tryz.prog W = .ok (.tuple #[.bool false, .bool false]) W := fun W => by kernel_rfl
  have a2 : ∀ W, (Instr.typeAssert (.iface 9 (.string ⟨s.toArray⟩)) 20 95 true).run Tryz.prog W = .ok (.tuple #[.string ⟨#[]⟩, .bool false]) W := fun W => by kernel_rfl
  have a3 : ∀ W, (Instr.typeAssert (.iface 9 (.string ⟨s.toArray⟩)) 20 9 true).run Tryz.prog W = .ok (.tuple #[.string ⟨s.toArray⟩, .bool true]) W := fun W => by kernel_rfl
  clear hw hT hr hS hsl hl
  go_enter Tryz.func48, Tryz.ntmps48
  go_upto_region 16 with fail
  generalize ((w.alloc (.cells #[.pointer (some ⟨q, 0, none⟩)] 102)).alloc (.cells #[.int .i64 (d : Int)] 3)) = W at *
  obtain ⟨⟨c0, c1⟩, f0, f1⟩ := H0.out.bx.cells
  have C1 := w_quote B q out bad ⟨s.toArray⟩ W H0.out.st H0.out.tb.tabs (by show _ + 6 * s.length + 2 ≤ _; omega)
  go_wp2_with (go_at_call 87; refine C1.mono ?_; rintro e w3 ⟨rfl, hw3, hg3⟩; have H3 := Lib.hid (H0.out.to hw3 hg3); clear hw3 hg3)
  go_end0
  exact wend_of (f := formJ (.str s)) (ok := okW d (.str s)) H3.out.st H3.out.wt
end Go.Proofs.YtljnbbdhmlfhjaaGreatDoor
/-
  json.writer: value, of booleans and numbers.
-/
namespace Go.Proofs.YtljnbbdhmlfhjaaGreatDoor
open Go.RowKit
theorem conv_bytesJ {src : TypeId} (hs : Tryz.prog.underlying src = some .string) (s : ByteArray) (hl : s.size ≤ 70368744177664) (w : World) : ∃ a cap W1, (convert src 22 (.string s)).run Tryz.prog w = .ok (.slice a s.size cap) W1 ∧
    argRow W1 (.slice a s.size cap) s.data.toList.length 1 (s.data.toList.map bCell) ∧ Below w.heap.size w W1 := by
  have hb := Joins.below_bytesWorld w.heap.size w 5 s (Nat.le_refl _)
  have hn : s.data.toList.length = s.size := by simp [ByteArray.size_data]
  refine ⟨_, _, _, Lib.run_convert_string_bytes (P := Tryz.prog) w src 22 5 s (u := .string) hs Tryz.underlying22 Tryz.underlying5, ⟨by simp, _, _, by rw [hn], by rw [hn]; exact grownCap_ge _ _ _ _, grownCap_le_maxLen _ _ _ _ (by unfold maxLen; omega), fun _ => ⟨w.heap.size, 0, rfl, ?_, fun j hj => ?_⟩⟩, hb⟩
  · rw [Lib.bytesWorld_size]; omega
  · have hj' : j < s.size := by rw [← hn]; simpa using hj
    rw [Nat.zero_add, Lib.bytesWorld_cell w 5 s j hj', List.getElem_map]
    simp [bCell, List.getD, List.getElem?_eq_getElem (show j < s.data.toList.length by rw [hn]; exact hj')]
set_option maxRecDepth 100000 in
set_option maxHeartbeats 10000000 in
theorem wv_bool (b : Bool) : WOk (.bool b) := by
  intro d B q S v out bad w hw hT hr hS hd hl
  have hv : v = .iface 4 (.bool b) := hr
  subst hv
  have H0 := Lib.hid (w1_new (d := d) hw hT)
  have a1 : ∀ W, (Instr.typeAssert (.iface 4 (.bool b)) 20 4 true).run Tryz.prog W = .ok (.tuple #[.bool b, .bool true]) W := fun W => by kernel_rfl
  have hfb : Lib.formatBool b = formJ (.bool b) := by cases b <;> decide
  have hfl : (Lib.formatBool b).length ≤ 5 := by cases b <;> decide
  have hll : out.length ≤ 70368744177664 := by omega
  have CF := Lib.hid (fun W => Tryz.strconv_FormatBool b W)
  obtain ⟨T, hT2⟩ : ∃ T : ByteArray, (⟨(Lib.formatBool b).toArray⟩ : ByteArray) = T := ⟨_, rfl⟩
  have hTl : T.data.toList = formJ (.bool b) := by rw [← hT2, ← hfb]
  have hTs : T.size ≤ 5 := by rw [← hT2]; exact hfl
  rw [hT2] at CF
  have HTL := Lib.hid hTl
  clear hw hT hr hS hfb hT2 hfl hTl hl
  go_enter Tryz.func48, Tryz.ntmps48
  go_upto_region 9 with fail
  generalize ((w.alloc (.cells #[.pointer (some ⟨q, 0, none⟩)] 102)).alloc (.cells #[.int .i64 (d : Int)] 3)) = W at *
  have hdr : Below W.heap.size W W.drew := (Below.refl _ _).drew
  have H1 := Lib.hid (H0.out.to (H0.out.st.keptB hdr) (Went.below hdr H0.out.st.size))
  obtain ⟨⟨c0, c1⟩, f0, f1⟩ := H1.out.bx.cells
  have C1 := w_string B q out bad T W.drew H1.out.st (by omega)
  have dF := CF.out W.drew
  clear hdr CF
  refine wp_region_tailJ 5 (by kernel_rfl) (by kernel_rfl) ?_
  simp only [List.take_succ_cons, List.take_zero, List.drop_succ_cons, List.drop_zero]
  repeat (go_big_quiet_step (first | exact dF _))
  refine wpQuiet_nil ?_
  change wpList _ _ _ _ _ W.drew
  go_wp2_with (go_at_call 85; refine C1.mono ?_; rintro e w3 ⟨rfl, hw3, hg3⟩; have H3 := Lib.hid (H1.out.to hw3 hg3); clear hw3 hg3)
  go_end0
  exact wend_of (f := formJ (.bool b)) (ok := true) (by have h3 := H3.out.st; rw [HTL.out] at h3; rw [Bool.not_true, Bool.or_false]; exact h3) H3.out.wt
theorem WSt.flag {B q : Nat} {out : Bs} {bad : Bool} {w : World} (h : WSt B q out bad w) : w.cell? ⟨q, 2, none⟩ = some (.bool bad) ∧ w.frozen? ⟨q, 2, none⟩ = false := by
  obtain ⟨_, _, _, ha⟩ := h
  exact ⟨ha.cells.1.2.2, ha.cells.2 2⟩
set_option maxRecDepth 100000 in
set_option maxHeartbeats 3000000 in
theorem wv_num (s : Bs) (hnum : NumS s) : WOk (.num s) := by
  intro d B q S v out bad w hw hT hr hS hd hl
  obtain ⟨hsn, hnl⟩ := (num_iff s).1 hnum
  have hokt : okW d (.num s) = true := by
    simp only [okW, hnl]
    cases s with
    | nil => exact absurd rfl hsn
    | cons c s => simp
  have hv : v = .iface 95 (.string ⟨s.toArray⟩) := hr
  subst hv
  have H0 := Lib.hid (w1_new (d := d) hw hT)
  have a1 : ∀ W, (Instr.typeAssert (.iface 95 (.string ⟨s.toArray⟩)) 20 4 true).run Tryz.prog W = .ok (.tuple #[.bool false, .bool false]) W := fun W => by kernel_rfl
  have a2 : ∀ W, (Instr.typeAssert (.iface 95 (.string ⟨s.toArray⟩)) 20 95 true).run Tryz.prog W = .ok (.tuple #[.string ⟨s.toArray⟩, .bool true]) W := fun W => by kernel_rfl
  have hls : out.length + 6 * s.length + 2 ≤ 1099511627776 := hl
  obtain ⟨T, hT2⟩ : ∃ T : ByteArray, (⟨s.toArray⟩ : ByteArray) = T := ⟨_, rfl⟩
  have hTl : T.data.toList = s := by rw [← hT2]
  have hTs : T.size = s.length := by rw [← hT2]; rfl
  have HCV := Lib.hid (fun W => conv_bytesJ (src := 95) Tryz.underlying95 T (by rw [hTs]; omega) W)
  rw [hT2] at a1 a2 ⊢
  rw [hTl] at HCV
  have HTL := Lib.hid hTl
  have HT2 := Lib.hid hT2
  obtain ⟨ok, hok⟩ : ∃ ok, okW d (.num s) = ok := ⟨_, rfl⟩
  have HOK := Lib.hid hok
  rw [hok]
  clear hw hT hr hS hT2 hTl hl hok
  go_enter Tryz.func48, Tryz.ntmps48
  go_upto_region 12 with fail
  generalize ((w.alloc (.cells #[.pointer (some ⟨q, 0, none⟩)] 102)).alloc (.cells #[.int .i64 (d : Int)] 3)) = W at *
  have hdr : Below W.heap.size W W.drew := (Below.refl _ _).drew
  have H1 := Lib.hid (H0.out.to (H0.out.st.keptB hdr) (Went.below hdr H0.out.st.size))
  obtain ⟨⟨c0, c1⟩, f0, f1⟩ := H1.out.bx.cells
  obtain ⟨c2, f2⟩ := H1.out.st.flag
  have HG1 := Lib.hid (Went.below (q := q) hdr H0.out.st.size)
  clear hdr
  go_cut [] from 34 to 53 (fun wx => WSt B q out (bad || !ok) wx ∧ Went B q W wx)
  case first =>
    have HSB := Lib.hid (fun b => H1.out.st.setBad b)
    cases bad with
    | true =>
      refine wp_region_tailJ 20 (by kernel_rfl) (by kernel_rfl) ?_
      simp only [List.take_succ_cons, List.take_zero, List.drop_succ_cons, List.drop_zero]
      repeat (go_big_quiet_step (fail))
      refine wpQuiet_nil ?_
      change wpList _ _ _ _ _ W.drew
      go_wp2_with fail
      go_meet
      exact ⟨(HSB.out true).1, HG1.out.trans (HSB.out true).2⟩
    | false =>
      obtain ⟨a, cap, Wc, hcv, hrow, hbc⟩ := HCV.out W.drew
      have CN := js_number _ s Wc hrow (by omega)
      rw [hnl] at CN
      have hko : (false || !ok) = false := by rw [← HOK.out, hokt]; rfl
      have HKO := Lib.hid hko
      have HF := Lib.hid (fun w2 (hb2 : Below Wc.heap.size Wc w2) =>
        (have hb := hbc.trans (hb2.mono hbc.size)
         have hw := H1.out.st.keptB hb
         have hg := Went.below (q := q) hb H1.out.st.size
         ⟨hw.flag, hw.setBad false, HG1.out.trans hg⟩ : (w2.cell? ⟨q, 2, none⟩ = some (.bool false) ∧ w2.frozen? ⟨q, 2, none⟩ = false) ∧ (WSt B q out false (w2.setCell ⟨q, 2, none⟩ (.bool false)) ∧ Went B q w2 (w2.setCell ⟨q, 2, none⟩ (.bool false))) ∧ Went B q W w2))
      have HK := Lib.hid (show ∀ w2, Below (World.drew W).heap.size W.drew w2 → (w2.cell? ⟨w.heap.size, 0, none⟩ = some (.pointer (some ⟨q, 0, none⟩)) ∧ w2.cell? ⟨q, 2, none⟩ = some (.bool false)) ∧ ((w2.setCell ⟨q, 2, none⟩ (.bool false)).cell? ⟨w.heap.size, 0, none⟩ = some (.pointer (some ⟨q, 0, none⟩)) ∧ (w2.setCell ⟨q, 2, none⟩ (.bool false)).cell? ⟨q, 2, none⟩ = some (.bool false)) from fun w2 hb =>
        (have h1 := (H1.out.bx.to (Went.below (q := q) hb H1.out.st.size).2)
         have h2 := H1.out.st.keptB hb
         ⟨⟨h1.cells.1.1, h2.flag.1⟩, ⟨(h1.to (KeepW.set q 2 _ w2)).cells.1.1, (h2.setBad false).1.flag.1⟩⟩))
      obtain ⟨ch, s', rfl⟩ := List.exists_cons_of_ne_nil hsn
      have hT3 := HT2.out
      subst hT3
      rw [List.length_cons, Int.natCast_add, Int.natCast_one] at CN
      clear hsn hnl hrow HT2 hTs HTL HOK HCV hko hokt hnum H0 HSB c0 c1 f0 f1 c2
      go_region_held (fun w2 => w2.cell? ⟨w.heap.size, 0, none⟩ = some (.pointer (some ⟨q, 0, none⟩)) ∧ w2.cell? ⟨q, 2, none⟩ = some (.bool false))
        (first | exact (HK.out _ (Below.refl _ _)).1 | exact (HK.out _ (by assumption)).1 | exact (HK.out _ (by assumption)).2)
        (first | (go_at_call 46; refine CN.mono ?_; rintro e w2 ⟨rfl, hb2⟩; have hbb := hbc.trans (hb2.mono hbc.size); have hsb2 := HF.out w2 hb2; obtain ⟨d2, g2⟩ := hsb2.1; have HSB2 := Lib.hid hsb2; clear hsb2))
      all_goals
        go_wp2_with fail
        go_meet
        rw [HKO.out]
        exact ⟨HSB2.out.2.1.1, HSB2.out.2.2.trans HSB2.out.2.1.2⟩
  case rest =>
    have H2 := Lib.hid (H0.out.to hcut.1 hcut.2)
    obtain ⟨⟨d0, d1⟩, g0, g1⟩ := H2.out.bx.cells
    have C1 := w_string B q out (bad || !ok) T wc H2.out.st (by omega)
    clear c0 c1 f0 f1 c2 f2 hcut HCV
    go_wp2_with (go_at_call 85; refine C1.mono ?_; rintro e w3 ⟨rfl, hw3, hg3⟩; have H3 := Lib.hid (H2.out.to hw3 hg3); clear hw3 hg3)
    go_end0
    exact wend_of (f := formJ (.num s)) (ok := ok) (by have h3 := H3.out.st; rw [HTL.out] at h3; exact h3) H3.out.wt
end Go.Proofs.YtljnbbdhmlfhjaaGreatDoor
/-
  json.writer: an array's part; list.
-/
namespace Go.Proofs.YtljnbbdhmlfhjaaGreatDoor
open Go.RowKit
theorem formT_snoc (x : J) : ∀ l : List J, formT (l ++ [x]) = formT l ++ 44 :: formJ x
  | [] => by simp [formT]
  | y :: l => by simp [formT, formT_snoc x l]
theorem formL_snoc (x : J) (l : List J) : formL (l ++ [x]) = formL l ++ (if l = [] then [] else [44]) ++ formJ x := by
  cases l with
  | nil => simp [formL, formT]
  | cons y l => simp [formL, formT_snoc]
theorem okWL_snoc (d : Nat) (x : J) : ∀ l : List J, okWL d (l ++ [x]) = (okWL d l && okW d x)
  | [] => by simp [okWL]
  | y :: l => by simp [okWL, okWL_snoc d x l, Bool.and_assoc]
theorem okWL_take (d : Nat) : ∀ (l : List J) (i : Nat), okWL d l = true → okWL d (l.take i) = true
  | [], i, h => by simp [okWL]
  | y :: l, 0, h => by simp [okWL]
  | y :: l, i + 1, h => by
    simp only [okWL, Bool.and_eq_true] at h
    simp only [List.take_succ_cons, okWL, Bool.and_eq_true]
    exact ⟨h.1, okWL_take d l i h.2⟩
theorem formT_take : ∀ (l : List J) (i : Nat), (formT (l.take i)).length ≤ (formT l).length
  | [], i => by simp [formT]
  | y :: l, 0 => by simp [formT]
  | y :: l, i + 1 => by
    have := formT_take l i
    simp only [List.take_succ_cons, formT, List.length_cons, List.length_append]
    omega
theorem formL_take (l : List J) (i : Nat) : (formL (l.take i)).length ≤ (formL l).length := by
  cases l with
  | nil => simp [formL]
  | cons y l =>
    cases i with
    | zero => simp [formL]
    | succ i =>
      have := formT_take l i
      simp only [List.take_succ_cons, formL, List.length_append]
      omega
theorem item_le (l : List J) (i : Nat) (h : i < l.length) : (formJ l[i]).length ≤ (formL l).length := by
  have htk : l.take (i + 1) = l.take i ++ [l[i]] := List.take_succ_eq_append_getElem h
  have h3 := formL_take l (i + 1)
  rw [htk, formL_snoc, List.length_append, List.length_append] at h3
  omega
theorem repL_get {w : World} {S : Nat → Prop} : ∀ {l : List J} {vs : List Value}, RepL w S l vs → ∀ i (h : i < l.length), ∃ u, vs[i]? = some u ∧ RepJ w S l[i] u
  | x :: l, vs, h, 0, _ => by
    obtain ⟨v, vs', rfl, h1, -⟩ := h
    exact ⟨v, rfl, h1⟩
  | x :: l, vs, h, i + 1, hi => by
    obtain ⟨v, vs', rfl, -, h2⟩ := h
    obtain ⟨u, h3, h4⟩ := repL_get h2 i (by simpa using hi)
    exact ⟨u, by simpa using h3, h4⟩
/-- What an array's closure has captured. -/
structure Cap (B q d k kx : Nat) (sv : Value) (W : World) : Prop where
  bx : Bx q d k W
  bl : W.heap[kx]? = some (.cells #[sv] 42 (0, 0))
  ne : q < kx
theorem Cap.to {B q d k kx : Nat} {sv : Value} {W W' : World} (h : Cap B q d k kx sv W) (hk : KeepW q W W') : Cap B q d k kx sv W' :=
  ⟨h.bx.to hk, hk _ _ _ _ h.bl (by decide) (by have := h.ne; omega), h.ne⟩
theorem RowS.low {w w' : World} {S : Nat → Prop} {B n size : Nat} {sv : Value} {xs : List Value} (h : RowS w S sv n size xs) (hS : ∀ k, S k → k < B) (hb : Below B w w') : RowS w' S sv n size xs :=
  h.to fun k hk => ⟨hk, fun _ => hb.block k (hS k hk)⟩
theorem RepJ.low {w w' : World} {S : Nat → Prop} {B : Nat} {j : J} {v : Value} (h : RepJ w S j v) (hS : ∀ k, S k → k < B) (hb : Below B w w') : RepJ w' S j v :=
  RepJ.to (fun k hk => ⟨hk, fun _ => hb.block k (hS k hk)⟩) j v h
theorem RepL.low {w w' : World} {S : Nat → Prop} {B : Nat} {l : List J} {vs : List Value} (h : RepL w S l vs) (hS : ∀ k, S k → k < B) (hb : Below B w w') : RepL w' S l vs :=
  RepL.to (fun k hk => ⟨hk, fun _ => hb.block k (hS k hk)⟩) l vs h
set_option maxRecDepth 100000 in
set_option maxHeartbeats 10000000 in
theorem part_arr {B q d k kx : Nat} {S : Nat → Prop} {sv : Value} {l : List J} {vs : List Value} {out : Bs} {bad : Bool} {W : World} (i : Nat) (hi : i < l.length) (hx : WOk l[i]) (hw : WSt B q out bad W) (hc : Cap B q d k kx sv W) (hT : TabB B W)
    (hrow : RowS W S sv l.length 1 vs) (hrep : RepL W S l vs) (hS : ∀ k, S k → k < B) (hd : d + 1 + (formJ l[i]).length ≤ 2199023255552) (hl : out.length + 6 * (formJ l[i]).length + 2 ≤ 1099511627776) :
    Calls Tryz.prog 89 #[.int .i64 (i : Int), .pointer (some ⟨k, 0, none⟩), .pointer (some ⟨kx, 0, none⟩), .pointer (some ⟨k + 1, 0, none⟩)] W (WEnd B q W out bad (okW (d + 1) l[i]) (formJ l[i])) := by
  obtain ⟨u, hu, hru⟩ := repL_get hrep i hi
  have hdr : Below W.heap.size W W.drew := (Below.refl _ _).drew
  have hg := Went.below (q := q) hdr hw.size
  have CV := hx (d + 1) B q S u out bad W.drew (hw.keptB hdr) (hT.to hg.1) (hru.low hS hg.1) hS hd hl
  have HG := Lib.hid hg
  obtain ⟨⟨c0, c1⟩, f0, f1⟩ := (hc.to hg.2).bx.cells
  have c3 : W.drew.cell? ⟨kx, 0, none⟩ = some sv := by rw [Lib.cell_of_heap (hc.to hg.2).bl]; rfl
  obtain ⟨⟨hl1, a, cap, rfl, hca, hcm, hcs⟩, -⟩ := hrow.low hS hg.1
  obtain ⟨b, off, rfl, hb, hcell⟩ := hcs (by omega)
  have hvl := repL_len hrep
  have g0 : W.drew.cell? ⟨b, off + i, none⟩ = some u := by
    have := hcell i (by omega)
    rw [this]
    rw [List.getElem?_eq_getElem (by omega)] at hu
    exact hu
  have i1 : (0 : Int) ≤ (i : Int) := by omega
  have i2 : (i : Int) < (l.length : Int) := by omega
  rw [Int.natCast_add, Int.natCast_one] at CV
  clear hu hru hdr hg hw hc hT hrow hrep hS hcs hcell hl hvl hl1 hx
  generalize okW (d + 1) l[i] = ok at *
  generalize formJ l[i] = f at *
  generalize l.length = n at *
  go_enter Tryz.func89, Tryz.ntmps89
  go_upto_region 0 with fail
  refine wp_region_tailJ 7 (by kernel_rfl) (by kernel_rfl) ?_
  simp only [List.take_succ_cons, List.take_zero, List.drop_succ_cons, List.drop_zero]
  repeat (go_big_quiet_step (fail))
  refine wpQuiet_nil ?_
  change wpList _ _ _ _ _ W.drew
  go_wp2_with (go_at_call 48; refine CV.mono ?_; rintro e w2 ⟨rfl, out', bad', h1, h2, h3⟩; have H2 := Lib.hid (And.intro h1 (And.intro h2 h3)); clear h1 h2 h3)
  go_end0
  exact ⟨rfl, out', bad', H2.out.1, HG.out.trans H2.out.2.1, H2.out.2.2⟩
end Go.Proofs.YtljnbbdhmlfhjaaGreatDoor
/-
  json.writer: list, of an array.
-/
namespace Go.Proofs.YtljnbbdhmlfhjaaGreatDoor
open Go.RowKit
/-- An array's items so far. -/
structure LIt (B q : Nat) (w : World) (out : Bs) (bad : Bool) (d : Nat) (l : List J) (i : Nat) (W : World) (out' : Bs) (bad' : Bool) : Prop where
  st : WSt B q out' bad' W
  wt : Went B q w W
  fl : bad' = (bad || !okWL d (l.take i))
  eq : bad' = false → out' = out ++ 91 :: formL (l.take i)
  le : out'.length ≤ out.length + 1 + (formL (l.take i)).length
theorem LIt.done {B q d i : Nat} {w W : World} {out out' : Bs} {bad bad' : Bool} {l : List J} (h : LIt B q w out bad d l i W out' bad') (hb : bad' = true) : WEnd B q w out bad (okWL d l) (91 :: (formL l ++ [93])) (.returned (.tuple #[])) W := by
  have h1 := h.fl
  have h2 := formL_take l i
  have h3 := h.le
  refine ⟨rfl, out', bad', h.st, h.wt, ?_, fun e => ?_, ?_⟩
  · rw [hb] at h1 ⊢
    cases bad with
    | true => rfl
    | false =>
      cases hk : okWL d l with
      | false => rfl
      | true => rw [okWL_take d l i hk] at h1; cases h1
  · rw [hb] at e; cases e
  · simp only [List.length_cons, List.length_append, List.length_nil]; omega
theorem LIt.fin {B q d : Nat} {w W W' : World} {out out' : Bs} {bad bad' : Bool} {l : List J} (h : LIt B q w out bad d l l.length W out' bad') (hs : WSt B q (out' ++ [93]) bad' W') (hg : Went B q W W') : WEnd B q w out bad (okWL d l) (91 :: (formL l ++ [93])) (.returned (.tuple #[])) W' := by
  have h1 := h.fl
  have h3 := h.le
  have h4 := h.eq
  rw [List.take_length] at h1 h3 h4
  refine ⟨rfl, _, bad', hs, h.wt.trans hg, h1, fun e => ?_, ?_⟩
  · rw [h4 e]; simp
  · simp only [List.length_cons, List.length_append, List.length_nil]; omega
theorem LIt.next {B q d i : Nat} {w W W' : World} {out out' out1 : Bs} {bad : Bool} {l : List J} (h : LIt B q w out bad d l i W out' false) (hi : i < l.length) (h1 : out1 = out' ++ (if i = 0 then [] else [44])) {out2 : Bs} {bad2 : Bool} (hs : WSt B q out2 bad2 W') (hg : Went B q W W')
    (hb : bad2 = (false || !okW d l[i])) (he : bad2 = false → out2 = out1 ++ formJ l[i]) (hl : out2.length ≤ out1.length + (formJ l[i]).length) : LIt B q w out bad d l (i + 1) W' out2 bad2 := by
  have htk : l.take (i + 1) = l.take i ++ [l[i]] := List.take_succ_eq_append_getElem hi
  have h0 : (l.take i = []) ↔ i = 0 := by
    rw [List.take_eq_nil_iff]
    constructor
    · rintro (h | h)
      · exact h
      · rw [h] at hi; cases hi
    · exact .inl
  have hfl := h.fl
  have heq := h.eq rfl
  have hle := h.le
  have hf : formL (l.take (i + 1)) = formL (l.take i) ++ (if i = 0 then [] else [44]) ++ formJ l[i] := by
    rw [htk, formL_snoc]
    by_cases hz : i = 0
    · rw [if_pos (h0.2 hz), if_pos hz]
    · rw [if_neg (fun e => hz (h0.1 e)), if_neg hz]
  refine ⟨hs, h.wt.trans hg, ?_, fun e => ?_, ?_⟩
  · rw [hb, htk, okWL_snoc]
    cases bad
    · cases hk : okWL d (l.take i)
      · rw [hk] at hfl; cases hfl
      · simp
    · cases hfl
  · rw [he e, h1, heq, hf]; simp
  · rw [hf, List.length_append, List.length_append]
    rw [h1, List.length_append] at hl
    omega
set_option maxRecDepth 100000 in
set_option maxHeartbeats 20000000 in
theorem list_arr {B q d k kx : Nat} {S : Nat → Prop} {sv : Value} {l : List J} {vs : List Value} {out : Bs} {bad : Bool} {w : World} (hx : ∀ x ∈ l, WOk x) (hw : WSt B q out bad w) (hc : Cap B q d k kx sv w) (hT : TabB B w)
    (hrow : RowS w S sv l.length 1 vs) (hrep : RepL w S l vs) (hS : ∀ k, S k → k < B) (hd : d + 1 + (formL l).length ≤ 2199023255552) (hl : out.length + 6 * (formL l).length + 14 ≤ 1099511627776) :
    Calls Tryz.prog 88 #[.pointer (some ⟨q, 0, none⟩), .int .u8 91, .int .u8 93, .int .i64 (l.length : Int), .func (.func 89) #[] #[.pointer (some ⟨k, 0, none⟩), .pointer (some ⟨kx, 0, none⟩), .pointer (some ⟨k + 1, 0, none⟩)]] w (WEnd B q w out bad (okWL (d + 1) l) (91 :: (formL l ++ [93]))) := by
  have C1 := w_byte B q out bad 91 91 rfl w hw (by omega)
  have HP := Lib.hid (fun (i : Nat) (hi : i < l.length) (W : World) (o : Bs) (b : Bool) (hW : WSt B q o b W) (hg : Went B q w W) (ho : o.length + 6 * (formJ l[i]).length + 2 ≤ 1099511627776) =>
    part_arr i hi (hx _ (List.getElem_mem hi)) hW (hc.to hg.2) (hT.to hg.1) (hrow.low hS hg.1) (hrep.low hS hg.1) hS (by have := item_le l i hi; omega) ho)
  have hrl := repL_len hrep
  have hle : l.length ≤ (formL l).length + 1 := by
    have : ∀ m : List J, m.length ≤ (formT m).length := by
      intro m
      induction m with
      | nil => exact Nat.le_refl _
      | cons y m ih => simp only [formT, List.length_cons, List.length_append]; omega
    cases l with
    | nil => simp
    | cons y m =>
      have := this m
      simp only [formL, List.length_cons, List.length_append]
      omega
  have hnl : l.length ≤ 1099511627776 := by omega
  have HL := Lib.hid hl
  clear hx hw hc hT hrow hrep hS hrl hle hl
  obtain ⟨n, hn⟩ : ∃ n, l.length = n := ⟨_, rfl⟩
  have HN := Lib.hid hn
  rw [hn] at hnl ⊢
  clear hn
  go_enter Tryz.func88, Tryz.ntmps88
  go_upto_region 2 with (go_at_call 91; refine C1.mono ?_; rintro e w1 ⟨rfl, hw1, hg1⟩; have H1 := Lib.hid (And.intro hw1 hg1); clear hw1 hg1)
  go_loopw [17] (fun iv wr => ∃ (i : Nat) (out' : Bs) (bad' : Bool), iv = .int .i64 i ∧ i ≤ n ∧ LIt B q w out bad (d + 1) l i wr out' bad') (fun iv _ => n - (intOf iv).toNat)
  case atStart => exact ⟨0, _, bad, rfl, by omega, ⟨H1.out.1, H1.out.2, by simp [okWL], fun _ => by simp [formL], by simp⟩⟩
  case round =>
    obtain ⟨i, out', bad', rfl, hi, hlt⟩ := hrel
    obtain ⟨c2, f2⟩ := hlt.st.flag
    have H := Lib.hid hlt
    clear hlt
    by_cases hin : i < n
    · cases bad' with
      | true =>
        clear C1 H1 HP HL
        go_wp2_with fail
        go_end0
        exact H.out.done rfl
      | false =>
        have hil : i < l.length := by rw [HN.out]; exact hin
        have hlen : out'.length + 6 * (formJ l[i]).length + 4 ≤ 1099511627776 := by
          have h1 := H.out.le
          have h2 := HL.out
          have htk : l.take (i + 1) = l.take i ++ [l[i]] := List.take_succ_eq_append_getElem hil
          have h3 := formL_take l (i + 1)
          rw [htk, formL_snoc, List.length_append, List.length_append] at h3
          omega
        have HLEN := Lib.hid hlen
        clear hlen C1 H1
        by_cases h0 : i = 0
        · subst h0
          have CP := HP.out 0 hil wr out' false H.out.st H.out.wt (by have := HLEN.out; omega)
          go_wp2_with (go_at_call 89; refine CP.mono ?_; rintro e w2 ⟨rfl, o2, b2, h1, h2, h3, h4, h5⟩; have H2 := Lib.hid (H.out.next hil (by rw [if_pos rfl, List.append_nil]) h1 h2 h3 h4 h5); clear h1 h2 h3 h4 h5)
          go_roundw
          case rel => exact ⟨1, o2, b2, by go_num, by omega, H2.out⟩
          case measure => simp [intOf]; omega
        · have hgt : decide ((0 : Int) < (i : Int)) = true := decide_eq_true (by omega)
          have hgt2 : decide (0 < i) = true := decide_eq_true (by omega)
          have hgt3 : 0 < i := by omega
          have CB := w_byte B q out' false 44 44 rfl wr H.out.st (by have := HLEN.out; omega)
          have HP2 := Lib.hid (fun (W : World) (hW : WSt B q (out' ++ [44]) false W) (hg : Went B q wr W) => HP.out i hil W (out' ++ [44]) false hW (H.out.wt.trans hg) (by have := HLEN.out; rw [List.length_append, List.length_singleton]; omega))
          go_wp2_with (first | (go_at_call 91; refine CB.mono ?_; rintro e w3 ⟨rfl, hw3, hg3⟩; have H3 := Lib.hid (And.intro hw3 hg3); have CP := HP2.out w3 hw3 hg3; clear hw3 hg3) | (go_at_call 89; refine CP.mono ?_; rintro e w2 ⟨rfl, o2, b2, h1, h2, h3, h4, h5⟩; have H2 := Lib.hid (H.out.next hil (by rw [if_neg h0]) h1 (H3.out.2.trans h2) h3 h4 h5); clear h1 h2 h3 h4 h5))
          go_roundw
          case rel => exact ⟨i + 1, o2, b2, by go_num, by omega, H2.out⟩
          case measure => simp [intOf]; omega
    · have hie : i = n := by omega
      have hil : i = l.length := by rw [HN.out]; exact hie
      have hlen : out'.length + 4 ≤ 1099511627776 := by
        have h1 := H.out.le
        have h2 := HL.out
        have h3 := formL_take l i
        omega
      have CB := w_byte B q out' bad' 93 93 rfl wr H.out.st (by omega)
      have HIL := Lib.hid hil
      clear hil hlen HP HL C1 H1
      subst hie
      go_wp2_with (go_at_call 91; refine CB.mono ?_; rintro e w3 ⟨rfl, hw3, hg3⟩; have H3 := Lib.hid (And.intro hw3 hg3); clear hw3 hg3)
      go_end0
      have hh := H.out
      rw [HIL.out] at hh
      exact hh.fin H3.out.1 H3.out.2
end Go.Proofs.YtljnbbdhmlfhjaaGreatDoor
/-
  json.writer: value, of an array.
-/
namespace Go.Proofs.YtljnbbdhmlfhjaaGreatDoor
open Go.RowKit
theorem cap_new {B q d k : Nat} {out : Bs} {bad : Bool} {W : World} (sv : Value) (hw : WSt B q out bad W) (hb : Bx q d k W) :
    Cap B q d k W.heap.size sv (W.alloc (.cells #[sv] 42)) ∧ Below W.heap.size W (W.alloc (.cells #[sv] 42)) := by
  have h1 := belowAJ (o := .cells #[sv] 42) (Below.refl W.heap.size W) (Nat.le_refl _)
  exact ⟨⟨hb.to (KeepW.below h1), heap_alloc_new W _, hw.lt⟩, h1⟩
set_option maxRecDepth 100000 in
set_option maxHeartbeats 20000000 in
theorem wv_arr (l : List J) (hx : ∀ x ∈ l, WOk x) : WOk (.arr l) := by
  intro d B q S v out bad w hw hT hr hS hd hl
  obtain ⟨sv, vs, rfl, hrow, hrep⟩ := hr
  obtain ⟨⟨hl1, a, cap, rfl, hca, hcm, hcs⟩, hSb⟩ := hrow
  have hrow : RowS w S (.slice a l.length cap) l.length 1 vs := ⟨⟨hl1, a, cap, rfl, hca, hcm, hcs⟩, hSb⟩
  have H0 := Lib.hid (w1_new (d := d) hw hT)
  have hl2 : out.length + 6 * (formL l).length + 14 ≤ 1099511627776 := by
    have : (formJ (.arr l)).length = (formL l).length + 2 := by simp [formJ]
    omega
  have hd2 : d + 1 + (formL l).length ≤ 2199023255552 := by
    have : (formJ (.arr l)).length = (formL l).length + 2 := by simp [formJ]
    omega
  have a1 : ∀ W, (Instr.typeAssert (.iface 42 (.slice a l.length cap)) 20 4 true).run Tryz.prog W = .ok (.tuple #[.bool false, .bool false]) W := fun W => by kernel_rfl
  have a2 : ∀ W, (Instr.typeAssert (.iface 42 (.slice a l.length cap)) 20 95 true).run Tryz.prog W = .ok (.tuple #[.string ⟨#[]⟩, .bool false]) W := fun W => by kernel_rfl
  have a3 : ∀ W, (Instr.typeAssert (.iface 42 (.slice a l.length cap)) 20 9 true).run Tryz.prog W = .ok (.tuple #[.string ⟨#[]⟩, .bool false]) W := fun W => by kernel_rfl
  have a4 : ∀ W, (Instr.typeAssert (.iface 42 (.slice a l.length cap)) 20 42 true).run Tryz.prog W = .ok (.tuple #[.slice a l.length cap, .bool true]) W := fun W => by kernel_rfl
  have CL := Lib.hid (fun (W : World) (k kx : Nat) (b : Bool) (hW : WSt B q out b W) (hc : Cap B q d k kx (.slice a l.length cap) W) (hg : Went B q w W) => list_arr (l := l) (vs := vs) (S := S) hx hW hc (hT.to hg.1) (hrow.low hS hg.1) (hrep.low hS hg.1) hS hd2 hl2)
  obtain ⟨n, hn⟩ : ∃ n, l.length = n := ⟨_, rfl⟩
  rw [hn] at a1 a2 a3 a4 CL ⊢
  clear hw hT hrow hrep hS hSb hcs hl1 hl hx hca hcm hl2 hn hd2
  have hmf : ∀ (fn : Fn) (first cap : Array Value) (w : World), (Instr.makeFunc fn first cap).run Tryz.prog w = .ok (.func fn first cap) w := fun _ _ _ _ => rfl
  go_enter Tryz.func48, Tryz.ntmps48
  go_upto_region 18 with fail
  generalize ((w.alloc (.cells #[.pointer (some ⟨q, 0, none⟩)] 102)).alloc (.cells #[.int .i64 (d : Int)] 3)) = W at *
  go_upto_region 19 with fail
  obtain ⟨hcap, hbw⟩ := cap_new (.slice a n cap) H0.out.st H0.out.bx
  have hgw := Went.below (q := q) hbw H0.out.st.size
  have H1 := Lib.hid (And.intro (H0.out.to (H0.out.st.keptB hbw) hgw) hcap)
  clear hcap hbw hgw
  generalize (W.alloc (.cells #[.slice a n cap] 42)) = W2 at *
  have hdr : Below W2.heap.size W2 W2.drew := (Below.refl _ _).drew
  have hgd := Went.below (q := q) hdr H1.out.1.st.size
  have H2 := Lib.hid (And.intro (H1.out.1.to (H1.out.1.st.keptB hdr) hgd) (H1.out.2.to hgd.2))
  have HGD := Lib.hid hgd
  obtain ⟨⟨c0, c1⟩, f0, f1⟩ := H2.out.1.bx.cells
  obtain ⟨c2, f2⟩ := H2.out.1.st.flag
  have hdl : d ≤ 2199023255552 := by omega
  clear hdr hgd
  go_cut [] from 68 to 78 (fun wx => WSt B q out (bad || decide (16 ≤ d)) wx ∧ Went B q W2 wx)
  case first =>
    have HSB := Lib.hid (fun b => H2.out.1.st.setBad b)
    clear CL
    cases bad with
    | true =>
      refine wp_region_tailJ 11 (by kernel_rfl) (by kernel_rfl) ?_
      simp only [List.take_succ_cons, List.take_zero, List.drop_succ_cons, List.drop_zero]
      repeat (go_big_quiet_step (fail))
      refine wpQuiet_nil ?_
      change wpList _ _ _ _ _ W2.drew
      go_wp2_with fail
      go_meet
      exact ⟨(HSB.out true).1, HGD.out.trans (HSB.out true).2⟩
    | false =>
      obtain ⟨X, hX⟩ : ∃ X, decide (16 ≤ d) = X := ⟨_, rfl⟩
      have hX2 : decide ((16 : Int) ≤ (d : Int)) = X := by rw [← hX]; apply decide_eq_decide.2; omega
      have HXX := Lib.hid hX
      clear hX
      refine wp_region_tailJ 11 (by kernel_rfl) (by kernel_rfl) ?_
      simp only [List.take_succ_cons, List.take_zero, List.drop_succ_cons, List.drop_zero]
      repeat (go_big_quiet_step (fail))
      refine wpQuiet_nil ?_
      change wpList _ _ _ _ _ W2.drew
      go_wp2_with fail
      go_meet
      rw [HXX.out, Bool.false_or]
      exact ⟨(HSB.out X).1, HGD.out.trans (HSB.out X).2⟩
  case rest =>
    have H3 := Lib.hid (And.intro (H1.out.1.to hcut.1 hcut.2) (H1.out.2.to hcut.2.2))
    clear c0 c1 f0 f1 c2 f2 hcut H2 HGD
    obtain ⟨⟨c0, c1⟩, f0, f1⟩ := H3.out.1.bx.cells
    have c3 : wc.cell? ⟨W.heap.size, 0, none⟩ = some (.slice a n cap) := by rw [Lib.cell_of_heap H3.out.2.bl]; rfl
    have C1 := CL.out wc w.heap.size W.heap.size _ H3.out.1.st H3.out.2 H3.out.1.wt
    clear CL
    go_wp2_with (go_at_call 88; refine C1.mono ?_; rintro e w2 ⟨rfl, o2, b2, h1, h2, h3, h4, h5⟩; have HE := Lib.hid (And.intro h1 (And.intro h2 (And.intro h3 (And.intro h4 h5)))); clear h1 h2 h3 h4 h5)
    go_end0
    obtain ⟨h1, h2, h3, h4, h5⟩ := HE.out
    refine ⟨rfl, o2, b2, h1, H3.out.1.wt.trans h2, ?_, h4, h5⟩
    rw [h3]
    simp only [okW]
    have e1 : decide (d < 16) = !decide (16 ≤ d) := by
      by_cases h : 16 ≤ d
      · rw [decide_eq_true h, decide_eq_false (by omega)]; rfl
      · rw [decide_eq_false h, decide_eq_true (by omega)]; rfl
    rw [e1]
    cases bad <;> cases decide (16 ≤ d) <;> cases okWL (d + 1) l <;> rfl
end Go.Proofs.YtljnbbdhmlfhjaaGreatDoor
/-
  json.writer: an object's part.
-/
namespace Go.Proofs.YtljnbbdhmlfhjaaGreatDoor
open Go.RowKit
theorem formU_snoc (x : Bs × J) : ∀ l : List (Bs × J), formU (l ++ [x]) = formU l ++ 44 :: formE x
  | [] => by simp [formU]
  | y :: l => by simp [formU, formU_snoc x l]
theorem formM_snoc (x : Bs × J) (l : List (Bs × J)) : formM (l ++ [x]) = formM l ++ (if l = [] then [] else [44]) ++ formE x := by
  cases l with
  | nil => simp [formM, formU]
  | cons y l => simp [formM, formU_snoc]
theorem okWM_snoc (d : Nat) (x : Bs × J) : ∀ l : List (Bs × J), okWM d (l ++ [x]) = (okWM d l && okWE d x)
  | [] => by simp [okWM]
  | y :: l => by simp [okWM, okWM_snoc d x l, Bool.and_assoc]
theorem okWM_take (d : Nat) : ∀ (l : List (Bs × J)) (i : Nat), okWM d l = true → okWM d (l.take i) = true
  | [], i, h => by simp [okWM]
  | y :: l, 0, h => by simp [okWM]
  | y :: l, i + 1, h => by
    simp only [okWM, Bool.and_eq_true] at h
    simp only [List.take_succ_cons, okWM, Bool.and_eq_true]
    exact ⟨h.1, okWM_take d l i h.2⟩
theorem formU_take : ∀ (l : List (Bs × J)) (i : Nat), (formU (l.take i)).length ≤ (formU l).length
  | [], i => by simp [formU]
  | y :: l, 0 => by simp [formU]
  | y :: l, i + 1 => by
    have := formU_take l i
    simp only [List.take_succ_cons, formU, List.length_cons, List.length_append]
    omega
theorem formM_take (l : List (Bs × J)) (i : Nat) : (formM (l.take i)).length ≤ (formM l).length := by
  cases l with
  | nil => simp [formM]
  | cons y l =>
    cases i with
    | zero => simp [formM]
    | succ i =>
      have := formU_take l i
      simp only [List.take_succ_cons, formM, List.length_append]
      omega
theorem mem_le (l : List (Bs × J)) (i : Nat) (h : i < l.length) : (formE l[i]).length ≤ (formM l).length := by
  have htk : l.take (i + 1) = l.take i ++ [l[i]] := List.take_succ_eq_append_getElem h
  have h3 := formM_take l (i + 1)
  rw [htk, formM_snoc, List.length_append, List.length_append] at h3
  omega
theorem formE_eq (m : Bs × J) : formE m = quote m.1 ++ 58 :: formJ m.2 := by cases m; rfl
theorem okWE_eq (d : Nat) (m : Bs × J) : okWE d m = (Lib.validD m.1 && okW d m.2) := by cases m; rfl
theorem repM_get {w : World} {S : Nat → Prop} : ∀ {l : List (Bs × J)} {vs : List Value}, RepM w S l vs → ∀ i (h : i < l.length), ∃ u, vs[2 * i]? = some (.string ⟨l[i].1.toArray⟩) ∧ vs[2 * i + 1]? = some u ∧ RepJ w S l[i].2 u
  | (n, x) :: l, vs, h, 0, _ => by
    obtain ⟨v, vs', rfl, h1, -⟩ := h
    exact ⟨v, rfl, rfl, h1⟩
  | (n, x) :: l, vs, h, i + 1, hi => by
    obtain ⟨v, vs', rfl, -, h2⟩ := h
    obtain ⟨u, h3, h4, h5⟩ := repM_get h2 i (by simpa using hi)
    exact ⟨u, by rw [show 2 * (i + 1) = 2 * i + 1 + 1 by omega]; simpa using h3, by rw [show 2 * (i + 1) + 1 = 2 * i + 1 + 1 + 1 by omega]; simpa using h4, h5⟩
/-- What an object's closure has captured. -/
structure CapO (B q d k kx : Nat) (sv : Value) (W : World) : Prop where
  bx : Bx q d k W
  bl : W.heap[kx]? = some (.cells #[sv] 79 (0, 0))
  ne : q < kx
theorem CapO.to {B q d k kx : Nat} {sv : Value} {W W' : World} (h : CapO B q d k kx sv W) (hk : KeepW q W W') : CapO B q d k kx sv W' :=
  ⟨h.bx.to hk, hk _ _ _ _ h.bl (by decide) (by have := h.ne; omega), h.ne⟩
theorem RepM.low {w w' : World} {S : Nat → Prop} {B : Nat} {l : List (Bs × J)} {vs : List Value} (h : RepM w S l vs) (hS : ∀ k, S k → k < B) (hb : Below B w w') : RepM w' S l vs :=
  RepM.to (fun k hk => ⟨hk, fun _ => hb.block k (hS k hk)⟩) l vs h
theorem quote_len (s : Bs) : (quote s).length ≤ 6 * s.length + 2 ∧ s.length + 2 ≤ (quote s).length := by
  have h1 := escS_len s
  have h2 : ∀ l : Bs, l.length ≤ (escS l).length := by
    intro l
    induction l with
    | nil => exact Nat.le_refl _
    | cons c l ih =>
      have : 1 ≤ (escB c).length := by
        unfold escB
        repeat' split
        all_goals simp
      rw [escS_cons, List.length_append, List.length_cons]
      omega
  have h3 := h2 s
  simp only [quote, List.length_cons, List.length_append, List.length_nil]
  omega
/-- The cells of a member that can be read. -/
theorem mem_cells {W : World} {S : Nat → Prop} {sv : Value} {l : List (Bs × J)} {vs : List Value} {i : Nat} (hi : i < l.length) (hrow : RowS W S sv l.length 2 vs) (hrep : RepM W S l vs) :
    ∃ b off cap u, sv = .slice (some ⟨b, off, none⟩) l.length cap ∧ W.cell? ⟨b, off + i * 2, none⟩ = some (.string ⟨l[i].1.toArray⟩) ∧ W.cell? ⟨b, off + i * 2 + 1, none⟩ = some u ∧ RepJ W S l[i].2 u := by
  obtain ⟨u, h1, h2, h3⟩ := repM_get hrep i hi
  obtain ⟨⟨hl1, a, cap, rfl, hca, hcm, hcs⟩, -⟩ := hrow
  obtain ⟨b, off, rfl, hb, hcell⟩ := hcs (by omega)
  have hvl := repM_len hrep
  refine ⟨b, off, cap, u, rfl, ?_, ?_, h3⟩
  · have := hcell (2 * i) (by omega)
    rw [List.getElem?_eq_getElem (by omega)] at h1
    rw [show off + i * 2 = off + 2 * i by omega, this]
    exact h1
  · have := hcell (2 * i + 1) (by omega)
    rw [List.getElem?_eq_getElem (by omega)] at h2
    rw [show off + i * 2 + 1 = off + (2 * i + 1) by omega, this]
    exact h2
set_option maxRecDepth 100000 in
set_option maxHeartbeats 10000000 in
theorem part_obj {B q d k kx : Nat} {S : Nat → Prop} {sv : Value} {l : List (Bs × J)} {vs : List Value} {out : Bs} {bad : Bool} {W : World} (i : Nat) (hi : i < l.length) (hx : WOk l[i].2) (hw : WSt B q out bad W) (hc : CapO B q d k kx sv W) (hT : TabB B W)
    (hrow : RowS W S sv l.length 2 vs) (hrep : RepM W S l vs) (hS : ∀ k, S k → k < B) (hd : d + 1 + (formE l[i]).length ≤ 2199023255552) (hl : out.length + 6 * (formE l[i]).length + 2 ≤ 1099511627776) :
    Calls Tryz.prog 90 #[.int .i64 (i : Int), .pointer (some ⟨k, 0, none⟩), .pointer (some ⟨kx, 0, none⟩), .pointer (some ⟨k + 1, 0, none⟩)] W (WEnd B q W out bad (okWE (d + 1) l[i]) (formE l[i])) := by
  have hvl := repM_len hrep
  obtain ⟨b, off, cap, u, rfl, -, -, -⟩ := mem_cells hi hrow hrep
  have hfe : (formE l[i]).length = (quote l[i].1).length + (formJ l[i].2).length + 1 := by
    rw [formE_eq]
    simp only [List.length_append, List.length_cons]; omega
  have hql := quote_len l[i].1
  have hdr : Below W.heap.size W W.drew := (Below.refl _ _).drew
  have hg := Went.below (q := q) hdr hw.size
  have HM := Lib.hid (fun (W' : World) (hg' : Went B q W W') => (by
    obtain ⟨b', off', cap', u, he, h1, h2, h3⟩ := mem_cells hi (hrow.low hS hg'.1) (hrep.low hS hg'.1)
    cases he
    exact ⟨u, h1, h2, h3⟩ : ∃ u, W'.cell? ⟨b, off + i * 2, none⟩ = some (.string ⟨l[i].1.toArray⟩) ∧ W'.cell? ⟨b, off + i * 2 + 1, none⟩ = some u ∧ RepJ W' S l[i].2 u))
  have HC := Lib.hid (fun (W' : World) (hg' : Went B q W W') => (⟨(hc.to hg'.2).bx.cells, by rw [Lib.cell_of_heap (hc.to hg'.2).bl]; rfl⟩ : ((W'.cell? ⟨k, 0, none⟩ = some (.pointer (some ⟨q, 0, none⟩)) ∧ W'.cell? ⟨k + 1, 0, none⟩ = some (.int .i64 (d : Int))) ∧ W'.frozen? ⟨k, 0, none⟩ = false ∧ W'.frozen? ⟨k + 1, 0, none⟩ = false) ∧ W'.cell? ⟨kx, 0, none⟩ = some (.slice (some ⟨b, off, none⟩) l.length cap)))
  have CT := w_quote B q out bad ⟨l[i].1.toArray⟩ W.drew (hw.keptB hdr) (hT.to hg.1).tabs (by show out.length + 6 * l[i].1.length + 2 ≤ _; omega)
  have CB := Lib.hid (fun (W' : World) (b' : Bool) (hW : WSt B q (out ++ quote l[i].1) b' W') => w_byte B q (out ++ quote l[i].1) b' 58 58 rfl W' hW (by rw [List.length_append]; omega))
  have CV := Lib.hid (fun (W' : World) (b' : Bool) (u : Value) (hW : WSt B q ((out ++ quote l[i].1) ++ [58]) b' W') (hg' : Went B q W W') (hu : RepJ W' S l[i].2 u) => hx (d + 1) B q S u _ b' W' hW (hT.to hg'.1) hu hS (by omega) (by simp only [List.length_append, List.length_singleton]; omega))
  obtain ⟨u0, g0, g1, -⟩ := HM.out W.drew hg
  obtain ⟨⟨⟨c0, c1⟩, f0, f1⟩, c3⟩ := HC.out W.drew hg
  have i1 : (0 : Int) ≤ (i : Int) := by omega
  have i2 : (i : Int) < (l.length : Int) := by omega
  have HG := Lib.hid hg
  have hdl : d ≤ 2199023255552 := by omega
  clear hdr hg hw hc hT hrow hrep hS hl hvl hx hql hd hfe
  go_enter Tryz.func90, Tryz.ntmps90
  go_upto_region 0 with fail
  refine wp_region_tailJ 6 (by kernel_rfl) (by kernel_rfl) ?_
  simp only [List.take_succ_cons, List.take_zero, List.drop_succ_cons, List.drop_zero]
  repeat (go_big_quiet_step (fail))
  refine wpQuiet_nil ?_
  change wpList _ _ _ _ _ W.drew
  go_upto_region 1 with (go_at_call 87; refine CT.mono ?_; rintro e w2 ⟨rfl, hw2, hg2⟩; have H2 := Lib.hid (And.intro hw2 hg2); clear hw2 hg2)
  have hg2 : Went B q W w2 := HG.out.trans H2.out.2
  obtain ⟨⟨⟨c0, c1⟩, f0, f1⟩, c3⟩ := HC.out w2 hg2
  have CB2 := CB.out w2 _ H2.out.1
  have HG2 := Lib.hid hg2
  clear g0 g1 hg2 CT
  go_upto_region 2 with (go_at_call 91; refine CB2.mono ?_; rintro e w3 ⟨rfl, hw3, hg3⟩; have H3 := Lib.hid (And.intro hw3 hg3); clear hw3 hg3)
  have hdr3 : Below w3.heap.size w3 w3.drew := (Below.refl _ _).drew
  have hgd3 := Went.below (q := q) hdr3 H3.out.1.size
  have hg3 : Went B q W w3.drew := HG2.out.trans (H3.out.2.trans hgd3)
  obtain ⟨u, g0, g1, hu⟩ := HM.out w3.drew hg3
  obtain ⟨⟨⟨c0, c1⟩, f0, f1⟩, c3⟩ := HC.out w3.drew hg3
  have CV3 := CV.out w3.drew _ u (H3.out.1.keptB hdr3) hg3 hu
  rw [Int.natCast_add, Int.natCast_one] at CV3
  have HG3 := Lib.hid hg3
  clear hu hdr3 hgd3 hg3 CB2 CB CV HM HC
  refine wp_region_tailJ 8 (by kernel_rfl) (by kernel_rfl) ?_
  simp only [List.take_succ_cons, List.take_zero, List.drop_succ_cons, List.drop_zero]
  repeat (go_big_quiet_step (fail))
  refine wpQuiet_nil ?_
  change wpList _ _ _ _ _ w3.drew
  go_wp2_with (go_at_call 48; refine CV3.mono ?_; rintro e w4 ⟨rfl, o4, b4, h1, h2, h3, h4, h5⟩; have H4 := Lib.hid (And.intro h1 (And.intro h2 (And.intro h3 (And.intro h4 h5)))); clear h1 h2 h3 h4 h5)
  go_end0
  obtain ⟨h1, h2, h3, h4, h5⟩ := H4.out
  refine ⟨rfl, o4, b4, h1, HG3.out.trans h2, ?_, fun e => ?_, ?_⟩
  · rw [h3, okWE_eq]
    cases bad <;> cases Lib.validD l[i].1 <;> cases okW (d + 1) l[i].2 <;> rfl
  · rw [h4 e, formE_eq]; simp
  · rw [formE_eq]
    simp only [List.length_append, List.length_cons, List.length_nil] at h5 ⊢
    omega
end Go.Proofs.YtljnbbdhmlfhjaaGreatDoor
/-
  json.writer: list, of an object.
-/
namespace Go.Proofs.YtljnbbdhmlfhjaaGreatDoor
open Go.RowKit
/-- An object's members so far. -/
structure MIt (B q : Nat) (w : World) (out : Bs) (bad : Bool) (d : Nat) (l : List (Bs × J)) (i : Nat) (W : World) (out' : Bs) (bad' : Bool) : Prop where
  st : WSt B q out' bad' W
  wt : Went B q w W
  fl : bad' = (bad || !okWM d (l.take i))
  eq : bad' = false → out' = out ++ 123 :: formM (l.take i)
  le : out'.length ≤ out.length + 1 + (formM (l.take i)).length
theorem MIt.done {B q d i : Nat} {w W : World} {out out' : Bs} {bad bad' : Bool} {l : List (Bs × J)} (h : MIt B q w out bad d l i W out' bad') (hb : bad' = true) : WEnd B q w out bad (okWM d l) (123 :: (formM l ++ [125])) (.returned (.tuple #[])) W := by
  have h1 := h.fl
  have h2 := formM_take l i
  have h3 := h.le
  refine ⟨rfl, out', bad', h.st, h.wt, ?_, fun e => ?_, ?_⟩
  · rw [hb] at h1 ⊢
    cases bad with
    | true => rfl
    | false =>
      cases hk : okWM d l with
      | false => rfl
      | true => rw [okWM_take d l i hk] at h1; cases h1
  · rw [hb] at e; cases e
  · simp only [List.length_cons, List.length_append, List.length_nil]; omega
theorem MIt.fin {B q d : Nat} {w W W' : World} {out out' : Bs} {bad bad' : Bool} {l : List (Bs × J)} (h : MIt B q w out bad d l l.length W out' bad') (hs : WSt B q (out' ++ [125]) bad' W') (hg : Went B q W W') : WEnd B q w out bad (okWM d l) (123 :: (formM l ++ [125])) (.returned (.tuple #[])) W' := by
  have h1 := h.fl
  have h3 := h.le
  have h4 := h.eq
  rw [List.take_length] at h1 h3 h4
  refine ⟨rfl, _, bad', hs, h.wt.trans hg, h1, fun e => ?_, ?_⟩
  · rw [h4 e]; simp
  · simp only [List.length_cons, List.length_append, List.length_nil]; omega
theorem MIt.next {B q d i : Nat} {w W W' : World} {out out' out1 : Bs} {bad : Bool} {l : List (Bs × J)} (h : MIt B q w out bad d l i W out' false) (hi : i < l.length) (h1 : out1 = out' ++ (if i = 0 then [] else [44])) {out2 : Bs} {bad2 : Bool} (hs : WSt B q out2 bad2 W') (hg : Went B q W W')
    (hb : bad2 = (false || !okWE d l[i])) (he : bad2 = false → out2 = out1 ++ formE l[i]) (hl : out2.length ≤ out1.length + (formE l[i]).length) : MIt B q w out bad d l (i + 1) W' out2 bad2 := by
  have htk : l.take (i + 1) = l.take i ++ [l[i]] := List.take_succ_eq_append_getElem hi
  have h0 : (l.take i = []) ↔ i = 0 := by
    rw [List.take_eq_nil_iff]
    constructor
    · rintro (h | h)
      · exact h
      · rw [h] at hi; cases hi
    · exact .inl
  have hfl := h.fl
  have heq := h.eq rfl
  have hle := h.le
  have hf : formM (l.take (i + 1)) = formM (l.take i) ++ (if i = 0 then [] else [44]) ++ formE l[i] := by
    rw [htk, formM_snoc]
    by_cases hz : i = 0
    · rw [if_pos (h0.2 hz), if_pos hz]
    · rw [if_neg (fun e => hz (h0.1 e)), if_neg hz]
  refine ⟨hs, h.wt.trans hg, ?_, fun e => ?_, ?_⟩
  · rw [hb, htk, okWM_snoc]
    cases bad
    · cases hk : okWM d (l.take i)
      · rw [hk] at hfl; cases hfl
      · simp
    · cases hfl
  · rw [he e, h1, heq, hf]; simp
  · rw [hf, List.length_append, List.length_append]
    rw [h1, List.length_append] at hl
    omega
set_option maxRecDepth 100000 in
set_option maxHeartbeats 20000000 in
theorem list_obj {B q d k kx : Nat} {S : Nat → Prop} {sv : Value} {l : List (Bs × J)} {vs : List Value} {out : Bs} {bad : Bool} {w : World} (hx : ∀ x ∈ l, WOk x.2) (hw : WSt B q out bad w) (hc : CapO B q d k kx sv w) (hT : TabB B w)
    (hrow : RowS w S sv l.length 2 vs) (hrep : RepM w S l vs) (hS : ∀ k, S k → k < B) (hd : d + 1 + (formM l).length ≤ 2199023255552) (hl : out.length + 6 * (formM l).length + 14 ≤ 1099511627776) :
    Calls Tryz.prog 88 #[.pointer (some ⟨q, 0, none⟩), .int .u8 123, .int .u8 125, .int .i64 (l.length : Int), .func (.func 90) #[] #[.pointer (some ⟨k, 0, none⟩), .pointer (some ⟨kx, 0, none⟩), .pointer (some ⟨k + 1, 0, none⟩)]] w (WEnd B q w out bad (okWM (d + 1) l) (123 :: (formM l ++ [125]))) := by
  have C1 := w_byte B q out bad 123 123 rfl w hw (by omega)
  have HP := Lib.hid (fun (i : Nat) (hi : i < l.length) (W : World) (o : Bs) (b : Bool) (hW : WSt B q o b W) (hg : Went B q w W) (ho : o.length + 6 * (formE l[i]).length + 2 ≤ 1099511627776) =>
    part_obj i hi (hx _ (List.getElem_mem hi)) hW (hc.to hg.2) (hT.to hg.1) (hrow.low hS hg.1) (hrep.low hS hg.1) hS (by have := mem_le l i hi; omega) ho)
  have hrl := repM_len hrep
  have hle : l.length ≤ (formM l).length + 1 := by
    have : ∀ m : List (Bs × J), m.length ≤ (formU m).length := by
      intro m
      induction m with
      | nil => exact Nat.le_refl _
      | cons y m ih => simp only [formU, List.length_cons, List.length_append]; omega
    cases l with
    | nil => simp
    | cons y m =>
      have := this m
      simp only [formM, List.length_cons, List.length_append]
      omega
  have hnl : l.length ≤ 1099511627776 := by omega
  have HL := Lib.hid hl
  clear hx hw hc hT hrow hrep hS hrl hle hl
  obtain ⟨n, hn⟩ : ∃ n, l.length = n := ⟨_, rfl⟩
  have HN := Lib.hid hn
  rw [hn] at hnl ⊢
  clear hn
  go_enter Tryz.func88, Tryz.ntmps88
  go_upto_region 2 with (go_at_call 91; refine C1.mono ?_; rintro e w1 ⟨rfl, hw1, hg1⟩; have H1 := Lib.hid (And.intro hw1 hg1); clear hw1 hg1)
  go_loopw [17] (fun iv wr => ∃ (i : Nat) (out' : Bs) (bad' : Bool), iv = .int .i64 i ∧ i ≤ n ∧ MIt B q w out bad (d + 1) l i wr out' bad') (fun iv _ => n - (intOf iv).toNat)
  case atStart => exact ⟨0, _, bad, rfl, by omega, ⟨H1.out.1, H1.out.2, by simp [okWM], fun _ => by simp [formM], by simp⟩⟩
  case round =>
    obtain ⟨i, out', bad', rfl, hi, hlt⟩ := hrel
    obtain ⟨c2, f2⟩ := hlt.st.flag
    have H := Lib.hid hlt
    clear hlt
    by_cases hin : i < n
    · cases bad' with
      | true =>
        clear C1 H1 HP HL
        go_wp2_with fail
        go_end0
        exact H.out.done rfl
      | false =>
        have hil : i < l.length := by rw [HN.out]; exact hin
        have hlen : out'.length + 6 * (formE l[i]).length + 4 ≤ 1099511627776 := by
          have h1 := H.out.le
          have h2 := HL.out
          have htk : l.take (i + 1) = l.take i ++ [l[i]] := List.take_succ_eq_append_getElem hil
          have h3 := formM_take l (i + 1)
          rw [htk, formM_snoc, List.length_append, List.length_append] at h3
          omega
        have HLEN := Lib.hid hlen
        clear hlen C1 H1
        by_cases h0 : i = 0
        · subst h0
          have CP := HP.out 0 hil wr out' false H.out.st H.out.wt (by have := HLEN.out; omega)
          go_wp2_with (go_at_call 90; refine CP.mono ?_; rintro e w2 ⟨rfl, o2, b2, h1, h2, h3, h4, h5⟩; have H2 := Lib.hid (H.out.next hil (by rw [if_pos rfl, List.append_nil]) h1 h2 h3 h4 h5); clear h1 h2 h3 h4 h5)
          go_roundw
          case rel => exact ⟨1, o2, b2, by go_num, by omega, H2.out⟩
          case measure => simp [intOf]; omega
        · have hgt : decide ((0 : Int) < (i : Int)) = true := decide_eq_true (by omega)
          have hgt2 : decide (0 < i) = true := decide_eq_true (by omega)
          have hgt3 : 0 < i := by omega
          have CB := w_byte B q out' false 44 44 rfl wr H.out.st (by have := HLEN.out; omega)
          have HP2 := Lib.hid (fun (W : World) (hW : WSt B q (out' ++ [44]) false W) (hg : Went B q wr W) => HP.out i hil W (out' ++ [44]) false hW (H.out.wt.trans hg) (by have := HLEN.out; rw [List.length_append, List.length_singleton]; omega))
          go_wp2_with (first | (go_at_call 91; refine CB.mono ?_; rintro e w3 ⟨rfl, hw3, hg3⟩; have H3 := Lib.hid (And.intro hw3 hg3); have CP := HP2.out w3 hw3 hg3; clear hw3 hg3) | (go_at_call 90; refine CP.mono ?_; rintro e w2 ⟨rfl, o2, b2, h1, h2, h3, h4, h5⟩; have H2 := Lib.hid (H.out.next hil (by rw [if_neg h0]) h1 (H3.out.2.trans h2) h3 h4 h5); clear h1 h2 h3 h4 h5))
          go_roundw
          case rel => exact ⟨i + 1, o2, b2, by go_num, by omega, H2.out⟩
          case measure => simp [intOf]; omega
    · have hie : i = n := by omega
      have hil : i = l.length := by rw [HN.out]; exact hie
      have hlen : out'.length + 4 ≤ 1099511627776 := by
        have h1 := H.out.le
        have h2 := HL.out
        have h3 := formM_take l i
        omega
      have CB := w_byte B q out' bad' 125 125 rfl wr H.out.st (by omega)
      have HIL := Lib.hid hil
      clear hil hlen HP HL C1 H1
      subst hie
      go_wp2_with (go_at_call 91; refine CB.mono ?_; rintro e w3 ⟨rfl, hw3, hg3⟩; have H3 := Lib.hid (And.intro hw3 hg3); clear hw3 hg3)
      go_end0
      have hh := H.out
      rw [HIL.out] at hh
      exact hh.fin H3.out.1 H3.out.2
end Go.Proofs.YtljnbbdhmlfhjaaGreatDoor
/-
  json.writer: value, of an object; every value.
-/
namespace Go.Proofs.YtljnbbdhmlfhjaaGreatDoor
open Go.RowKit
theorem capO_new {B q d k : Nat} {out : Bs} {bad : Bool} {W : World} (sv : Value) (hw : WSt B q out bad W) (hb : Bx q d k W) :
    CapO B q d k W.heap.size sv (W.alloc (.cells #[sv] 79)) ∧ Below W.heap.size W (W.alloc (.cells #[sv] 79)) := by
  have h1 := belowAJ (o := .cells #[sv] 79) (Below.refl W.heap.size W) (Nat.le_refl _)
  exact ⟨⟨hb.to (KeepW.below h1), heap_alloc_new W _, hw.lt⟩, h1⟩
set_option maxRecDepth 100000 in
set_option maxHeartbeats 20000000 in
theorem wv_obj (l : List (Bs × J)) (hx : ∀ x ∈ l, WOk x.2) : WOk (.obj l) := by
  intro d B q S v out bad w hw hT hr hS hd hl
  obtain ⟨sv, vs, rfl, hrow, hrep⟩ := hr
  obtain ⟨⟨hl1, a, cap, rfl, hca, hcm, hcs⟩, hSb⟩ := hrow
  have hrow : RowS w S (.slice a l.length cap) l.length 2 vs := ⟨⟨hl1, a, cap, rfl, hca, hcm, hcs⟩, hSb⟩
  have H0 := Lib.hid (w1_new (d := d) hw hT)
  have hl2 : out.length + 6 * (formM l).length + 14 ≤ 1099511627776 := by
    have : (formJ (.obj l)).length = (formM l).length + 2 := by simp [formJ]
    omega
  have hd2 : d + 1 + (formM l).length ≤ 2199023255552 := by
    have : (formJ (.obj l)).length = (formM l).length + 2 := by simp [formJ]
    omega
  have a1 : ∀ W, (Instr.typeAssert (.iface 79 (.slice a l.length cap)) 20 4 true).run Tryz.prog W = .ok (.tuple #[.bool false, .bool false]) W := fun W => by kernel_rfl
  have a2 : ∀ W, (Instr.typeAssert (.iface 79 (.slice a l.length cap)) 20 95 true).run Tryz.prog W = .ok (.tuple #[.string ⟨#[]⟩, .bool false]) W := fun W => by kernel_rfl
  have a3 : ∀ W, (Instr.typeAssert (.iface 79 (.slice a l.length cap)) 20 9 true).run Tryz.prog W = .ok (.tuple #[.string ⟨#[]⟩, .bool false]) W := fun W => by kernel_rfl
  have a4 : ∀ W, (Instr.typeAssert (.iface 79 (.slice a l.length cap)) 20 42 true).run Tryz.prog W = .ok (.tuple #[.slice none 0 0, .bool false]) W := fun W => by kernel_rfl
  have a5 : ∀ W, (Instr.typeAssert (.iface 79 (.slice a l.length cap)) 20 79 true).run Tryz.prog W = .ok (.tuple #[.slice a l.length cap, .bool true]) W := fun W => by kernel_rfl
  have CL := Lib.hid (fun (W : World) (k kx : Nat) (b : Bool) (hW : WSt B q out b W) (hc : CapO B q d k kx (.slice a l.length cap) W) (hg : Went B q w W) => list_obj (l := l) (vs := vs) (S := S) hx hW hc (hT.to hg.1) (hrow.low hS hg.1) (hrep.low hS hg.1) hS hd2 hl2)
  obtain ⟨n, hn⟩ : ∃ n, l.length = n := ⟨_, rfl⟩
  rw [hn] at a1 a2 a3 a4 a5 CL ⊢
  clear hw hT hrow hrep hS hSb hcs hl1 hl hx hca hcm hl2 hn hd2
  have hmf : ∀ (fn : Fn) (first cap : Array Value) (w : World), (Instr.makeFunc fn first cap).run Tryz.prog w = .ok (.func fn first cap) w := fun _ _ _ _ => rfl
  go_enter Tryz.func48, Tryz.ntmps48
  go_upto_region 22 with fail
  generalize ((w.alloc (.cells #[.pointer (some ⟨q, 0, none⟩)] 102)).alloc (.cells #[.int .i64 (d : Int)] 3)) = W at *
  go_upto_region 23 with fail
  obtain ⟨hcap, hbw⟩ := capO_new (.slice a n cap) H0.out.st H0.out.bx
  have hgw := Went.below (q := q) hbw H0.out.st.size
  have H1 := Lib.hid (And.intro (H0.out.to (H0.out.st.keptB hbw) hgw) hcap)
  clear hcap hbw hgw
  generalize (W.alloc (.cells #[.slice a n cap] 79)) = W2 at *
  have hdr : Below W2.heap.size W2 W2.drew := (Below.refl _ _).drew
  have hgd := Went.below (q := q) hdr H1.out.1.st.size
  have H2 := Lib.hid (And.intro (H1.out.1.to (H1.out.1.st.keptB hdr) hgd) (H1.out.2.to hgd.2))
  have HGD := Lib.hid hgd
  obtain ⟨⟨c0, c1⟩, f0, f1⟩ := H2.out.1.bx.cells
  obtain ⟨c2, f2⟩ := H2.out.1.st.flag
  have hdl : d ≤ 2199023255552 := by omega
  clear hdr hgd
  go_cut [] from 87 to 97 (fun wx => WSt B q out (bad || decide (16 ≤ d)) wx ∧ Went B q W2 wx)
  case first =>
    have HSB := Lib.hid (fun b => H2.out.1.st.setBad b)
    clear CL
    cases bad with
    | true =>
      refine wp_region_tailJ 11 (by kernel_rfl) (by kernel_rfl) ?_
      simp only [List.take_succ_cons, List.take_zero, List.drop_succ_cons, List.drop_zero]
      repeat (go_big_quiet_step (fail))
      refine wpQuiet_nil ?_
      change wpList _ _ _ _ _ W2.drew
      go_wp2_with fail
      go_meet
      exact ⟨(HSB.out true).1, HGD.out.trans (HSB.out true).2⟩
    | false =>
      obtain ⟨X, hX⟩ : ∃ X, decide (16 ≤ d) = X := ⟨_, rfl⟩
      have hX2 : decide ((16 : Int) ≤ (d : Int)) = X := by rw [← hX]; apply decide_eq_decide.2; omega
      have HXX := Lib.hid hX
      clear hX
      refine wp_region_tailJ 11 (by kernel_rfl) (by kernel_rfl) ?_
      simp only [List.take_succ_cons, List.take_zero, List.drop_succ_cons, List.drop_zero]
      repeat (go_big_quiet_step (fail))
      refine wpQuiet_nil ?_
      change wpList _ _ _ _ _ W2.drew
      go_wp2_with fail
      go_meet
      rw [HXX.out, Bool.false_or]
      exact ⟨(HSB.out X).1, HGD.out.trans (HSB.out X).2⟩
  case rest =>
    have H3 := Lib.hid (And.intro (H1.out.1.to hcut.1 hcut.2) (H1.out.2.to hcut.2.2))
    clear c0 c1 f0 f1 c2 f2 hcut H2 HGD
    obtain ⟨⟨c0, c1⟩, f0, f1⟩ := H3.out.1.bx.cells
    have c3 : wc.cell? ⟨W.heap.size, 0, none⟩ = some (.slice a n cap) := by rw [Lib.cell_of_heap H3.out.2.bl]; rfl
    have C1 := CL.out wc w.heap.size W.heap.size _ H3.out.1.st H3.out.2 H3.out.1.wt
    clear CL
    go_wp2_with (go_at_call 88; refine C1.mono ?_; rintro e w2 ⟨rfl, o2, b2, h1, h2, h3, h4, h5⟩; have HE := Lib.hid (And.intro h1 (And.intro h2 (And.intro h3 (And.intro h4 h5)))); clear h1 h2 h3 h4 h5)
    go_end0
    obtain ⟨h1, h2, h3, h4, h5⟩ := HE.out
    refine ⟨rfl, o2, b2, h1, H3.out.1.wt.trans h2, ?_, h4, h5⟩
    rw [h3]
    simp only [okW]
    have e1 : decide (d < 16) = !decide (16 ≤ d) := by
      by_cases h : 16 ≤ d
      · rw [decide_eq_true h, decide_eq_false (by omega)]; rfl
      · rw [decide_eq_false h, decide_eq_true (by omega)]; rfl
    rw [e1]
    cases bad <;> cases decide (16 ≤ d) <;> cases okWM (d + 1) l <;> rfl
end Go.Proofs.YtljnbbdhmlfhjaaGreatDoor
/-
  json.Write.
-/
namespace Go.Proofs.YtljnbbdhmlfhjaaGreatDoor
open Go.RowKit
mutual
/-- Its numbers are numbers. -/
def numsJ : J → Prop
  | .nul => True
  | .bool _ => True
  | .num s => NumS s
  | .str _ => True
  | .arr l => numsL l
  | .obj l => numsM l
def numsL : List J → Prop
  | [] => True
  | x :: l => numsJ x ∧ numsL l
def numsM : List (Bs × J) → Prop
  | [] => True
  | x :: l => numsE x ∧ numsM l
def numsE : Bs × J → Prop
  | (_, x) => numsJ x
end
mutual
theorem w_value : ∀ (j : J), numsJ j → WOk j
  | .nul, _ => wv_nul
  | .bool b, _ => wv_bool b
  | .num s, h => wv_num s h
  | .str s, _ => wv_str s
  | .arr l, h => wv_arr l (w_values l h)
  | .obj l, h => wv_obj l (w_members l h)
theorem w_values : ∀ (l : List J), numsL l → ∀ x ∈ l, WOk x
  | [], _, x, hx => by simp at hx
  | y :: l, h, x, hx => by
    rcases List.mem_cons.1 hx with e | hx
    · rw [e]; exact w_value y h.1
    · exact w_values l h.2 x hx
theorem w_members : ∀ (l : List (Bs × J)), numsM l → ∀ x ∈ l, WOk x.2
  | [], _, x, hx => by simp at hx
  | (n, y) :: l, h, x, hx => by
    rcases List.mem_cons.1 hx with e | hx
    · rw [e]; exact w_value y h.1
    · exact w_members l h.2 x hx
end
theorem form_ne (j : J) (h : numsJ j) : formJ j ≠ [] := by
  cases j with
  | nul => simp [formJ, nullB]
  | bool b => cases b <;> simp [formJ, trueB, falseB]
  | str s => simp [formJ, quote]
  | arr l => simp [formJ]
  | obj l => simp [formJ]
  | num s =>
    obtain ⟨c, r, rfl, -⟩ := num_head h
    simp [formJ]
theorem wst_new (w : World) : WSt w.heap.size w.heap.size [] false (w.alloc (.cells #[.pointer none, .slice none 0 0, .bool false] 107)) :=
  ⟨.pointer none, .slice none 0 0, .inl rfl, Nat.le_refl _, heap_alloc_new w _, World.ownsRow_nil _ _ _ _, by simp [Value.ownBlock]⟩
/-- What Write leaves. -/
def Written (w : World) (j : J) (e : Ending) (w' : World) : Prop :=
  Below w.heap.size w w' ∧ (if okW 0 j = true then ∃ v, e = .returned (.tuple #[v, .int .i64 0]) ∧ argRow w' v (formJ j).length 1 ((formJ j).map bCell) else e = .returned (.tuple #[.slice none 0 0, .int .i64 1]))
set_option maxRecDepth 100000 in
set_option maxHeartbeats 10000000 in
theorem js_Write (j : J) (hn : numsJ j) (S : Nat → Prop) (v : Value) (w : World) (hT : Tabs w) (hr : RepJ w S j v) (hS : ∀ k, S k → k < w.heap.size) (hl : 6 * (formJ j).length + 2 ≤ 1099511627776) :
    Calls Tryz.prog 22 #[v] w (Written w j) := by
  have hb1 := belowAJ (o := .cells #[.pointer none, .slice none 0 0, .bool false] 107) (Below.refl w.heap.size w) (Nat.le_refl _)
  have hw1 := wst_new w
  have CV := w_value j hn 0 w.heap.size w.heap.size S v [] false _ hw1 ⟨w, hT, rfl, hb1⟩ (hr.low hS hb1) hS (by omega) (by simp only [List.length_nil]; omega)
  have hne := form_ne j hn
  have HB1 := Lib.hid hb1
  obtain ⟨F, hF⟩ : ∃ F, formJ j = F := ⟨_, rfl⟩
  have hfl : F.length ≤ 1099511627776 := by rw [← hF]; omega
  have HF := Lib.hid hF
  rw [hF] at CV hne
  have HNE := Lib.hid hne
  clear hT hr hS hl hw1 hb1 hn hF hne
  cases hok : okW 0 j with
  | false =>
    rw [hok] at CV
    have HOK := Lib.hid hok
    clear hok
    go_enter Tryz.func22, Tryz.ntmps22
    go_upto_region 3 with (go_at_call 48; refine CV.mono ?_; rintro e w2 ⟨rfl, o2, b2, h1, h2, h3, h4, h5⟩; have H2 := Lib.hid (And.intro h1 h2); have hb2 : b2 = true := h3; clear h1 h2 h3 h4 h5)
    subst hb2
    obtain ⟨c2, f2⟩ := H2.out.1.flag
    go_wp2
    go_ret2
    refine ⟨HB1.out.trans H2.out.2.1, ?_⟩
    rw [if_neg (by rw [HOK.out]; exact Bool.false_ne_true)]
    rfl
  | true =>
    rw [hok] at CV
    have HOK := Lib.hid hok
    clear hok
    go_enter Tryz.func22, Tryz.ntmps22
    go_upto_region 3 with (go_at_call 48; refine CV.mono ?_; rintro e w2 ⟨rfl, o2, b2, h1, h2, h3, h4, h5⟩; have hb2 : b2 = false := h3; have ho2 : o2 = F := h4 hb2; have H2 := Lib.hid (And.intro h1 h2); clear h1 h2 h3 h4 h5)
    subst hb2
    subst ho2
    obtain ⟨c2, f2⟩ := H2.out.1.flag
    have CS := w_text w.heap.size w.heap.size o2 false w2 H2.out.1 HNE.out
    have HCV := Lib.hid (fun W => conv_bytesJ (src := 9) Tryz.underlying9 ⟨o2.toArray⟩ (by show o2.length ≤ _; omega) W)
    clear CV
    go_wp2_with (go_at_call 49; refine CS.mono ?_; rintro e w3 ⟨rfl, hb3⟩; obtain ⟨va, vc, W1, hcv, hrow, hbc⟩ := HCV.out w3; have H3 := Lib.hid (And.intro hb3 (And.intro hrow hbc)); clear hb3 hrow hbc)
    go_ret2
    obtain ⟨hb3, hrow, hbc⟩ := H3.out
    have hsz := hb3.size
    have hs2 := H2.out.1.size
    refine ⟨(HB1.out.trans H2.out.2.1).trans (hb3.trans (hbc.mono (by omega))), ?_⟩
    rw [if_pos HOK.out, HF.out]
    refine ⟨_, rfl, ?_⟩
    exact hrow
end Go.Proofs.YtljnbbdhmlfhjaaGreatDoor
