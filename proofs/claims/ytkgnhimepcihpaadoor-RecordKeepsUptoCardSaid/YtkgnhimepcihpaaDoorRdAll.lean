/-
  record's reader: number, count.
-/
import Derived.Test.YtkgnhimepcihpaaDoorRecAll
import Derived.Deep.QuietTactic
import Derived.BigQuiet
namespace Go.Proofs.YtkgnhimepcihpaaDoor
open Go.RowKit
theorem grown_set (w : World) (b j : Nat) (v : Value) : w.grownBy (w.setCell ⟨b, j, none⟩ v) (some b) :=
  ⟨rfl, rfl, rfl, by simp, fun k hk h => Below.heap_setCell _ _ _ _ (fun e => h (by rw [e]))⟩
theorem grown_trans {w w1 w2 : World} {row : Option Nat} (h1 : w.grownBy w1 row) (h2 : w1.grownBy w2 row) : w.grownBy w2 row :=
  ⟨by rw [h2.os, h1.os], by rw [h2.tape, h1.tape], by rw [h2.output, h1.output], Nat.le_trans h1.size h2.size, fun k hk h => by rw [h2.block k (Nat.lt_of_lt_of_le hk h1.size) h, h1.block k hk h]⟩
/-- A reader over bytes that came in, at a place, with a fault. -/
structure Rd (w0 : World) (v : Value) (b : List UInt8) (g : Nat) (w : World) (at' : Nat) (e : Int) : Prop where
  below : Below w0.heap.size w0 w
  ge : w0.heap.size ≤ g
  own : w.heap[g]? = some (.cells #[v, .int .i64 (at' : Int), .int .i64 e] 63 (0, 0))
  le : at' ≤ b.length
theorem Rd.lt {w0 w : World} {v : Value} {b : List UInt8} {g at' : Nat} {e : Int} (h : Rd w0 v b g w at' e) : g < w.heap.size := (Array.getElem?_eq_some_iff.1 h.own).1
theorem Rd.kept {w0 w w' : World} {v : Value} {b : List UInt8} {g at' : Nat} {e : Int} {row : Option Nat} (h : Rd w0 v b g w at' e) (hg : w.grownBy w' row) (hr : ∀ k, row = some k → w0.heap.size ≤ k ∧ k ≠ g) : Rd w0 v b g w' at' e :=
  ⟨h.below.grown hg h.below.size (fun k hk => (hr k hk).1), h.ge, by rw [hg.block g h.lt (fun e => (hr g e.symm).2 rfl)]; exact h.own, h.le⟩
theorem Rd.keptB {w0 w w' : World} {v : Value} {b : List UInt8} {g at' : Nat} {e : Int} (h : Rd w0 v b g w at' e) (hb : Below w.heap.size w w') : Rd w0 v b g w' at' e :=
  h.kept (grown_of_below hb none) (fun k hk => by cases hk)
/-- One of its cells turned. -/
theorem Rd.set1 {w0 w : World} {v : Value} {b : List UInt8} {g at' : Nat} {e : Int} (h : Rd w0 v b g w at' e) (n : Nat) (hn : n ≤ b.length) : Rd w0 v b g (w.setCell ⟨g, 1, none⟩ (.int .i64 (n : Int))) n e :=
  ⟨h.below.setCell (p := ⟨g, 1, none⟩) h.ge _, h.ge, by rw [heap_setCell_same _ _ _ _ _ _ h.own]; rfl, hn⟩
theorem Rd.set2 {w0 w : World} {v : Value} {b : List UInt8} {g at' : Nat} {e : Int} (h : Rd w0 v b g w at' e) (n : Int) : Rd w0 v b g (w.setCell ⟨g, 2, none⟩ (.int .i64 n)) at' n :=
  ⟨h.below.setCell (p := ⟨g, 2, none⟩) h.ge _, h.ge, by rw [heap_setCell_same _ _ _ _ _ _ h.own]; rfl, h.le⟩
theorem Rd.cells {w0 w : World} {v : Value} {b : List UInt8} {g at' : Nat} {e : Int} (h : Rd w0 v b g w at' e) : w.cell? ⟨g, 0, none⟩ = some v ∧ w.cell? ⟨g, 1, none⟩ = some (.int .i64 (at' : Int)) ∧ w.cell? ⟨g, 2, none⟩ = some (.int .i64 e) ∧ w.frozen? ⟨g, 1, none⟩ = false ∧ w.frozen? ⟨g, 2, none⟩ = false :=
  ⟨by rw [Lib.cell_of_heap h.own]; rfl, by rw [Lib.cell_of_heap h.own]; rfl, by rw [Lib.cell_of_heap h.own]; rfl, Lib.frozen_of_heap h.own 1, Lib.frozen_of_heap h.own 2⟩
/-- The same, at whatever place. -/
structure RdZ (w0 : World) (v : Value) (b : List UInt8) (g : Nat) (w : World) (z : Int) (e : Int) : Prop where
  below : Below w0.heap.size w0 w
  ge : w0.heap.size ≤ g
  own : w.heap[g]? = some (.cells #[v, .int .i64 z, .int .i64 e] 63 (0, 0))
theorem RdZ.of {w0 w : World} {v : Value} {b : List UInt8} {g at' : Nat} {e : Int} (h : Rd w0 v b g w at' e) : RdZ w0 v b g w (at' : Int) e := ⟨h.below, h.ge, h.own⟩
theorem RdZ.lt {w0 w : World} {v : Value} {b : List UInt8} {g : Nat} {z e : Int} (h : RdZ w0 v b g w z e) : g < w.heap.size := (Array.getElem?_eq_some_iff.1 h.own).1
theorem RdZ.kept {w0 w w' : World} {v : Value} {b : List UInt8} {g : Nat} {z e : Int} {row : Option Nat} (h : RdZ w0 v b g w z e) (hg : w.grownBy w' row) (hr : ∀ k, row = some k → w0.heap.size ≤ k ∧ k ≠ g) : RdZ w0 v b g w' z e :=
  ⟨h.below.grown hg h.below.size (fun k hk => (hr k hk).1), h.ge, by rw [hg.block g h.lt (fun e => (hr g e.symm).2 rfl)]; exact h.own⟩
theorem RdZ.keptB {w0 w w' : World} {v : Value} {b : List UInt8} {g : Nat} {z e : Int} (h : RdZ w0 v b g w z e) (hb : Below w.heap.size w w') : RdZ w0 v b g w' z e :=
  h.kept (grown_of_below hb none) (fun k hk => by cases hk)
theorem RdZ.set2 {w0 w : World} {v : Value} {b : List UInt8} {g : Nat} {z e : Int} (h : RdZ w0 v b g w z e) (n : Int) : RdZ w0 v b g (w.setCell ⟨g, 2, none⟩ (.int .i64 n)) z n :=
  ⟨h.below.setCell (p := ⟨g, 2, none⟩) h.ge _, h.ge, by rw [heap_setCell_same _ _ _ _ _ _ h.own]; rfl⟩
theorem RdZ.cells {w0 w : World} {v : Value} {b : List UInt8} {g : Nat} {z e : Int} (h : RdZ w0 v b g w z e) : w.cell? ⟨g, 0, none⟩ = some v ∧ w.cell? ⟨g, 1, none⟩ = some (.int .i64 z) ∧ w.cell? ⟨g, 2, none⟩ = some (.int .i64 e) ∧ w.frozen? ⟨g, 1, none⟩ = false ∧ w.frozen? ⟨g, 2, none⟩ = false :=
  ⟨by rw [Lib.cell_of_heap h.own]; rfl, by rw [Lib.cell_of_heap h.own]; rfl, by rw [Lib.cell_of_heap h.own]; rfl, Lib.frozen_of_heap h.own 1, Lib.frozen_of_heap h.own 2⟩
theorem vget_ok {b : List UInt8} {at' n c : Nat} (hle : at' ≤ b.length) (h : num (b.drop at') = .ok (n, c)) : vget b (at' : Int) = (0, n, at' + c) ∧ at' + c ≤ b.length := by
  have hl := num_reads.len h
  rw [List.length_drop] at hl
  refine ⟨?_, by omega⟩
  unfold num at h
  split at h
  · rename_i h0
    obtain ⟨h1, h2⟩ := Prod.mk.inj (Except.ok.inj h)
    unfold vget
    rw [if_neg (by omega), Int.toNat_natCast, if_pos h0, h1, h2]
  · cases h
theorem vget_err {b : List UInt8} {at' : Nat} {E : Int} (hle : at' ≤ b.length) (h : num (b.drop at') = .error E) : vget b (at' : Int) = (E, 0, 0) ∧ E ≠ 0 := by
  unfold num at h
  split at h
  · cases h
  · rename_i h0
    have h1 := Except.error.inj h
    unfold vget
    rw [if_neg (by omega), Int.toNat_natCast, if_neg h0, h1]
    exact ⟨rfl, by rw [← h1]; exact h0⟩
/-- What a reader's call has left: no fault, a value, a place further on; or a fault. -/
def After (w0 : World) (v : Value) (b : List UInt8) (g : Nat) (w w' : World) {α : Type} (x : Except Int (α × Nat)) (at' : Nat) (good : α → Prop) : Prop := w.grownBy w' (some g) ∧ match x with
  | .ok (y, c) => good y ∧ Rd w0 v b g w' (at' + c) 0
  | .error E => E ≠ 0 ∧ ∃ up, Rd w0 v b g w' up E
set_option maxRecDepth 100000 in
set_option maxHeartbeats 4000000 in
theorem rd_number (w0 : World) (v : Value) (b : List UInt8) (g : Nat) (w : World) (at' : Nat) (hrow : argRow w0 v b.length 1 (Lib.byteCells b)) (hl : b.length ≤ 1099511627776) (h : Rd w0 v b g w at' 0) :
    Calls Tryd.prog 69 #[.pointer (some ⟨g, 0, none⟩)] w fun en w' => ∃ n : Nat, en = .returned (.int .u64 (n : Int)) ∧ After w0 v b g w w' (num (b.drop at')) at' (fun y => y = n) ∧ (∀ E, num (b.drop at') = .error E → n = 0) := by
  have HRW := Lib.hid hrow
  obtain ⟨aa, ca, rfl⟩ : ∃ a c, v = .slice a b.length c := by
    obtain ⟨_, a, c, e, _⟩ := hrow
    exact ⟨a, c, e⟩
  clear hrow
  have hle := h.le
  have CG := Lib.hid (fun W (hW : Below w0.heap.size w0 W) => var_Get _ b (at' : Int) W (argRow_below HRW.out hW) hl (by omega) (by omega))
  obtain ⟨c0, c1, c2, f1, f2⟩ := h.cells
  have hS : ∀ W, Below w.heap.size w W → W.cell? ⟨g, 0, none⟩ = some (.slice aa b.length ca) ∧ W.cell? ⟨g, 1, none⟩ = some (.int .i64 (at' : Int)) ∧ Below w.heap.size w W := fun W hW => ⟨(h.keptB hW).cells.1, (h.keptB hW).cells.2.1, hW⟩
  have HS := Lib.hid hS
  have hbd : Below w.heap.size w w.drew := (Below.refl _ _).drew
  have hb0 : Below w0.heap.size w0 w.drew := h.below.drew
  cases hn : num (b.drop at') with
  | ok z =>
    obtain ⟨n, c⟩ := z
    obtain ⟨hv, hac⟩ := vget_ok hle hn
    rw [hv] at CG
    have H := Lib.hid h
    clear h hS hn hv
    simp only at CG
    obtain ⟨up, hup⟩ : ∃ u, at' + c = u := ⟨_, rfl⟩
    rw [hup] at CG hac
    have HUP := Lib.hid hup
    clear hup
    refine Calls.mono (R := fun en w' => en = .returned (.int .u64 (n : Int)) ∧ (w.grownBy w' (some g) ∧ Rd w0 (.slice aa b.length ca) b g w' up 0)) ?_ ?_
    · go_enter Tryd.func69, Tryd.ntmps69
      go_upto_region 3 with fail
      go_region_held3 (fun W => W.cell? ⟨g, 0, none⟩ = some (.slice aa b.length ca) ∧ W.cell? ⟨g, 1, none⟩ = some (.int .i64 (at' : Int)) ∧ Below w.heap.size w W)
        (first | exact HS.out _ (by assumption))
        (first | (go_at_call 82; refine (CG.out _ hb0).mono ?_; rintro e wn ⟨rfl, hbn⟩; have hbn2 := below_seq hbd hbn))
      all_goals
        have hr := H.out.keptB hbn2
        obtain ⟨d0, d1, d2, e1, e2⟩ := hr.cells
        go_wp2
        go_ret
        refine ⟨rfl, grown_trans (grown_trans (grown_of_below hbn2 _) (grown_set _ _ _ _)) (grown_set _ _ _ _), (hr.set2 0).set1 up hac⟩
    · rintro e w' ⟨rfl, hg, hr⟩
      have hup := HUP.out
      subst hup
      exact ⟨n, rfl, ⟨hg, rfl, hr⟩, fun E (h : (Except.ok (n, c) : Except Int (Nat × Nat)) = .error E) => (by cases h)⟩
  | error E =>
    obtain ⟨hv, hE⟩ := vget_err hle hn
    rw [hv] at CG
    have H := Lib.hid h
    clear h hS hn hv
    simp only at CG
    have hE' : (E == 0) = false := by simpa using hE
    have HE := Lib.hid hE
    clear hE
    refine Calls.mono (R := fun en w' => en = .returned (.int .u64 0) ∧ (w.grownBy w' (some g) ∧ Rd w0 (.slice aa b.length ca) b g w' at' E)) ?_ ?_
    · go_enter Tryd.func69, Tryd.ntmps69
      go_upto_region 3 with fail
      go_region_held3 (fun W => W.cell? ⟨g, 0, none⟩ = some (.slice aa b.length ca) ∧ W.cell? ⟨g, 1, none⟩ = some (.int .i64 (at' : Int)) ∧ Below w.heap.size w W)
        (first | exact HS.out _ (by assumption))
        (first | (go_at_call 82; refine (CG.out _ hb0).mono ?_; rintro e wn ⟨rfl, hbn⟩; have hbn2 := below_seq hbd hbn))
      all_goals
        have hr := H.out.keptB hbn2
        obtain ⟨d0, d1, d2, e1, e2⟩ := hr.cells
        go_wp2
        go_ret
        refine ⟨by first | rfl | simp, grown_trans (grown_of_below hbn2 _) (grown_set _ _ _ _), hr.set2 E⟩
    · rintro e w' ⟨rfl, hg, hr⟩
      exact ⟨0, rfl, ⟨hg, HE.out, at', hr⟩, fun _ _ => rfl⟩
set_option maxRecDepth 100000 in
set_option maxHeartbeats 4000000 in
theorem rd_number_bad (w0 : World) (v : Value) (b : List UInt8) (g : Nat) (w : World) (at' : Int) (E : Int) (hE : E ≠ 0) (h : RdZ w0 v b g w at' E) :
    Calls Tryd.prog 69 #[.pointer (some ⟨g, 0, none⟩)] w fun en w' => en = .returned (.int .u64 0) ∧ w = w' := by
  obtain ⟨c0, c1, c2, f1, f2⟩ := h.cells
  have hE' : (E != 0) = true := by simpa using hE
  clear hE
  go_enter Tryd.func69, Tryd.ntmps69
  go_wp2
  go_ret
  exact ⟨rfl, rfl⟩
set_option maxRecDepth 100000 in
set_option maxHeartbeats 4000000 in
theorem rd_number_out (w0 : World) (v : Value) (b : List UInt8) (g : Nat) (w : World) (z : Int) (hz : z < 0 ∨ (b.length : Int) < z) (h1 : -9223372036854775808 ≤ z) (h2 : z ≤ 9223372036854775807) (hrow : argRow w0 v b.length 1 (Lib.byteCells b)) (hl : b.length ≤ 1099511627776) (h : RdZ w0 v b g w z 0) :
    Calls Tryd.prog 69 #[.pointer (some ⟨g, 0, none⟩)] w fun en w' => en = .returned (.int .u64 0) ∧ w.grownBy w' (some g) ∧ RdZ w0 v b g w' z 1 := by
  have HRW := Lib.hid hrow
  obtain ⟨aa, ca, rfl⟩ : ∃ a c, v = .slice a b.length c := by
    obtain ⟨_, a, c, e, _⟩ := hrow
    exact ⟨a, c, e⟩
  clear hrow
  have CG := Lib.hid (fun W (hW : Below w0.heap.size w0 W) => var_Get _ b z W (argRow_below HRW.out hW) hl h1 h2)
  rw [show vget b z = (1, 0, 0) from by unfold vget; rw [if_pos hz]] at CG
  obtain ⟨c0, c1, c2, f1, f2⟩ := h.cells
  have hS : ∀ W, Below w.heap.size w W → W.cell? ⟨g, 0, none⟩ = some (.slice aa b.length ca) ∧ W.cell? ⟨g, 1, none⟩ = some (.int .i64 z) ∧ Below w.heap.size w W := fun W hW => ⟨(h.keptB hW).cells.1, (h.keptB hW).cells.2.1, hW⟩
  have HS := Lib.hid hS
  have hbd : Below w.heap.size w w.drew := (Below.refl _ _).drew
  have hb0 : Below w0.heap.size w0 w.drew := h.below.drew
  have H := Lib.hid h
  clear h hS hz h1 h2
  simp only at CG
  go_enter Tryd.func69, Tryd.ntmps69
  go_upto_region 3 with fail
  go_region_held3 (fun W => W.cell? ⟨g, 0, none⟩ = some (.slice aa b.length ca) ∧ W.cell? ⟨g, 1, none⟩ = some (.int .i64 z) ∧ Below w.heap.size w W)
    (first | exact HS.out _ (by assumption))
    (first | (go_at_call 82; refine (CG.out _ hb0).mono ?_; rintro e wn ⟨rfl, hbn⟩; have hbn2 := below_seq hbd hbn))
  all_goals
    have hr := H.out.keptB hbn2
    obtain ⟨d0, d1, d2, e1, e2⟩ := hr.cells
    go_wp2
    go_ret
    exact ⟨by first | rfl | simp, grown_trans (grown_of_below hbn2 _) (grown_set _ _ _ _), hr.set2 1⟩
end Go.Proofs.YtkgnhimepcihpaaDoor
/-
  record's reader: text, count.
-/
namespace Go.Proofs.YtkgnhimepcihpaaDoor
open Go.RowKit
theorem After.mono {w0 : World} {v : Value} {b : List UInt8} {g : Nat} {w w' : World} {α : Type} {x : Except Int (α × Nat)} {at' : Nat} {P Q : α → Prop} (h : After w0 v b g w w' x at' P) (k : ∀ y, P y → Q y) : After w0 v b g w w' x at' Q := by
  refine ⟨h.1, ?_⟩
  have := h.2
  cases x with
  | ok z => exact ⟨k _ this.1, this.2⟩
  | error E => exact this
set_option maxRecDepth 100000 in
set_option maxHeartbeats 4000000 in
theorem rd_count_bad (w0 : World) (v : Value) (b : List UInt8) (g : Nat) (w : World) (at' : Int) (m : Int) (E : Int) (hE : E ≠ 0) (h : RdZ w0 v b g w at' E) :
    Calls Tryd.prog 42 #[.pointer (some ⟨g, 0, none⟩), .int .u64 m] w fun en w' => en = .returned (.int .i64 0) ∧ w = w' := by
  obtain ⟨c0, c1, c2, f1, f2⟩ := h.cells
  have CN := Lib.hid (rd_number_bad w0 v b g w at' E hE h)
  have hE' : (E != 0) = true := by simpa using hE
  have hE2 : (E == 0) = false := by simpa using hE
  clear hE
  go_enter Tryd.func42, Tryd.ntmps42
  go_wp2_with (go_at_call 69; refine CN.out.mono ?_; rintro e w1 ⟨rfl, rfl⟩)
  go_ret
  exact ⟨rfl, rfl⟩
set_option maxRecDepth 100000 in
set_option maxHeartbeats 4000000 in
theorem rd_text_bad (w0 : World) (v : Value) (b : List UInt8) (g : Nat) (w : World) (at' : Int) (E : Int) (hE : E ≠ 0) (h : RdZ w0 v b g w at' E) :
    Calls Tryd.prog 70 #[.pointer (some ⟨g, 0, none⟩)] w fun en w' => en = .returned (.string ⟨#[]⟩) ∧ Below w.heap.size w w' := by
  obtain ⟨c0, c1, c2, f1, f2⟩ := h.cells
  have CN := Lib.hid (rd_number_bad w0 v b g w at' E hE h)
  have hE' : (E != 0) = true := by simpa using hE
  have hE2 : (E == 0) = false := by simpa using hE
  clear hE
  go_enter Tryd.func70, Tryd.ntmps70
  go_upto_region 2 with (go_at_call 69; refine CN.out.mono ?_; rintro e w1 ⟨rfl, rfl⟩)
  go_quiet (fail)
  go_wp2
  go_ret
  exact ⟨rfl, by first | exact (Below.refl _ _).drew | exact below_drewN (Below.refl _ _) _⟩
def cntN (most : Nat) : Rdr Nat := fun T => match num T with
  | .error e => .error e
  | .ok (n, c) => if most < n then .error 3 else .ok (n, c)
set_option maxRecDepth 100000 in
set_option maxHeartbeats 4000000 in
theorem rd_count (w0 : World) (v : Value) (b : List UInt8) (g : Nat) (w : World) (at' : Nat) (m : Nat) (hm : m ≤ 65536) (hrow : argRow w0 v b.length 1 (Lib.byteCells b)) (hl : b.length ≤ 1099511627776) (h : Rd w0 v b g w at' 0) :
    Calls Tryd.prog 42 #[.pointer (some ⟨g, 0, none⟩), .int .u64 (m : Int)] w fun en w' => ∃ n : Nat, en = .returned (.int .i64 (n : Int)) ∧ n ≤ m ∧ (∀ E, cntN m (b.drop at') = .error E → n = 0) ∧ After w0 v b g w w' (cntN m (b.drop at')) at' (fun y => y = n) := by
  have CN := Lib.hid (rd_number w0 v b g w at' hrow hl h)
  clear hrow
  have hun : cntN m (b.drop at') = match num (b.drop at') with | .error e => .error e | .ok (n, c) => if m < n then .error 3 else .ok (n, c) := rfl
  cases hn : num (b.drop at') with
  | error E =>
    rw [hn] at CN hun
    rw [hun]
    clear h hun hn
    refine Calls.mono (R := fun en w' => en = .returned (.int .i64 0) ∧ After w0 v b g w w' (.error E : Except Int (Nat × Nat)) at' (fun y => y = 0)) ?_ ?_
    · go_enter Tryd.func42, Tryd.ntmps42
      go_wp2_with (go_at_call 69; refine CN.out.mono ?_; rintro e w1 ⟨n, rfl, ⟨hg1, hE, up, hr1⟩, -⟩; obtain ⟨c0, c1, c2, f1, f2⟩ := hr1.cells; have hE' : (E != 0) = true := (by simpa using hE); have hE2 : (E == 0) = false := (by simpa using hE); have HE := Lib.hid hE; clear hE)
      go_ret
      exact ⟨rfl, hg1, HE.out, up, hr1⟩
    · rintro e w' ⟨rfl, hA⟩
      exact ⟨0, rfl, Nat.zero_le _, fun _ _ => rfl, hA⟩
  | ok z =>
    obtain ⟨n, c⟩ := z
    rw [hn] at CN hun
    have hnr := (num_reads.back _ _ _ hn).1
    clear h hn
    simp only at hun
    by_cases hmn : m < n
    · rw [if_pos hmn] at hun
      rw [hun]
      clear hun
      have hi : (m : Int) < (n : Int) := by omega
      refine Calls.mono (R := fun en w' => en = .returned (.int .i64 0) ∧ After w0 v b g w w' (.error 3 : Except Int (Nat × Nat)) at' (fun y => y = 0)) ?_ ?_
      · go_enter Tryd.func42, Tryd.ntmps42
        go_wp2_with (go_at_call 69; refine CN.out.mono ?_; rintro e w1 ⟨n', rfl, ⟨hg1, hy, hr1⟩, -⟩; have hy' : n' = n := hy.symm; subst hy'; obtain ⟨c0, c1, c2, f1, f2⟩ := hr1.cells; clear hy)
        go_ret
        exact ⟨rfl, grown_trans hg1 (grown_set _ _ _ _), by decide, _, hr1.set2 3⟩
      · rintro e w' ⟨rfl, hA⟩
        exact ⟨0, rfl, Nat.zero_le _, fun _ _ => rfl, hA⟩
    · rw [if_neg hmn] at hun
      rw [hun]
      clear hun
      have hi : ¬ (m : Int) < (n : Int) := by omega
      have hu : IntKind.i64.wrap (n : Int) = (n : Int) := IntWalk.i64_in _ (by omega)
      have hz : ¬ n = 0 ∨ True := .inr trivial
      clear hz
      refine Calls.mono (R := fun en w' => en = .returned (.int .i64 (n : Int)) ∧ After w0 v b g w w' (.ok (n, c) : Except Int (Nat × Nat)) at' (fun y => y = n)) ?_ ?_
      · go_enter Tryd.func42, Tryd.ntmps42
        go_wp2_with (go_at_call 69; refine CN.out.mono ?_; rintro e w1 ⟨n', rfl, ⟨hg1, hy, hr1⟩, -⟩; have hy' : n' = n := hy.symm; subst hy'; obtain ⟨c0, c1, c2, f1, f2⟩ := hr1.cells; clear hy)
        go_ret
        exact ⟨by first | rfl | simp, hg1, rfl, hr1⟩
      · rintro e w' ⟨rfl, hA⟩
        exact ⟨n, rfl, by omega, fun E (h : (Except.ok (n, c) : Except Int (Nat × Nat)) = .error E) => (by cases h), hA⟩
end Go.Proofs.YtkgnhimepcihpaaDoor
/-
  record's reader: text.
-/
namespace Go.Proofs.YtkgnhimepcihpaaDoor
open Go.RowKit
theorem txt_num_err {T : List UInt8} {E : Int} (h : num T = .error E) : strP T = .error E := by
  unfold strP mapP txtP
  rw [h]
theorem txt_short {T : List UInt8} {n c : Nat} (h : num T = .ok (n, c)) (hs : T.length - c < n) : strP T = .error 5 := by
  unfold strP mapP txtP
  rw [h]
  simp only
  rw [if_pos hs]
theorem txt_ok {T : List UInt8} {n c : Nat} (h : num T = .ok (n, c)) (hs : ¬ T.length - c < n) : strP T = .ok (⟨((T.drop c).take n).toArray⟩, c + n) := by
  unfold strP mapP txtP
  rw [h]
  simp only
  rw [if_neg hs]
/-- string(b[lo:lo+n]) of bytes that came in. -/
theorem slice_conv {w0 W : World} {b : List UInt8} {b0 off ca : Nat} (hrow : argRow w0 (.slice (some ⟨b0, off, none⟩) b.length ca) b.length 1 (Lib.byteCells b)) (hb : Below w0.heap.size w0 W) {lo n : Nat} (h : lo + n ≤ b.length) (hn : 0 < n) (cap : Nat) :
    (convert 22 9 (.slice (some ⟨b0, off + lo, none⟩) n cap)).run Tryd.prog W = .ok (.string ⟨((b.drop lo).take n).toArray⟩) W := by
  obtain ⟨_, a, c, e, _, _, hcs⟩ := hrow
  cases e
  obtain ⟨b1, o1, e, hlt, hcell⟩ := hcs (by omega)
  cases e
  have hl : ((b.drop lo).take n).length = n := by rw [List.length_take, List.length_drop]; omega
  have := conv_cells (P := Tryd.prog) (w := W) (cap := cap) (src := 22) (dst := 9) (g := b0) (off := off + lo) (l := (b.drop lo).take n) Tryd.underlying22 Tryd.underlying5 Tryd.underlying9 (fun j hj => by
    rw [hl] at hj
    rw [hb.cell (p := ⟨b0, _, none⟩) hlt, Nat.add_assoc, hcell (lo + j) (by simp [Lib.byteCells]; omega)]
    simp [Lib.byteCells])
  rw [hl] at this
  exact this
theorem w64_nat {z : Int} (n : Nat) (h : z = (n : Int)) (hn : n ≤ 9000000000000000000) : wrap64 z = (n : Int) := by
  subst h
  unfold wrap64
  omega
theorem u64_nat (n : Nat) (hn : n ≤ 9000000000000000000) : IntKind.u64.wrap (n : Int) = (n : Int) := by
  rw [IntKind.wrap_u64]
  omega
theorem i64_nat (n : Nat) (hn : n ≤ 9000000000000000000) : IntKind.i64.wrap (n : Int) = (n : Int) := by
  rw [IntKind.wrap_i64]
  omega
set_option maxRecDepth 100000 in
set_option maxHeartbeats 4000000 in
theorem rd_text (w0 : World) (v : Value) (b : List UInt8) (g : Nat) (w : World) (at' : Nat) (hrow : argRow w0 v b.length 1 (Lib.byteCells b)) (hl : b.length ≤ 1099511627776) (h : Rd w0 v b g w at' 0) :
    Calls Tryd.prog 70 #[.pointer (some ⟨g, 0, none⟩)] w fun en w' => ∃ s : ByteArray, en = .returned (.string s) ∧ s.size ≤ b.length ∧ (∀ E, strP (b.drop at') = .error E → s = ⟨#[]⟩) ∧ After w0 v b g w w' (strP (b.drop at')) at' (fun y => y = s) := by
  have CN := Lib.hid (rd_number w0 v b g w at' hrow hl h)
  have HRW := Lib.hid hrow
  clear hrow
  cases hn : num (b.drop at') with
  | error E =>
    have hun := txt_num_err hn
    rw [hn] at CN
    rw [hun]
    clear h hun hn
    refine Calls.mono (R := fun en w' => en = .returned (.string ⟨#[]⟩) ∧ After w0 v b g w w' (.error E : Except Int (ByteArray × Nat)) at' (fun y => y = ⟨#[]⟩)) ?_ ?_
    · go_enter Tryd.func70, Tryd.ntmps70
      go_upto_region 2 with (go_at_call 69; refine CN.out.mono ?_; rintro e w1 ⟨n, rfl, ⟨hg1, hE, up, hr1⟩, -⟩)
      obtain ⟨c0, c1, c2, f1, f2⟩ := hr1.cells
      have hE' : (E != 0) = true := by simpa using hE
      have hE2 : (E == 0) = false := by simpa using hE
      have HE := Lib.hid hE
      clear hE
      go_quiet (fail)
      go_wp2
      go_ret
      have hbq := below_drewN (Below.refl w1.heap.size w1) nq
      exact ⟨rfl, grown_trans hg1 (grown_of_below hbq _), HE.out, up, hr1.keptB hbq⟩
    · rintro e w' ⟨rfl, hA⟩
      exact ⟨⟨#[]⟩, rfl, Nat.zero_le _, fun _ _ => rfl, hA⟩
  | ok z =>
    obtain ⟨n, c⟩ := z
    have hnr := (num_reads.back _ _ _ hn).1
    have hcl := num_reads.len hn
    rw [List.length_drop] at hcl
    rw [hn] at CN
    have hle := h.le
    obtain ⟨aa, ca, hv, hca, hca2⟩ : ∃ a c, v = .slice a b.length c ∧ b.length ≤ c ∧ c ≤ maxLen := by
      obtain ⟨_, a, c, e, h1, h2, _⟩ := HRW.out
      exact ⟨a, c, e, h1, h2⟩
    subst hv
    unfold maxLen at hca2
    obtain ⟨up, hup⟩ : ∃ u, at' + c = u := ⟨_, rfl⟩
    have hsu : IntKind.u64.wrap ((b.length - up : Nat) : Int) = ((b.length - up : Nat) : Int) := u64_nat _ (by omega)
    have hsw : wrap64 ((b.length : Int) - (up : Int)) = ((b.length - up : Nat) : Int) := w64_nat _ (by omega) (by omega)
    by_cases hs : (b.drop at').length - c < n
    · have hun := txt_short hn hs
      rw [List.length_drop] at hs
      rw [hun]
      clear h hun hn
      have hi : ((b.length - up : Nat) : Int) < (n : Int) := by omega
      have HUP := Lib.hid hup
      clear hup
      refine Calls.mono (R := fun en w' => en = .returned (.string ⟨#[]⟩) ∧ After w0 (.slice aa b.length ca) b g w w' (.error 5 : Except Int (ByteArray × Nat)) at' (fun y => y = ⟨#[]⟩)) ?_ ?_
      · go_enter Tryd.func70, Tryd.ntmps70
        go_upto_region 2 with (go_at_call 69; refine CN.out.mono ?_; rintro e w1 ⟨n', rfl, ⟨hg1, hy, hr1⟩, -⟩)
        have hy' : n' = n := hy.symm
        subst hy'
        rw [HUP.out] at hr1
        obtain ⟨c0, c1, c2, f1, f2⟩ := hr1.cells
        clear hy
        go_quiet (fail)
        have hbq := below_drewN (Below.refl w1.heap.size w1) nq
        have hr2 := hr1.keptB hbq
        have hg2 := grown_trans hg1 (grown_of_below hbq _)
        obtain ⟨d0, d1, d2, e1, e2⟩ := hr2.cells
        clear c0 c1 c2 f1 f2
        go_wp2
        go_ret
        exact ⟨rfl, grown_trans hg2 (grown_set _ _ _ _), by decide, _, hr2.set2 5⟩
      · rintro e w' ⟨rfl, hA⟩
        exact ⟨⟨#[]⟩, rfl, Nat.zero_le _, fun _ _ => rfl, hA⟩
    · have hun := txt_ok hn hs
      rw [List.length_drop] at hs
      rw [hun]
      have hi : ¬ ((b.length - up : Nat) : Int) < (n : Int) := by omega
      have hu1 : up ≤ b.length := by omega
      have hu2 : up + n ≤ b.length := by omega
      have hb1 : n ≤ 1099511627776 := by omega
      have hb2 : up ≤ 1099511627776 := by omega
      have hb3 : up + n ≤ 1099511627776 := by omega
      have hdd : (b.drop at').drop c = b.drop up := by rw [List.drop_drop, hup]
      rw [hdd]
      clear h hun hn hdd
      have HUP := Lib.hid hup
      have hup2 : at' + (c + n) = up + n := by omega
      have HUP2 := Lib.hid hup2
      clear hup hup2
      obtain ⟨S, hS⟩ : ∃ S : ByteArray, (⟨((b.drop up).take n).toArray⟩ : ByteArray) = S := ⟨_, rfl⟩
      have hSs : S.size ≤ b.length := by rw [← hS]; show ((b.drop up).take n).toArray.size ≤ _; simp; omega
      rw [hS]
      have HS := Lib.hid hS
      clear hS
      refine Calls.mono (R := fun en w' => en = .returned (.string S) ∧ (w.grownBy w' (some g) ∧ Rd w0 (.slice aa b.length ca) b g w' (up + n) 0)) ?_ ?_
      · go_enter Tryd.func70, Tryd.ntmps70
        go_upto_region 2 with (go_at_call 69; refine CN.out.mono ?_; rintro e w1 ⟨n', rfl, ⟨hg1, hy, hr1⟩, -⟩)
        have hy' : n' = n := hy.symm
        subst hy'
        rw [HUP.out] at hr1
        obtain ⟨c0, c1, c2, f1, f2⟩ := hr1.cells
        clear hy
        go_quiet (fail)
        have hbq := below_drewN (Below.refl w1.heap.size w1) nq
        have hr2 := hr1.keptB hbq
        have hg2 := grown_trans hg1 (grown_of_below hbq _)
        generalize w1.drewN nq = w2 at *
        obtain ⟨d0, d1, d2, e1, e2⟩ := hr2.cells
        clear c0 c1 c2 f1 f2 hbq hr1 hg1
        have iw2 : IntKind.i64.wrap (n' : Int) = (n' : Int) := i64_nat _ (Nat.le_trans hb1 (by decide))
        have ecast : ((up + n' : Nat) : Int) = (up : Int) + (n' : Int) := by simp
        have hr3 := hr2.set1 (up + n') hu2
        have hg3 := grown_trans hg2 (grown_set w2 g 1 (.int .i64 ((up + n' : Nat) : Int)))
        rw [ecast] at hr3 hg3
        clear ecast
        go_upto_region 7 with fail
        generalize w2.setCell ⟨g, 1, none⟩ (.int .i64 ((up : Int) + (n' : Int))) = w3 at *
        obtain ⟨c0, c1, c2, f1, f2⟩ := hr3.cells
        rw [Int.natCast_add] at c1
        clear d0 d1 d2 e1 e2 f1 f2 iw2
        have s1 : (0 : Int) ≤ (up : Int) := by omega
        have s2 : (up : Int) ≤ (up : Int) + (n' : Int) := by omega
        have s3 : (up : Int) + (n' : Int) ≤ (ca : Int) := by omega
        have s4 : (up : Int) + (n' : Int) - (n' : Int) = (up : Int) := by omega
        by_cases hn0 : n' = 0
        · subst hn0
          obtain rfl : S = ⟨#[]⟩ := by rw [← HS.out, List.take_zero]
          have hcn := fun (a : Option Addr) (cap : Nat) (W : World) => conv_nil (P := Tryd.prog) (w := W) (a := a) (cap := cap) (src := 22) (dst := 9) Tryd.underlying22 Tryd.underlying5 Tryd.underlying9
          have hr4 := hr3
          clear s4 s2 HS
          by_cases q : up = ca
          case' pos => subst q
          case' neg => have q' : ¬ ca = up := fun e => q e.symm
          all_goals
            rcases aa with _ | ⟨b0, off, spot⟩
            all_goals
              go_quiet (fail)
              have hbq := below_drewN (Below.refl w3.heap.size w3) nq
              go_wp2
              go_ret
              exact ⟨rfl, grown_trans hg3 (grown_of_below hbq _), hr4.keptB hbq⟩
        · obtain ⟨_, _, _, e, _, _, hcs⟩ := HRW.out
          cases e
          obtain ⟨b0, off, rfl, hb0, -⟩ := hcs (by omega)
          clear hcs
          have q1 : ¬ up = ca := by omega
          have q2 : ¬ ca = up := by omega
          have hcv : ∀ k cap, (convert 22 9 (.slice (some ⟨b0, off + up, none⟩) n' cap)).run Tryd.prog (w3.drewN k) = .ok (.string S) (w3.drewN k) := fun k cap => by
            rw [← HS.out]
            exact slice_conv HRW.out (below_drewN hr3.below k) hu2 (by omega) cap
          have hcv0 : ∀ cap, (convert 22 9 (.slice (some ⟨b0, off + up, none⟩) n' cap)).run Tryd.prog w3 = .ok (.string S) w3 := fun cap => by
            rw [← HS.out]
            exact slice_conv HRW.out hr3.below hu2 (by omega) cap
          clear hn0
          go_quiet (fail)
          have hbq := below_drewN (Below.refl w3.heap.size w3) nq
          go_wp2
          go_ret
          exact ⟨rfl, grown_trans hg3 (grown_of_below hbq _), hr3.keptB hbq⟩
      · rintro e w' ⟨rfl, hg, hr⟩
        rw [← HUP2.out] at hr
        exact ⟨S, rfl, hSs, fun E (h : (Except.ok (S, c + n) : Except Int (ByteArray × Nat)) = .error E) => (by cases h), hg, rfl, hr⟩
end Go.Proofs.YtkgnhimepcihpaaDoor
/-
  record's reader, whatever its state: number, text, count; what they come to, laid together.
-/
namespace Go.Proofs.YtkgnhimepcihpaaDoor
open Go.RowKit
/-- A reader's state: a place, or a fault. -/
abbrev RS := Except Int Nat
def RSt (w0 : World) (v : Value) (b : List UInt8) (g : Nat) (w : World) : RS → Prop
  | .ok a => Rd w0 v b g w a 0
  | .error E => E ≠ 0 ∧ ∃ up, RdZ w0 v b g w up E
/-- A reading, in whatever state. -/
def rdS {α : Type} (b : List UInt8) (p : Rdr α) : RS → RS
  | .error E => .error E
  | .ok a => match p (b.drop a) with
    | .error E => .error E
    | .ok (_, c) => .ok (a + c)
def rdV {α : Type} (b : List UInt8) (p : Rdr α) (d : α) : RS → α
  | .error _ => d
  | .ok a => match p (b.drop a) with
    | .error _ => d
    | .ok (y, _) => y
theorem RSt.kept {w0 w w' : World} {v : Value} {b : List UInt8} {g : Nat} {x : RS} {row : Option Nat} (h : RSt w0 v b g w x) (hg : w.grownBy w' row) (hr : ∀ k, row = some k → w0.heap.size ≤ k ∧ k ≠ g) : RSt w0 v b g w' x := by
  cases x with
  | ok a => exact Rd.kept h hg hr
  | error E =>
    obtain ⟨hE, up, h⟩ := h
    exact ⟨hE, up, h.kept hg hr⟩
theorem RSt.keptB {w0 w w' : World} {v : Value} {b : List UInt8} {g : Nat} {x : RS} (h : RSt w0 v b g w x) (hb : Below w.heap.size w w') : RSt w0 v b g w' x :=
  h.kept (grown_of_below hb none) (fun k hk => by cases hk)
theorem RSt.any {w0 w : World} {v : Value} {b : List UInt8} {g : Nat} {x : RS} (h : RSt w0 v b g w x) : ∃ a e, RdZ w0 v b g w a e := by
  cases x with
  | ok a => exact ⟨(a : Int), 0, RdZ.of h⟩
  | error E =>
    obtain ⟨hE, up, h⟩ := h
    exact ⟨up, E, h⟩
theorem RSt.facts {w0 w : World} {v : Value} {b : List UInt8} {g : Nat} {x : RS} (h : RSt w0 v b g w x) : g < w.heap.size ∧ w0.heap.size ≤ g ∧ Below w0.heap.size w0 w := by
  obtain ⟨a, e, h⟩ := h.any
  exact ⟨h.lt, h.ge, h.below⟩
theorem after_state {w0 w w' : World} {v : Value} {b : List UInt8} {g a : Nat} {α : Type} {p : Rdr α} {d y : α} (hd : ∀ E, p (b.drop a) = .error E → y = d) (h : After w0 v b g w w' (p (b.drop a)) a (fun z => z = y)) :
    y = rdV b p d (.ok a) ∧ w.grownBy w' (some g) ∧ RSt w0 v b g w' (rdS b p (.ok a)) := by
  obtain ⟨hg, h⟩ := h
  unfold rdV rdS
  simp only
  cases hp : p (b.drop a) with
  | error E =>
    rw [hp] at h hd
    exact ⟨hd E rfl, hg, h.1, _, RdZ.of h.2.choose_spec⟩
  | ok z =>
    obtain ⟨z, c⟩ := z
    rw [hp] at h
    exact ⟨h.1.symm, hg, h.2⟩
theorem rds_number (w0 : World) (v : Value) (b : List UInt8) (g : Nat) (w : World) (x : RS) (hrow : argRow w0 v b.length 1 (Lib.byteCells b)) (hl : b.length ≤ 1000000000) (h : RSt w0 v b g w x) :
    Calls Tryd.prog 69 #[.pointer (some ⟨g, 0, none⟩)] w fun en w' => en = .returned (.int .u64 ((rdV b num 0 x : Nat) : Int)) ∧ w.grownBy w' (some g) ∧ RSt w0 v b g w' (rdS b num x) := by
  cases x with
  | error E =>
    obtain ⟨hE, up, hr⟩ := h
    refine (rd_number_bad w0 v b g w up E hE hr).mono ?_
    rintro en w' ⟨rfl, rfl⟩
    exact ⟨rfl, World.grownBy.refl _ _, hE, up, hr⟩
  | ok a =>
    refine (rd_number w0 v b g w a hrow (by omega) h).mono ?_
    rintro en w' ⟨n, rfl, hA, hd⟩
    obtain ⟨h1, h2, h3⟩ := after_state hd hA
    rw [← h1]
    exact ⟨rfl, h2, h3⟩
theorem rds_text (w0 : World) (v : Value) (b : List UInt8) (g : Nat) (w : World) (x : RS) (hrow : argRow w0 v b.length 1 (Lib.byteCells b)) (hl : b.length ≤ 1000000000) (h : RSt w0 v b g w x) :
    Calls Tryd.prog 70 #[.pointer (some ⟨g, 0, none⟩)] w fun en w' => en = .returned (.string (rdV b strP ⟨#[]⟩ x)) ∧ w.grownBy w' (some g) ∧ RSt w0 v b g w' (rdS b strP x) ∧ (rdV b strP ⟨#[]⟩ x).size ≤ b.length := by
  cases x with
  | error E =>
    obtain ⟨hE, up, hr⟩ := h
    refine (rd_text_bad w0 v b g w up E hE hr).mono ?_
    rintro en w' ⟨rfl, hb⟩
    exact ⟨rfl, grown_of_below hb _, ⟨hE, up, hr.keptB hb⟩, Nat.zero_le _⟩
  | ok a =>
    refine (rd_text w0 v b g w a hrow (by omega) h).mono ?_
    rintro en w' ⟨s, rfl, hs, hd, hA⟩
    obtain ⟨h1, h2, h3⟩ := after_state hd hA
    rw [← h1]
    exact ⟨rfl, h2, h3, hs⟩
theorem rds_count (w0 : World) (v : Value) (b : List UInt8) (g : Nat) (w : World) (x : RS) (m : Nat) (hm : m ≤ 65536) (hrow : argRow w0 v b.length 1 (Lib.byteCells b)) (hl : b.length ≤ 1000000000) (h : RSt w0 v b g w x) :
    Calls Tryd.prog 42 #[.pointer (some ⟨g, 0, none⟩), .int .u64 (m : Int)] w fun en w' => en = .returned (.int .i64 ((rdV b (cntN m) 0 x : Nat) : Int)) ∧ rdV b (cntN m) 0 x ≤ m ∧ w.grownBy w' (some g) ∧ RSt w0 v b g w' (rdS b (cntN m) x) := by
  cases x with
  | error E =>
    obtain ⟨hE, up, hr⟩ := h
    refine (rd_count_bad w0 v b g w up m E hE hr).mono ?_
    rintro en w' ⟨rfl, rfl⟩
    exact ⟨rfl, Nat.zero_le _, World.grownBy.refl _ _, hE, up, hr⟩
  | ok a =>
    refine (rd_count w0 v b g w a m hm hrow (by omega) h).mono ?_
    rintro en w' ⟨n, rfl, hn, hd, hA⟩
    obtain ⟨h1, h2, h3⟩ := after_state hd hA
    rw [← h1]
    exact ⟨rfl, hn, h2, h3⟩
/-! ### A record, laid together -/
def rdLabS (b : List UInt8) (x : RS) : RS := rdS b strP (rdS b strP x)
def rdLabV (b : List UInt8) (x : RS) : Lab := (rdV b strP ⟨#[]⟩ x, rdV b strP ⟨#[]⟩ (rdS b strP x))
def rdLabsS (b : List UInt8) : Nat → RS → RS
  | 0, x => x
  | k + 1, x => rdLabsS b k (rdLabS b x)
def rdLabsV (b : List UInt8) : Nat → RS → List Lab
  | 0, _ => []
  | k + 1, x => rdLabV b x :: rdLabsV b k (rdLabS b x)
theorem rdLabsV_len (b : List UInt8) : ∀ k x, (rdLabsV b k x).length = k
  | 0, _ => rfl
  | k + 1, x => by
    unfold rdLabsV
    rw [List.length_cons, rdLabsV_len b k]
def recX1 (b : List UInt8) (n1 : Nat) (x1 : RS) : RS × Rec :=
  let x2 := rdS b num x1
  let x3 := rdS b (cntN 16) x2
  let n := rdV b (cntN 16) 0 x2
  let x4 := rdLabsS b n x3
  (rdS b strP x4, ⟨zag (n1 : Int), rdV b num 0 x1, rdLabsV b n x3, rdV b strP ⟨#[]⟩ x4⟩)
def recX (b : List UInt8) (x : RS) : RS × Rec := recX1 b (rdV b num 0 x) (rdS b num x)
def recF1 (b : List UInt8) (n1 : Nat) (x1 : RS) : RS := match (recX1 b n1 x1).1 with
  | .error E => .error E
  | .ok a => if chkRec (recX1 b n1 x1).2 = 0 then .ok a else .error (chkRec (recX1 b n1 x1).2)
def recF (b : List UInt8) (x : RS) : RS := match (recX b x).1 with
  | .error E => .error E
  | .ok a => if chkRec (recX b x).2 = 0 then .ok a else .error (chkRec (recX b x).2)
theorem labs_rep (b : List UInt8) : ∀ (k a : Nat), match repP labP k (b.drop a) with
    | .error E => rdLabsS b k (.ok a) = .error E
    | .ok (l, c) => rdLabsS b k (.ok a) = .ok (a + c) ∧ rdLabsV b k (.ok a) = l
  | 0, a => by simp [repP, rdLabsS, rdLabsV]
  | k + 1, a => by
    have e : labP (b.drop a) = match strP (b.drop a) with
        | .error e => .error e
        | .ok (x, c) => match strP ((b.drop a).drop c) with
          | .error e => .error e
          | .ok (y, d) => .ok ((x, y), c + d) := by
      unfold labP seqP
      cases strP (b.drop a) with
      | error E => rfl
      | ok z =>
        obtain ⟨x, c⟩ := z
        simp only
        cases strP ((b.drop a).drop c) with
        | error E => rfl
        | ok z => rfl
    unfold repP rdLabsS rdLabsV rdLabS rdLabV
    rw [e]
    clear e
    cases h1 : strP (b.drop a) with
    | error E =>
      have : ∀ m E, rdLabsS b m (.error E) = .error E := fun m E => by
        induction m with
        | zero => rfl
        | succ m ih => exact ih
      simp only [rdS, h1, this]
    | ok z =>
      obtain ⟨s, c⟩ := z
      simp only [rdS, rdV, h1]
      rw [List.drop_drop]
      cases h2 : strP (b.drop (a + c)) with
      | error E =>
        have : ∀ m E, rdLabsS b m (.error E) = .error E := fun m E => by
          induction m with
          | zero => rfl
          | succ m ih => exact ih
        simp only [this]
      | ok y =>
        obtain ⟨t, d⟩ := y
        simp only
        have ih := labs_rep b k (a + c + d)
        rw [List.drop_drop, show a + (c + d) = a + c + d by omega]
        cases h3 : repP labP k (b.drop (a + c + d)) with
        | error E =>
          rw [h3] at ih
          exact ih
        | ok u =>
          rw [h3] at ih
          simp only at ih ⊢
          rw [ih.1, ih.2]
          exact ⟨by congr 1; omega, rfl⟩
theorem rdLabsS_err (b : List UInt8) (m : Nat) (E : Int) : rdLabsS b m (.error E) = .error E := by
  induction m with
  | zero => rfl
  | succ m ih => exact ih
theorem rec_rel (b : List UInt8) (a : Nat) : recF b (.ok a) = rdS b recP (.ok a) ∧ ∀ r c, recP (b.drop a) = .ok (r, c) → (recX b (.ok a)).2 = r := by
  have key : match recP (b.drop a) with
      | .error E => recF b (.ok a) = .error E
      | .ok (r, c) => recF b (.ok a) = .ok (a + c) ∧ (recX b (.ok a)).2 = r := by
    unfold recF recX recX1 recP chkP mapP seqP cntP
    simp only
    cases h1 : num (b.drop a) with
    | error E => simp only [rdS, h1, rdLabsS_err]
    | ok z =>
      obtain ⟨n1, c1⟩ := z
      simp only [rdS, rdV, h1]
      rw [List.drop_drop]
      cases h2 : num (b.drop (a + c1)) with
      | error E => simp only [rdLabsS_err]
      | ok z =>
        obtain ⟨n2, c2⟩ := z
        simp only
        rw [List.drop_drop, show a + (c1 + c2) = a + c1 + c2 by omega]
        unfold cntN
        cases h3 : num (b.drop (a + c1 + c2)) with
        | error E => simp only [rdLabsS_err]
        | ok z =>
          obtain ⟨n, c3⟩ := z
          simp only
          by_cases hn : 16 < n
          · simp only [if_pos hn, rdLabsS_err]
          · simp only [if_neg hn]
            rw [List.drop_drop]
            have ih := labs_rep b n (a + c1 + c2 + c3)
            cases h4 : repP labP n (b.drop (a + c1 + c2 + c3)) with
            | error E =>
              rw [h4] at ih
              simp only at ih ⊢
              rw [ih]
            | ok z =>
              obtain ⟨L, c4⟩ := z
              rw [h4] at ih
              simp only at ih ⊢
              rw [ih.1, ih.2, List.drop_drop, show a + c1 + c2 + (c3 + c4) = a + c1 + c2 + c3 + c4 by omega]
              simp only
              cases h5 : strP (b.drop (a + c1 + c2 + c3 + c4)) with
              | error E => rfl
              | ok z =>
                obtain ⟨s, c5⟩ := z
                simp only
                rw [show mkRec ((n1, n2), L, s) = (⟨zag n1, n2, L, s⟩ : Rec) from rfl]
                by_cases hc : chkRec ⟨zag n1, n2, L, s⟩ = 0
                · rw [if_pos hc]
                  simp only
                  rw [if_pos hc]
                  exact ⟨by congr 1; omega, by first | rfl | trivial⟩
                · rw [if_neg hc]
                  simp only
                  rw [if_neg hc]
  unfold rdS
  simp only
  cases h : recP (b.drop a) with
  | error E =>
    rw [h] at key
    exact ⟨key, fun r c e => by cases e⟩
  | ok z =>
    obtain ⟨r, c⟩ := z
    rw [h] at key
    exact ⟨key.1, fun r' c' e => by cases e; exact key.2⟩
/-- A reader ahead of its first number. -/
structure Start (w0 : World) (v : Value) (b : List UInt8) (g : Nat) (S0 : World → Prop) (n1 : Nat) (x1 : RS) : Prop where
  facts : ∀ W, S0 W → g < W.heap.size ∧ w0.heap.size ≤ g ∧ Below w0.heap.size w0 W
  keptB : ∀ W W', S0 W → Below W.heap.size W W' → S0 W'
  num : ∀ W, S0 W → Calls Tryd.prog 69 #[.pointer (some ⟨g, 0, none⟩)] W fun en w' => en = .returned (.int .u64 (n1 : Int)) ∧ W.grownBy w' (some g) ∧ RSt w0 v b g w' x1
  lt : n1 < 18446744073709551616
theorem rdV_lt (b : List UInt8) (y : RS) : rdV b num 0 y < 18446744073709551616 := by
  unfold rdV
  split
  · decide
  · split
    · decide
    · rename_i h
      exact (num_reads.back _ _ _ h).1
theorem start_in (w0 : World) (v : Value) (b : List UInt8) (g : Nat) (x : RS) (hrow : argRow w0 v b.length 1 (Lib.byteCells b)) (hl : b.length ≤ 1000000000) : Start w0 v b g (fun W => RSt w0 v b g W x) (rdV b num 0 x) (rdS b num x) :=
  ⟨fun _ h => h.facts, fun _ _ h hb => h.keptB hb, fun W h => rds_number w0 v b g W x hrow hl h, rdV_lt b x⟩
theorem start_out (w0 : World) (v : Value) (b : List UInt8) (g : Nat) (z : Int) (hz : z < 0 ∨ (b.length : Int) < z) (h1 : -9223372036854775808 ≤ z) (h2 : z ≤ 9223372036854775807) (hrow : argRow w0 v b.length 1 (Lib.byteCells b)) (hl : b.length ≤ 1000000000) : Start w0 v b g (fun W => RdZ w0 v b g W z 0) 0 (.error 1) :=
  ⟨fun _ h => ⟨h.lt, h.ge, h.below⟩, fun _ _ h hb => h.keptB hb, fun W h => (rd_number_out w0 v b g W z hz h1 h2 hrow (by omega) h).mono (fun e w' h => ⟨h.1, h.2.1, by decide, z, h.2.2⟩), by decide⟩
theorem recF1_err (b : List UInt8) (E : Int) : recF1 b 0 (.error E) = .error E := by
  unfold recF1 recX1
  simp only [rdS, rdLabsS_err]
end Go.Proofs.YtkgnhimepcihpaaDoor
/-
  record's reader: a record.
-/
namespace Go.Proofs.YtkgnhimepcihpaaDoor
open Go.RowKit
theorem EL : ElemT Tryd.prog 25 47 (.agg #[.string ⟨#[]⟩, .string ⟨#[]⟩]) 2 32 := ⟨Tryd.underlying25, by kernel_rfl, rfl, by decide⟩
/-- What record has laid: its answer's cells, its record's cells with their labels. -/
structure Mk (B r0 bx : Nat) (t s lv : Value) (line : ByteArray) (P : List Lab) (W : World) : Prop where
  c0 : ∃ cs : Array Value, cs.size = 4 ∧ W.heap[r0]? = some (.cells cs 27 (0, 0))
  c1 : W.heap[bx]? = some (.cells #[t, s, lv, .string line] 27 (0, 0))
  own : W.ownsRow B 47 2 lv P.length (labCells P)
  l0 : r0 < bx
  l1 : bx < B
theorem Mk.kept {B r0 bx : Nat} {t s lv : Value} {line : ByteArray} {P : List Lab} {W W' : World} {row : Option Nat} (h : Mk B r0 bx t s lv line P W) (hg : W.grownBy W' row) (hr : ∀ k, row = some k → k < r0) : Mk B r0 bx t s lv line P W' := by
  obtain ⟨⟨cs, hcs, c0⟩, c1, own, l0, l1⟩ := h
  have lt := (Array.getElem?_eq_some_iff.1 c1).1
  refine ⟨⟨cs, hcs, ?_⟩, ?_, own.kept hg ?_, l0, l1⟩
  · rw [hg.block r0 (by omega) (fun e => by have := hr r0 e.symm; omega)]
    exact c0
  · rw [hg.block bx lt (fun e => by have := hr bx e.symm; omega)]
    exact c1
  · cases hv : lv.ownBlock with
    | none => exact .inl rfl
    | some j =>
      refine .inr fun e => ?_
      have := (own.lt j hv).1
      have := hr j e.symm
      omega
theorem Mk.keptB {B r0 bx : Nat} {t s lv : Value} {line : ByteArray} {P : List Lab} {W W' : World} (h : Mk B r0 bx t s lv line P W) (hb : Below W.heap.size W W') : Mk B r0 bx t s lv line P W' :=
  h.kept (grown_of_below hb none) (fun k hk => by cases hk)
theorem Mk.cells {B r0 bx : Nat} {t s lv : Value} {line : ByteArray} {P : List Lab} {W : World} (h : Mk B r0 bx t s lv line P W) :
    W.cell? ⟨bx, 0, none⟩ = some t ∧ W.cell? ⟨bx, 1, none⟩ = some s ∧ W.cell? ⟨bx, 2, none⟩ = some lv ∧ W.cell? ⟨bx, 3, none⟩ = some (.string line) ∧ W.frozen? ⟨bx, 2, none⟩ = false ∧ W.frozen? ⟨bx, 3, none⟩ = false :=
  ⟨by rw [Lib.cell_of_heap h.c1]; rfl, by rw [Lib.cell_of_heap h.c1]; rfl, by rw [Lib.cell_of_heap h.c1]; rfl, by rw [Lib.cell_of_heap h.c1]; rfl, Lib.frozen_of_heap h.c1 2, Lib.frozen_of_heap h.c1 3⟩
theorem Mk.kept' {B r0 bx : Nat} {t s lv : Value} {line : ByteArray} {P : List Lab} {W W' : World} {row : Option Nat} (h : Mk B r0 bx t s lv line P W) (hg : W.grownBy W' row) (hr : ∀ k, row = some k → k ≠ r0 ∧ k ≠ bx ∧ lv.ownBlock ≠ some k) : Mk B r0 bx t s lv line P W' := by
  obtain ⟨⟨cs, hcs, c0⟩, c1, own, l0, l1⟩ := h
  have lt := (Array.getElem?_eq_some_iff.1 c1).1
  refine ⟨⟨cs, hcs, ?_⟩, ?_, own.kept hg ?_, l0, l1⟩
  · rw [hg.block r0 (by omega) (fun e => (hr r0 e.symm).1 rfl)]
    exact c0
  · rw [hg.block bx lt (fun e => (hr bx e.symm).2.1 rfl)]
    exact c1
  · cases hv : lv.ownBlock with
    | none => exact .inl rfl
    | some j => exact .inr fun e => (hr j e.symm).2.2 hv
theorem grown_new {w w1 w2 : World} {row row' : Option Nat} (h1 : w.grownBy w1 row) (h2 : w1.grownBy w2 row') (hr : ∀ k, row' = some k → w.heap.size ≤ k) : w.grownBy w2 row :=
  ⟨by rw [h2.os, h1.os], by rw [h2.tape, h1.tape], by rw [h2.output, h1.output], Nat.le_trans h1.size h2.size, fun k hk h => by rw [h2.block k (Nat.lt_of_lt_of_le hk h1.size) (fun e => by have := hr k e.symm; omega), h1.block k hk h]⟩
/-- The labels' row turned into a longer one, and laid in the record. -/
theorem Mk.more {r0 bx : Nat} {t s lv : Value} {line : ByteArray} {P : List Lab} {z : Lab} {W W' : World} {a : Option Addr} {c : Nat} (h : Mk (bx + 1) r0 bx t s lv line P W) (hg : W.grownBy W' lv.ownBlock)
    (ho : W'.ownsRow (bx + 1) 47 2 (.slice a (P.length + 1) c) (P.length + 1) (labCells P ++ encLab z)) :
    Mk (bx + 1) r0 bx t s (.slice a (P.length + 1) c) line (P ++ [z]) (W'.setCell ⟨bx, 2, none⟩ (.slice a (P.length + 1) c)) := by
  have hne : ∀ k, lv.ownBlock = some k → bx < k := fun k hk => by have := (h.own.lt k hk).1; omega
  obtain ⟨⟨cs, hcs, c0⟩, c1, own, l0, l1⟩ := h
  have lt := (Array.getElem?_eq_some_iff.1 c1).1
  have d0 : W'.heap[r0]? = some (.cells cs 27 (0, 0)) := by
    rw [hg.block r0 (by omega) (fun e => by have := hne r0 e.symm; omega)]; exact c0
  have d1 : W'.heap[bx]? = some (.cells #[t, s, lv, .string line] 27 (0, 0)) := by
    rw [hg.block bx lt (fun e => by have := hne bx e.symm; omega)]; exact c1
  refine ⟨⟨cs, hcs, ?_⟩, ?_, ?_, l0, l1⟩
  · rw [Below.heap_setCell _ _ _ _ (show r0 ≠ bx by omega)]; exact d0
  · rw [heap_setCell_same _ _ _ _ _ _ d1]; rfl
  · have e1 : (P ++ [z]).length = P.length + 1 := by simp
    have e2 : labCells (P ++ [z]) = labCells P ++ encLab z := by rw [labCells_append]; simp [labCells]
    rw [e1, e2]
    refine ho.kept (grown_set _ _ _ _) ?_
    cases hv : (Value.slice a (P.length + 1) c).ownBlock with
    | none => exact .inl rfl
    | some j => exact .inr fun e => by have := (ho.lt j hv).1; have := Option.some.inj e; omega
theorem Mk.beside {r0 bx : Nat} {t s lv : Value} {line : ByteArray} {P : List Lab} {W W' : World} (h : Mk (bx + 1) r0 bx t s lv line P W) (hg : W.grownBy W' lv.ownBlock) : W'.cell? ⟨bx, 2, none⟩ = some lv ∧ W'.frozen? ⟨bx, 2, none⟩ = false := by
  have hne : ∀ k, lv.ownBlock = some k → bx < k := fun k hk => by have := (h.own.lt k hk).1; omega
  have lt := (Array.getElem?_eq_some_iff.1 h.c1).1
  have d1 : W'.heap[bx]? = some (.cells #[t, s, lv, .string line] 27 (0, 0)) := by
    rw [hg.block bx lt (fun e => by have := hne bx e.symm; omega)]; exact h.c1
  exact ⟨by rw [Lib.cell_of_heap d1]; rfl, Lib.frozen_of_heap d1 2⟩
theorem Mk.line {B r0 bx : Nat} {t s lv : Value} {line : ByteArray} {P : List Lab} {W : World} (h : Mk B r0 bx t s lv line P W) (S : ByteArray) : Mk B r0 bx t s lv S P (W.setCell ⟨bx, 3, none⟩ (.string S)) := by
  obtain ⟨⟨cs, hcs, c0⟩, c1, own, l0, l1⟩ := h
  refine ⟨⟨cs, hcs, ?_⟩, ?_, own.kept (grown_set _ _ _ _) ?_, l0, l1⟩
  · rw [Below.heap_setCell _ _ _ _ (show r0 ≠ bx by omega)]; exact c0
  · rw [heap_setCell_same _ _ _ _ _ _ c1]; rfl
  · cases hv : lv.ownBlock with
    | none => exact .inl rfl
    | some j => exact .inr fun e => by have := (own.lt j hv).1; have := Option.some.inj e; omega
theorem size4 {cs : Array Value} (h : cs.size = 4) : ∃ a b c d, cs = #[a, b, c, d] := by
  obtain ⟨l⟩ := cs
  match l, h with
  | [a, b, c, d], _ => exact ⟨a, b, c, d, rfl⟩
theorem Mk.back {B r0 bx : Nat} {t s lv : Value} {line : ByteArray} {P : List Lab} {W : World} (h : Mk B r0 bx t s lv line P W) :
    ∃ a b c d, W.heap[r0]? = some (.cells #[a, b, c, d] 27 (0, 0)) := by
  obtain ⟨⟨cs, hcs, c0⟩, -, -, -, -⟩ := h
  obtain ⟨a, b, c, d, rfl⟩ := size4 hcs
  exact ⟨a, b, c, d, c0⟩
theorem cells4 {W : World} {r : Nat} {a b c d : Value} {T : TypeId} (c0 : W.heap[r]? = some (.cells #[a, b, c, d] T (0, 0))) :
    W.cell? ⟨r, 0, none⟩ = some a ∧ W.cell? ⟨r, 1, none⟩ = some b ∧ W.cell? ⟨r, 2, none⟩ = some c ∧ W.cell? ⟨r, 3, none⟩ = some d ∧ W.frozen? ⟨r, 0, none⟩ = false ∧ W.frozen? ⟨r, 1, none⟩ = false ∧ W.frozen? ⟨r, 2, none⟩ = false ∧ W.frozen? ⟨r, 3, none⟩ = false :=
  ⟨by rw [Lib.cell_of_heap c0]; rfl, by rw [Lib.cell_of_heap c0]; rfl, by rw [Lib.cell_of_heap c0]; rfl, by rw [Lib.cell_of_heap c0]; rfl, Lib.frozen_of_heap c0 0, Lib.frozen_of_heap c0 1, Lib.frozen_of_heap c0 2, Lib.frozen_of_heap c0 3⟩
theorem set4 {W : World} {r : Nat} {a b c d : Value} {T : TypeId} (c0 : W.heap[r]? = some (.cells #[a, b, c, d] T (0, 0))) (x y z u : Value) :
    ((((W.setCell ⟨r, 0, none⟩ x).setCell ⟨r, 1, none⟩ y).setCell ⟨r, 2, none⟩ z).setCell ⟨r, 3, none⟩ u).heap[r]? = some (.cells #[x, y, z, u] T (0, 0)) ∧ W.grownBy ((((W.setCell ⟨r, 0, none⟩ x).setCell ⟨r, 1, none⟩ y).setCell ⟨r, 2, none⟩ z).setCell ⟨r, 3, none⟩ u) (some r) := by
  refine ⟨?_, grown_trans (grown_trans (grown_trans (grown_set _ _ _ _) (grown_set _ _ _ _)) (grown_set _ _ _ _)) (grown_set _ _ _ _)⟩
  have h1 := heap_setCell_same W r 0 _ _ x c0
  have h2 := heap_setCell_same _ r 1 _ _ y h1
  have h3 := heap_setCell_same _ r 2 _ _ z h2
  rw [heap_setCell_same _ r 3 _ _ u h3]
  rfl
/-- The answer's record, laid in its cells. -/
theorem Mk.out {r0 bx B : Nat} {t s : Value} {line : ByteArray} {P : List Lab} {W : World} {a b c d lv : Value} {z : Int} {n : Nat} (h : Mk B r0 bx t s lv line P W) (c0 : W.heap[r0]? = some (.cells #[a, b, c, d] 27 (0, 0)))
    (hrec : RecAt W lv ⟨z, n, P, line⟩) (x y u v : Value) :
    let W' := (((W.setCell ⟨r0, 0, none⟩ x).setCell ⟨r0, 1, none⟩ y).setCell ⟨r0, 2, none⟩ u).setCell ⟨r0, 3, none⟩ v
    W'.ownsRow r0 47 2 lv P.length (labCells P) ∧ RecAt W' lv ⟨z, n, P, line⟩ := by
  intro W'
  have hg := (set4 c0 x y u v).2
  have hown : W'.ownsRow B 47 2 lv P.length (labCells P) := h.own.kept hg (by
    cases hv : lv.ownBlock with
    | none => exact .inl rfl
    | some j => exact .inr fun e => by have := (h.own.lt j hv).1; have := h.l0; have := h.l1; have := Option.some.inj e; omega)
  exact ⟨owns_base hown (by have := h.l0; have := h.l1; omega), LRow_own hown, hrec.2⟩
set_option maxRecDepth 100000 in
set_option maxHeartbeats 4000000 in
theorem rd_record (w0 : World) (v : Value) (b : List UInt8) (g : Nat) (w : World) {S0 : World → Prop} {n1 : Nat} {x1 : RS} (hst : Start w0 v b g S0 n1 x1) (hrow : argRow w0 v b.length 1 (Lib.byteCells b)) (hl : b.length ≤ 1000000000) (hT : Tabs w0) (h : S0 w) :
    Calls Tryd.prog 38 #[.pointer (some ⟨g, 0, none⟩)] w fun en w' => ∃ lv, en = .returned (recV (recX1 b n1 x1).2 lv) ∧ w.grownBy w' (some g) ∧ RSt w0 v b g w' (recF1 b n1 x1) ∧ w'.ownsRow w.heap.size 47 2 lv (recX1 b n1 x1).2.labs.length (labCells (recX1 b n1 x1).2.labs) ∧ RecAt w' lv (recX1 b n1 x1).2 := by
  have CN := Lib.hid (fun W y (hy : RSt w0 v b g W y) => rds_number w0 v b g W y hrow hl hy)
  have CX := Lib.hid (fun W y (hy : RSt w0 v b g W y) => rds_text w0 v b g W y hrow hl hy)
  have CC := Lib.hid (fun W y (hy : RSt w0 v b g W y) => rds_count w0 v b g W y 16 (by decide) hrow hl hy)
  have CZ := Lib.hid (fun (n : Nat) W (h1 : n < 18446744073709551616) => var_Zag (n : Int) W (by omega) (by omega))
  clear hrow
  obtain ⟨hgl, hgw0, hbw⟩ := hst.facts w h
  have hR : recX1 b n1 x1 = ((recX1 b n1 x1).1, (recX1 b n1 x1).2) := rfl
  unfold recF1
  unfold recX1 at hR ⊢
  simp only at hR ⊢
  clear hR
  obtain ⟨n2, hn2⟩ : ∃ n, rdV b num 0 x1 = n := ⟨_, rfl⟩
  obtain ⟨x2, hx2⟩ : ∃ n, rdS b num x1 = n := ⟨_, rfl⟩
  rw [hn2, hx2]
  obtain ⟨n, hn⟩ : ∃ n, rdV b (cntN 16) 0 x2 = n := ⟨_, rfl⟩
  obtain ⟨x3, hx3⟩ : ∃ n, rdS b (cntN 16) x2 = n := ⟨_, rfl⟩
  rw [hn, hx3]
  obtain ⟨L, hL⟩ : ∃ L, rdLabsV b n x3 = L := ⟨_, rfl⟩
  obtain ⟨x4, hx4⟩ : ∃ L, rdLabsS b n x3 = L := ⟨_, rfl⟩
  rw [hL, hx4]
  obtain ⟨S, hS⟩ : ∃ S, rdV b strP ⟨#[]⟩ x4 = S := ⟨_, rfl⟩
  obtain ⟨x5, hx5⟩ : ∃ S, rdS b strP x4 = S := ⟨_, rfl⟩
  rw [hS, hx5]
  have C1 := Lib.hid (fun W (hy : S0 W) => hst.num W hy)
  have C2 := Lib.hid (fun W (hy : RSt w0 v b g W x1) => CN.out W x1 hy)
  have C3 := Lib.hid (fun W (hy : RSt w0 v b g W x2) => CC.out W x2 hy)
  have C4 := Lib.hid (fun W (hy : RSt w0 v b g W x4) => CX.out W x4 hy)
  have hz1 := hst.lt
  have CZ1 := Lib.hid (fun W => CZ.out _ W hz1)
  rw [hn2, hx2] at C2
  rw [hn, hx3] at C3
  rw [hS, hx5] at C4
  have HL := Lib.hid hL
  have HX4 := Lib.hid hx4
  clear hn2 hx2 hn hx3 hL hx4 hS hx5 CN CC CZ
  generalize zag (n1 : Int) = Z at *
  have hra := hst.keptB _ _ h (belowA (o := .cells #[.int .i64 0, .int .u64 0, .slice none 0 0, .string ⟨#[]⟩] 27) (Below.refl w.heap.size w))
  have hB0 : Below w.heap.size w (w.alloc (.cells #[.int .i64 0, .int .u64 0, .slice none 0 0, .string ⟨#[]⟩] 27)) := belowA (Below.refl _ _)
  have hs0 : (w.alloc (.cells #[.int .i64 0, .int .u64 0, .slice none 0 0, .string ⟨#[]⟩] 27)).heap.size = w.heap.size + 1 := by simp
  have hh0 : (w.alloc (.cells #[.int .i64 0, .int .u64 0, .slice none 0 0, .string ⟨#[]⟩] 27)).heap[w.heap.size]? = some (.cells #[.int .i64 0, .int .u64 0, .slice none 0 0, .string ⟨#[]⟩] 27 (0, 0)) := heap_alloc_new _ _
  go_enter Tryd.func38, Tryd.ntmps38
  go_upto_region 1 with fail
  generalize w.alloc (.cells #[.int .i64 0, .int .u64 0, .slice none 0 0, .string ⟨#[]⟩] 27) = wa at *
  go_upto_region 2 with (first
    | (go_at_call 69; refine (C1.out _ (by assumption)).mono ?_; rintro en w1 ⟨rfl, hg1, hr1⟩)
    | (go_at_call 69; refine (C2.out _ (by assumption)).mono ?_; rintro en w2 ⟨rfl, hg2, hr2⟩)
    | (go_at_call 68; refine (CZ1.out _).mono ?_; rintro en wz ⟨rfl, rfl⟩))
  have hg02 := grown_trans (grown_trans (grown_of_below hB0 (some g)) hg1) hg2
  have hsz2 : w.heap.size < w2.heap.size := by have := hg1.size; have := hg2.size; omega
  have hh2 : w2.heap[w.heap.size]? = some (.cells #[.int .i64 0, .int .u64 0, .slice none 0 0, .string ⟨#[]⟩] 27 (0, 0)) := by
    rw [hg2.block _ (by have := hg1.size; omega) (fun e => by have := Option.some.inj e; omega), hg1.block _ (by omega) (fun e => by have := Option.some.inj e; omega)]
    exact hh0
  have hba : Below w2.heap.size w2 (w2.alloc (.cells #[.int .i64 Z, .int .u64 (n2 : Int), .slice none 0 0, .string ⟨#[]⟩] 27)) := belowA (Below.refl _ _)
  have hMk : Mk (w2.heap.size + 1) w.heap.size w2.heap.size (.int .i64 Z) (.int .u64 (n2 : Int)) (.slice none 0 0) ⟨#[]⟩ [] (w2.alloc (.cells #[.int .i64 Z, .int .u64 (n2 : Int), .slice none 0 0, .string ⟨#[]⟩] 27)) :=
    ⟨⟨_, rfl, by rw [heap_alloc_old _ _ hsz2]; exact hh2⟩, heap_alloc_new _ _, World.ownsRow_nil _ _ _ _, hsz2, by omega⟩
  have hr2b := hr2.keptB hba
  have hg2b := grown_trans hg02 (grown_of_below hba (some g))
  have hsb : (w2.alloc (.cells #[.int .i64 Z, .int .u64 (n2 : Int), .slice none 0 0, .string ⟨#[]⟩] 27)).heap.size = w2.heap.size + 1 := by simp
  clear hg02 hg1 hg2 hh2 hh0 hba hr1 hra hB0 hs0 hr2
  generalize w2.alloc (.cells #[.int .i64 Z, .int .u64 (n2 : Int), .slice none 0 0, .string ⟨#[]⟩] 27) = wb at *
  generalize w2.heap.size = bx at *
  go_wp2_with (go_at_call 42; refine (C3.out _ (by assumption)).mono ?_; rintro en w3 ⟨rfl, hn16, hg3, hr3⟩)
  have hMk3 := hMk.kept hg3 (fun k hk => by cases hk; omega)
  have hg3b := grown_trans hg2b hg3
  have hn0 : n ≤ 9000000000000000000 := by omega
  have hs3 : bx < w3.heap.size := by have := hg3.size; omega
  clear hMk hg2b hr2b C1 C2 C3 CZ1 hg3 hsb wa wb w1
  go_loopw [4, 13] (fun _ iv wr => ∃ (k : Nat) (lv : Value) (P : List Lab) (y : RS), iv = .int .i64 k ∧ k ≤ n ∧ P.length = k ∧ P ++ rdLabsV b (n - k) y = L ∧ rdLabsS b (n - k) y = x4 ∧ (∀ z ∈ P, z.1.size ≤ b.length ∧ z.2.size ≤ b.length) ∧ RSt w0 v b g wr y ∧ Mk (bx + 1) w.heap.size bx (.int .i64 Z) (.int .u64 (n2 : Int)) lv ⟨#[]⟩ P wr ∧ w.grownBy wr (some g)) (fun _ iv _ => n - (intOf iv).toNat)
  case atStart => exact ⟨0, _, [], x3, rfl, Nat.zero_le _, rfl, HL.out, HX4.out, fun z hz => by simp at hz, hr3, hMk3, hg3b⟩
  case round =>
    obtain ⟨k, lv, P, y, rfl, hk, hPk, hP, hY, hsz, hry, hMk, hgr⟩ := hrel
    have HP := Lib.hid hP
    have HY := Lib.hid hY
    have HSZ := Lib.hid hsz
    have HPK := Lib.hid hPk
    clear hP hY hsz hPk
    by_cases hlt : k < n
    · obtain ⟨m, hm⟩ : ∃ m, n - k = m + 1 := ⟨n - k - 1, by omega⟩
      have hP := HP.out
      have hY := HY.out
      rw [hm] at hP hY
      unfold rdLabsV at hP
      unfold rdLabsS at hY
      unfold rdLabS at hP hY
      unfold rdLabV at hP
      obtain ⟨t1, ht1⟩ : ∃ t, rdV b strP ⟨#[]⟩ y = t := ⟨_, rfl⟩
      obtain ⟨y1, hy1⟩ : ∃ t, rdS b strP y = t := ⟨_, rfl⟩
      rw [ht1, hy1] at hP
      rw [hy1] at hY
      have T1 := Lib.hid (fun W (hy : RSt w0 v b g W y) => CX.out W y hy)
      have T2 := Lib.hid (fun W (hy : RSt w0 v b g W y1) => CX.out W y1 hy)
      obtain ⟨t2, ht2⟩ : ∃ t, rdV b strP ⟨#[]⟩ y1 = t := ⟨_, rfl⟩
      obtain ⟨y2, hy2⟩ : ∃ t, rdS b strP y1 = t := ⟨_, rfl⟩
      rw [ht2, hy2] at hP
      rw [hy2] at hY
      rw [ht1, hy1] at T1
      rw [ht2, hy2] at T2
      rw [List.append_cons] at hP
      have HP2 := Lib.hid hP
      have HY2 := Lib.hid hY
      have hm2 : n - (k + 1) = m := by omega
      have HM2 := Lib.hid hm2
      have hPk : P.length ≤ n := by have := HPK.out; omega
      clear hP hY ht1 hy1 ht2 hy2 hm hm2 HP HY
      have hsr := hgr.size
      have i1 : (k : Int) < (n : Int) := by omega
      go_upto_region 5 with (go_at_call 70; refine (T1.out _ (by assumption)).mono ?_; rintro en w4 ⟨rfl, hg4, hr4, hz4⟩)
      have hMk4 := hMk.kept hg4 (fun k hk => by cases hk; omega)
      have hg4b := grown_trans hgr hg4
      have hb5 : Below w4.heap.size w4 (w4.alloc (.cells #[.string t1, .string ⟨#[]⟩] 47)) := belowA (Below.refl _ _)
      have hh5 : (w4.alloc (.cells #[.string t1, .string ⟨#[]⟩] 47)).heap[w4.heap.size]? = some (.cells #[.string t1, .string ⟨#[]⟩] 47 (0, 0)) := heap_alloc_new _ _
      have hs5 : (w4.alloc (.cells #[.string t1, .string ⟨#[]⟩] 47)).heap.size = w4.heap.size + 1 := by simp
      have hr5 := hr4.keptB hb5
      have hMk5 := hMk4.keptB hb5
      have hg5b := grown_trans hg4b (grown_of_below hb5 (some g))
      have hs4 := hg4.size
      have hbx4 : bx < w4.heap.size := (Array.getElem?_eq_some_iff.1 hMk4.c1).1
      have hlvn : ∀ j, lv.ownBlock = some j → j < w4.heap.size := fun j hj => (hMk4.own.lt j hj).2
      clear hMk4 hg4b hr4 hb5 hg4 hMk hgr hry
      generalize w4.alloc (.cells #[.string t1, .string ⟨#[]⟩] 47) = w5 at *
      generalize w4.heap.size = bl at *
      go_upto_region 6 with (go_at_call 70; refine (T2.out _ (by assumption)).mono ?_; rintro en w6 ⟨rfl, hg6, hr6, hz6⟩; have hh6 : w6.heap[bl]? = some (.cells #[.string t1, .string ⟨#[]⟩] 47 (0, 0)) := (by rw [hg6.block bl (by omega) (fun e => by have := Option.some.inj e; omega)]; exact hh5); have f6 : w6.frozen? ⟨bl, 1, none⟩ = false := Lib.frozen_of_heap hh6 1; have d6 : w6.cell? ⟨bl, 1, none⟩ = some (.string ⟨#[]⟩) := (by rw [Lib.cell_of_heap hh6]; rfl))
      have hMk6 := hMk5.kept hg6 (fun k hk => by cases hk; omega)
      have hg6b := grown_trans hg5b hg6
      have hh7 : (w6.setCell ⟨bl, 1, none⟩ (.string t2)).heap[bl]? = some (.cells #[.string t1, .string t2] 47 (0, 0)) := by rw [heap_setCell_same _ _ _ _ _ _ hh6]; rfl
      have hs7 : w6.heap.size ≤ (w6.setCell ⟨bl, 1, none⟩ (.string t2)).heap.size := by simp
      have hgs := grown_set w6 bl 1 (.string t2)
      have hMk7 := hMk6.kept' hgs (fun k hk => by cases hk; exact ⟨by omega, by omega, fun e => by have := hlvn _ e; omega⟩)
      have hr7 := hr6.kept hgs (fun k hk => by cases hk; exact ⟨by omega, by omega⟩)
      have hg7b := grown_new hg6b hgs (fun k hk => by cases hk; omega)
      have hs6 := hg6.size
      clear hgs hMk6 hr6 hg6b hg6 hg5b hMk5 hr5 hh6 f6 d6 hh5
      generalize w6.setCell ⟨bl, 1, none⟩ (.string t2) = w7 at *
      have e0 : w7.cell? ⟨bl, 0, none⟩ = some (.string t1) := by rw [Lib.cell_of_heap hh7]; rfl
      have e1 : w7.cell? ⟨bl, 1, none⟩ = some (.string t2) := by rw [Lib.cell_of_heap hh7]; rfl
      obtain ⟨-, -, q2, -, -, -⟩ := hMk7.cells
      obtain ⟨al, cl, hlv⟩ := owns_slice hMk7.own
      subst hlv
      have hb8 : Below w7.heap.size w7 (w7.alloc (.cells #[.string t1, .string t2] 47)) := belowA (Below.refl _ _)
      have hMk8 := hMk7.keptB hb8
      have hr8 := hr7.keptB hb8
      have hg8b := grown_trans hg7b (grown_of_below hb8 (some g))
      have hs8 : bx + 1 ≤ (w7.alloc (.cells #[.string t1, .string t2] 47)).heap.size := by simp; omega
      have hMK8 := Lib.hid hMk8
      have hMK7 := Lib.hid hMk7
      clear hMk8 hMk7
      go_wp2_with (at_builtin; refine wpList_append_src rfl _ _ _ _ rfl (bx + 1) EL _ _ _ rfl hMK8.out.own _ 1 [.string t1, .string t2] rfl (by exact src_last (cs := #[.string t1, .string t2]) Tryd.underlying25 1 1 2 rfl rfl (by simp [Value.oneCell'])) (by unfold maxLen; omega) (by omega) (by omega) ?_; intro v9 w9 hown9 hgr9 _ _; obtain ⟨a9, c9, rfl⟩ := owns_slice hown9; have hmk := Mk.more (z := (t1, t2)) hMK8.out hgr9 hown9; have hq9 := Mk.beside hMK8.out hgr9; have q9 := hq9.1; have f9 := hq9.2; clear hq9)
      have hgr9' : (w7.alloc (.cells #[.string t1, .string t2] 47)).grownBy w9 (Value.slice al P.length cl).ownBlock := hgr9
      have hlt9 : ∀ j, (Value.slice al P.length cl).ownBlock = some j → bx < j ∧ j < bl := fun j hj => ⟨by have := (hMK8.out.own.lt j hj).1; omega, hlvn j hj⟩
      have hr9 := (hr8.kept hgr9' (fun j hj => by have := hlt9 j hj; exact ⟨by omega, by omega⟩)).kept (grown_set w9 bx 2 (.slice a9 (P.length + 1) c9)) (fun j hj => by cases hj; exact ⟨by omega, by omega⟩)
      have hg9 := grown_new (grown_new hg8b hgr9' (fun j hj => by have := hlt9 j hj; omega)) (grown_set w9 bx 2 (.slice a9 (P.length + 1) c9)) (fun j hj => by cases hj; omega)
      go_roundw
      case rel => exact ⟨k + 1, _, P ++ [(t1, t2)], y2, by go_num, by omega, by have := HPK.out; simp; omega, by rw [HM2.out]; exact HP2.out, by rw [HM2.out]; exact HY2.out, fun z hz => by
        rcases List.mem_append.1 hz with hz | hz
        · exact HSZ.out z hz
        · have e : z = (t1, t2) := by simpa using hz
          subst e
          exact ⟨hz4, hz6⟩, hr9, hmk, hg9⟩
      case measure => simp [intOf]; omega
    · obtain rfl : k = n := by omega
      have hP := HP.out
      have hY := HY.out
      rw [Nat.sub_self] at hP hY
      have hY' : y = x4 := hY
      have hP' : P = L := by
        rw [← hP]
        show P = P ++ []
        rw [List.append_nil]
      subst hY' hP'
      have hPk : P.length ≤ k := by have := HPK.out; omega
      have hsr := hgr.size
      clear hP hY HP HY HL HX4 HPK CX
      have i1 : ¬ (k : Int) < (k : Int) := by omega
      go_upto_region 9 with (go_at_call 70; refine (C4.out _ (by assumption)).mono ?_; rintro en w4 ⟨rfl, hg4, hr4, hz4⟩; have hMk4 := hMk.kept hg4 (fun k hk => by cases hk; omega); have hc4 := hMk4.cells; have q3 := hc4.2.2.2.1; have f3 := hc4.2.2.2.2.2; clear hc4)
      have hs4 := hg4.size
      have hg4b := grown_trans hgr hg4
      have hbx4 : bx < w4.heap.size := (Array.getElem?_eq_some_iff.1 hMk4.c1).1
      have hMk5 := hMk4.line S
      have hr5 := hr4.kept (grown_set w4 bx 3 (.string S)) (fun j hj => by cases hj; exact ⟨by omega, by omega⟩)
      have hg5 := grown_new hg4b (grown_set w4 bx 3 (.string S)) (fun j hj => by cases hj; omega)
      have hs5 : bx < (w4.setCell ⟨bx, 3, none⟩ (.string S)).heap.size := by simp; omega
      clear hMk4 hr4 hg4 hg4b hMk hgr hry q3 f3
      generalize w4.setCell ⟨bx, 3, none⟩ (.string S) = w5 at *
      obtain ⟨al, cl, hlv⟩ := owns_slice hMk5.own
      subst hlv
      obtain ⟨q0, q1, q2, q3, -, -⟩ := hMk5.cells
      have hrec : RecAt w5 (.slice al P.length cl) ⟨Z, n2, P, S⟩ := ⟨LRow_own hMk5.own, fun z hz => by have := HSZ.out z hz; omega, by show P.length ≤ _; omega, by show S.size ≤ _; omega⟩
      cases x5 with
      | error E =>
        obtain ⟨hE, up, hr6⟩ := hr5
        obtain ⟨c0, c1, c2, f1, f2⟩ := hr6.cells
        have hE2 : (E == 0) = false := by simpa using hE
        have HE := Lib.hid hE
        clear hE
        obtain ⟨a0, a1, a2, a3, c3⟩ := hMk5.back
        obtain ⟨d0, d1, d2, d3, g0, g1, g2, g3⟩ := cells4 c3
        have hset := set4 c3 (.int .i64 Z) (.int .u64 (n2 : Int)) (.slice al P.length cl) (.string S)
        have hout := hMk5.out c3 hrec (.int .i64 Z) (.int .u64 (n2 : Int)) (.slice al P.length cl) (.string S)
        simp only at hout
        have HSET := Lib.hid hset
        have HOUT := Lib.hid hout
        clear hset hout c3
        go_wp2
        all_goals
          obtain ⟨k0, k1, k2, k3, -, -, -, -⟩ := cells4 HSET.out.1
          have hgo := grown_new hg5 HSET.out.2 (fun j hj => by cases hj; omega)
          have hro := hr6.kept HSET.out.2 (fun j hj => by cases hj; exact ⟨by omega, by omega⟩)
          refine bodyPost_ret (v := recV ⟨Z, n2, P, S⟩ (.slice al P.length cl)) (by simp [results, Tryd.results38, go_sem, k0, k1, k2, k3, recV]) rfl ⟨_, rfl, hgo, ⟨HE.out, up, hro⟩, HOUT.out.1, HOUT.out.2⟩
        | ok a =>
          have CK := Lib.hid (rec_Check ⟨Z, n2, P, S⟩ (.slice al P.length cl) w5 hrec (Utf8Tabs_below hT (RSt.facts hr5).2.2))
          have hr5' : Rd w0 v b g w5 a 0 := hr5
          obtain ⟨chk, hchk⟩ : ∃ c, chkRec ⟨Z, n2, P, S⟩ = c := ⟨_, rfl⟩
          rw [hchk] at CK
          have HCHK := Lib.hid hchk
          clear hchk
          unfold recV at CK
          simp only at CK
          obtain ⟨c0, c1, c2, f1, f2⟩ := hr5'.cells
          by_cases hc : chkRec ⟨Z, n2, P, S⟩ = 0
          all_goals
            go_upto_region 11 with (go_at_call 24; refine CK.out.mono ?_; rintro en w6 ⟨rfl, hb6⟩; have hr6 := hr5'.keptB hb6; have hc6 := hr6.cells; have g2 := hc6.2.2.1; have f6 := hc6.2.2.2.2; clear hc6)
            have hMk6 := (hMk5.keptB hb6).kept (grown_set w6 g 2 (.int .i64 chk)) (fun j hj => by cases hj; omega)
            have hg6 := grown_trans (grown_trans hg5 (grown_of_below hb6 (some g))) (grown_set w6 g 2 (.int .i64 chk))
            have hr7 := hr6.set2 chk
            have hs6 := hb6.size
            have hs7 : bx < (w6.setCell ⟨g, 2, none⟩ (.int .i64 chk)).heap.size := by simp; omega
            clear hr6 hMk5 hr5 hr5' q0 q1 q2 q3 c0 c1 c2 f1 f2 hb6 g2 f6
            generalize w6.setCell ⟨g, 2, none⟩ (.int .i64 chk) = w7 at *
            obtain ⟨q0, q1, q2, q3, -, -⟩ := hMk6.cells
            have hrec7 : RecAt w7 (.slice al P.length cl) ⟨Z, n2, P, S⟩ := ⟨LRow_own hMk6.own, hrec.2⟩
            obtain ⟨a0, a1, a2, a3, c3⟩ := hMk6.back
            obtain ⟨d0, d1, d2, d3, g0, g1, g2, g3⟩ := cells4 c3
            have hset := set4 c3 (.int .i64 Z) (.int .u64 (n2 : Int)) (.slice al P.length cl) (.string S)
            have hout := hMk6.out c3 hrec7 (.int .i64 Z) (.int .u64 (n2 : Int)) (.slice al P.length cl) (.string S)
            simp only at hout
            have HSET := Lib.hid hset
            have HOUT := Lib.hid hout
            clear hset hout c3
            go_wp2
            obtain ⟨k0, k1, k2, k3, -, -, -, -⟩ := cells4 HSET.out.1
            have hgo := grown_new hg6 HSET.out.2 (fun j hj => by cases hj; omega)
            have hro := hr7.kept HSET.out.2 (fun j hj => by cases hj; exact ⟨by omega, by omega⟩)
            refine bodyPost_ret (v := recV ⟨Z, n2, P, S⟩ (.slice al P.length cl)) (by simp [results, Tryd.results38, go_sem, k0, k1, k2, k3, recV]) rfl ⟨_, rfl, hgo, ?_, HOUT.out.1, HOUT.out.2⟩
            first
              | (have e : chk = 0 := (by rw [← HCHK.out]; exact hc)
                 subst e
                 exact hro)
              | (rw [HCHK.out]
                 exact ⟨by rw [← HCHK.out]; exact hc, _, RdZ.of hro⟩)
end Go.Proofs.YtkgnhimepcihpaaDoor
/-
  record.Get.
-/
namespace Go.Proofs.YtkgnhimepcihpaaDoor
open Go.RowKit
def noRec : Rec := ⟨0, 0, [], ⟨#[]⟩⟩
def getE (b : List UInt8) (z : Int) : Int := if z < 0 ∨ (b.length : Int) < z then 1 else match recP (b.drop z.toNat) with
  | .error E => E
  | .ok _ => 0
def getR (b : List UInt8) (z : Int) : Rec := if z < 0 ∨ (b.length : Int) < z then noRec else match recP (b.drop z.toNat) with
  | .error _ => noRec
  | .ok (r, _) => r
def getTo (b : List UInt8) (z : Int) : Nat := if z < 0 ∨ (b.length : Int) < z then 0 else match recP (b.drop z.toNat) with
  | .error _ => 0
  | .ok (_, c) => z.toNat + c
theorem no_labs (W : World) : LRow W (.slice none 0 0) [] := ⟨rfl, _, _, rfl, Nat.le_refl _, Nat.zero_le _, fun h => by simp at h⟩
/-- What the reader comes to at a place, and what is answered. -/
theorem get_states (w0 : World) (v : Value) (b : List UInt8) (g : Nat) (z : Int) (h1 : -9223372036854775808 ≤ z) (h2 : z ≤ 9223372036854775807) (hrow : argRow w0 v b.length 1 (Lib.byteCells b)) (hl : b.length ≤ 1000000000) :
    ∃ (S0 : World → Prop) (n1 : Nat) (x1 : RS), Start w0 v b g S0 n1 x1 ∧ (∀ W, RdZ w0 v b g W z 0 → S0 W) ∧
      ((∃ E, recF1 b n1 x1 = .error E ∧ getE b z = E ∧ getR b z = noRec ∧ getTo b z = 0) ∨ (∃ a, recF1 b n1 x1 = .ok a ∧ getE b z = 0 ∧ getR b z = (recX1 b n1 x1).2 ∧ getTo b z = a)) := by
  by_cases hz : z < 0 ∨ (b.length : Int) < z
  · refine ⟨_, _, _, start_out w0 v b g z hz h1 h2 hrow hl, fun _ h => h, .inl ⟨1, recF1_err b 1, ?_, ?_, ?_⟩⟩
    · unfold getE; rw [if_pos hz]
    · unfold getR; rw [if_pos hz]
    · unfold getTo; rw [if_pos hz]
  · obtain ⟨p, rfl⟩ : ∃ p : Nat, z = p := ⟨z.toNat, by omega⟩
    refine ⟨_, _, _, start_in w0 v b g (.ok p) hrow hl, fun W h => ⟨h.below, h.ge, h.own, by omega⟩, ?_⟩
    obtain ⟨hr1, hr2⟩ := rec_rel b p
    have hF : recF1 b (rdV b num 0 (.ok p)) (rdS b num (.ok p)) = recF b (.ok p) := rfl
    have hX : (recX1 b (rdV b num 0 (.ok p)) (rdS b num (.ok p))) = recX b (.ok p) := rfl
    rw [hF, hX, hr1]
    unfold getE getR getTo rdS
    rw [if_neg hz, if_neg hz, if_neg hz, Int.toNat_natCast]
    simp only
    cases h : recP (b.drop p) with
    | error E => exact .inl ⟨E, rfl, rfl, rfl, rfl⟩
    | ok u =>
      obtain ⟨r, c⟩ := u
      exact .inr ⟨p + c, rfl, rfl, (hr2 r c h).symm, rfl⟩
set_option maxRecDepth 100000 in
set_option maxHeartbeats 4000000 in
theorem record_Get (v : Value) (b : List UInt8) (z : Int) (w : World) (h1 : -9223372036854775808 ≤ z) (h2 : z ≤ 9223372036854775807) (hrow : argRow w v b.length 1 (Lib.byteCells b)) (hl : b.length ≤ 1000000000) (hT : Tabs w) :
    Calls Tryd.prog 13 #[v, .int .i64 z] w fun en w' => ∃ lv, en = .returned (.tuple #[recV (getR b z) lv, .int .i64 (getTo b z), .int .i64 (getE b z)]) ∧ RecAt w' lv (getR b z) ∧ w'.ownsRow w.heap.size 47 2 lv (getR b z).labs.length (labCells (getR b z).labs) ∧ Below w.heap.size w w' := by
  obtain ⟨S0, n1, x1, hst, hS0, hcase⟩ := get_states w v b (w.heap.size + 1) z h1 h2 hrow hl
  have CR := Lib.hid (fun W (h : S0 W) => rd_record w v b (w.heap.size + 1) W hst hrow hl hT h)
  obtain ⟨aa, ca, rfl⟩ : ∃ a c, v = .slice a b.length c := by
    obtain ⟨_, a, c, e, _⟩ := hrow
    exact ⟨a, c, e⟩
  have hB1 : Below w.heap.size w ((w.alloc (.cells #[.int .i64 0, .int .u64 0, .slice none 0 0, .string ⟨#[]⟩] 27)).alloc (.cells #[.slice aa b.length ca, .int .i64 z, .int .i64 0] 63)) := belowA (belowA (Below.refl _ _))
  have hs1 : ((w.alloc (.cells #[.int .i64 0, .int .u64 0, .slice none 0 0, .string ⟨#[]⟩] 27)).alloc (.cells #[.slice aa b.length ca, .int .i64 z, .int .i64 0] 63)).heap.size = w.heap.size + 2 := by simp
  have hc1 : ((w.alloc (.cells #[.int .i64 0, .int .u64 0, .slice none 0 0, .string ⟨#[]⟩] 27)).alloc (.cells #[.slice aa b.length ca, .int .i64 z, .int .i64 0] 63)).heap[w.heap.size]? = some (.cells #[.int .i64 0, .int .u64 0, .slice none 0 0, .string ⟨#[]⟩] 27 (0, 0)) := by
    rw [heap_alloc_old _ _ (by simp)]; exact heap_alloc_new _ _
  have hc2 : ((w.alloc (.cells #[.int .i64 0, .int .u64 0, .slice none 0 0, .string ⟨#[]⟩] 27)).alloc (.cells #[.slice aa b.length ca, .int .i64 z, .int .i64 0] 63)).heap[w.heap.size + 1]? = some (.cells #[.slice aa b.length ca, .int .i64 z, .int .i64 0] 63 (0, 0)) := by
    have := heap_alloc_new (w.alloc (.cells #[.int .i64 0, .int .u64 0, .slice none 0 0, .string ⟨#[]⟩] 27)) (.cells #[.slice aa b.length ca, .int .i64 z, .int .i64 0] 63)
    simpa using this
  obtain ⟨RR, hRR⟩ : ∃ r, getR b z = r := ⟨_, rfl⟩
  obtain ⟨RE, hRE⟩ : ∃ r, getE b z = r := ⟨_, rfl⟩
  obtain ⟨RT, hRT⟩ : ∃ r, getTo b z = r := ⟨_, rfl⟩
  rw [hRR, hRE, hRT] at hcase ⊢
  have HC := Lib.hid hcase
  clear hcase hRR hRE hRT hrow hst
  go_enter Tryd.func13, Tryd.ntmps13
  go_upto_region 2 with fail
  generalize (w.alloc (.cells #[.int .i64 0, .int .u64 0, .slice none 0 0, .string ⟨#[]⟩] 27)).alloc (.cells #[.slice aa b.length ca, .int .i64 z, .int .i64 0] 63) = w1 at *
  have hz1 : RdZ w (.slice aa b.length ca) b (w.heap.size + 1) w1 z 0 := ⟨hB1, by omega, hc2⟩
  have hs0 := hS0 w1 hz1
  obtain ⟨F, hF⟩ : ∃ F, recF1 b n1 x1 = F := ⟨_, rfl⟩
  obtain ⟨X, hX⟩ : ∃ F, (recX1 b n1 x1).2 = F := ⟨_, rfl⟩
  rw [hF, hX] at CR HC
  clear hF hX hz1 hS0 hc2
  unfold recV at CR
  go_upto_region 3 with (go_at_call 38; refine (CR.out _ hs0).mono ?_; rintro en w2 ⟨lv, rfl, hg2, hr2, hown2, hrec2⟩; obtain ⟨al, cl, rfl⟩ := owns_slice hown2)
  have hs2 := hg2.size
  have hcr2 : w2.heap[w.heap.size]? = some (.cells #[.int .i64 0, .int .u64 0, .slice none 0 0, .string ⟨#[]⟩] 27 (0, 0)) := by
    rw [hg2.block _ (by omega) (fun e => by have := Option.some.inj e; omega)]; exact hc1
  have hb3 : Below w2.heap.size w2 (w2.alloc (.cells #[.int .i64 X.time, .int .u64 (X.seq : Int), .slice al X.labs.length cl, .string X.line] 27)) := belowA (Below.refl _ _)
  have hcx : (w2.alloc (.cells #[.int .i64 X.time, .int .u64 (X.seq : Int), .slice al X.labs.length cl, .string X.line] 27)).heap[w2.heap.size]? = some (.cells #[.int .i64 X.time, .int .u64 (X.seq : Int), .slice al X.labs.length cl, .string X.line] 27 (0, 0)) := heap_alloc_new _ _
  have hcr3 : (w2.alloc (.cells #[.int .i64 X.time, .int .u64 (X.seq : Int), .slice al X.labs.length cl, .string X.line] 27)).heap[w.heap.size]? = some (.cells #[.int .i64 0, .int .u64 0, .slice none 0 0, .string ⟨#[]⟩] 27 (0, 0)) := by
    rw [heap_alloc_old _ _ (by omega)]; exact hcr2
  have hr3 := hr2.keptB hb3
  have hrec3 := hrec2.below hb3
  have hown3 := owns_below hown2 hb3
  have hB3 : Below w.heap.size w (w2.alloc (.cells #[.int .i64 X.time, .int .u64 (X.seq : Int), .slice al X.labs.length cl, .string X.line] 27)) := (hB1.grown hg2 (by omega) (fun k hk => by have := Option.some.inj hk; omega)).trans (hb3.mono (by omega))
  have hs3 : w2.heap.size < (w2.alloc (.cells #[.int .i64 X.time, .int .u64 (X.seq : Int), .slice al X.labs.length cl, .string X.line] 27)).heap.size := by simp
  clear hr2 hrec2 hown2 hb3 hg2 hcr2 hc1 hs0 hB1 CR
  generalize w2.alloc (.cells #[.int .i64 X.time, .int .u64 (X.seq : Int), .slice al X.labs.length cl, .string X.line] 27) = w3 at *
  generalize w2.heap.size = bx at *
  rcases HC.out with ⟨E, hF, rfl, rfl, rfl⟩ | ⟨a, hF, rfl, rfl, rfl⟩
  · subst hF
    clear HC
    obtain ⟨hE, up, hr4⟩ := hr3
    have hE' : (RE != 0) = true := by simpa using hE
    obtain ⟨c0, c1, c2, f1, f2⟩ := hr4.cells
    obtain ⟨d0, d1, d2, d3, g0, g1, g2, g3⟩ := cells4 hcr3
    clear hE
    go_upto_region 4 with fail
    have hset := Lib.hid (set4 hcr3 (.int .i64 0) (.int .u64 0) (.slice none 0 0) (.string ⟨#[]⟩))
    go_region
    all_goals
      go_wp2
      obtain ⟨k0, k1, k2, k3, -, -, -, -⟩ := cells4 hset.out.1
      have hB := (hB3.grown hset.out.2 hB3.size (fun k hk => by cases hk; exact Nat.le_refl _)).drew
      refine bodyPost_ret (v := .tuple #[recV noRec (.slice none 0 0), .int .i64 0, .int .i64 RE]) (by simp [results, Tryd.results13, go_sem, k0, k1, k2, k3, recV, noRec]) rfl ⟨.slice none 0 0, rfl, ⟨no_labs _, fun z hz => by simp [noRec] at hz, by decide, by decide⟩, World.ownsRow_nil _ _ _ _, hB⟩
  · subst hF
    clear HC
    have hr4 : Rd w (.slice aa b.length ca) b (w.heap.size + 1) w3 RT 0 := hr3
    obtain ⟨c0, c1, c2, f1, f2⟩ := hr4.cells
    obtain ⟨d0, d1, d2, d3, g0, g1, g2, g3⟩ := cells4 hcr3
    obtain ⟨e0, e1, e2, e3, -, -, -, -⟩ := cells4 hcx
    have hne : ¬ bx = w.heap.size := by omega
    go_upto_region 5 with fail
    have hset := Lib.hid (set4 hcr3 (.int .i64 RR.time) (.int .u64 (RR.seq : Int)) (.slice al RR.labs.length cl) (.string RR.line))
    have HREC := Lib.hid hrec3
    have HOWN := Lib.hid hown3
    clear hrec3 hown3
    go_region
    all_goals
      go_wp2
      obtain ⟨k0, k1, k2, k3, -, -, -, -⟩ := cells4 hset.out.1
      have hB := (hB3.grown hset.out.2 hB3.size (fun k hk => by cases hk; exact Nat.le_refl _)).drew
      have hown4 := (HOWN.out.kept hset.out.2 (by
        cases hv : (Value.slice al RR.labs.length cl).ownBlock with
        | none => exact .inl rfl
        | some j => exact .inr fun e => by have := (HOWN.out.lt j hv).1; have := Option.some.inj e; omega)).drew
      refine bodyPost_ret (v := .tuple #[recV RR (.slice al RR.labs.length cl), .int .i64 RT, .int .i64 0]) (by simp [results, Tryd.results13, go_sem, k0, k1, k2, k3, recV]) rfl ⟨.slice al RR.labs.length cl, rfl, ⟨LRow_own hown4, HREC.out.2⟩, owns_base hown4 (by omega), hB⟩
end Go.Proofs.YtkgnhimepcihpaaDoor
/-
  record.GetAll.
-/
namespace Go.Proofs.YtkgnhimepcihpaaDoor
open Go.RowKit
theorem ER : ElemT Tryd.prog 31 27 (.agg #[.int .i64 0, .int .u64 0, .slice none 0 0, .string ⟨#[]⟩]) 4 56 := ⟨Tryd.underlying31, by kernel_rfl, rfl, by decide⟩
/-- Records of the call's own, their labels too. -/
structure ROwn (w : World) (B : Nat) (v : Value) (Z : List RecL) : Prop where
  own : w.ownsRow B 27 4 v Z.length (recsCells Z)
  labs : ∀ z ∈ Z, w.ownsRow B 47 2 z.2 z.1.labs.length (labCells z.1.labs) ∧ RecAt w z.2 z.1
theorem ROwn.nil (w : World) (B : Nat) : ROwn w B (.slice none 0 0) [] := ⟨World.ownsRow_nil _ _ _ _, fun z hz => by simp at hz⟩
theorem ROwn.row {w : World} {B : Nat} {v : Value} {Z : List RecL} (h : ROwn w B v Z) : RRow w v Z := ⟨argRow_owns h.own, fun z hz => (h.labs z hz).2⟩
theorem own_kept {w w' : World} {B size n : Nat} {e : TypeId} {v : Value} {xs : List Value} {row : Option Nat} (h : w.ownsRow B e size v n xs) (hg : w.grownBy w' row) (hr : ∀ k, row = some k → k < B) : w'.ownsRow B e size v n xs :=
  h.kept hg (by
    cases hv : v.ownBlock with
    | none => exact .inl rfl
    | some j => exact .inr fun e => by have := (h.lt j hv).1; have := hr j e.symm; omega)
theorem ROwn.kept {w w' : World} {B : Nat} {v : Value} {Z : List RecL} {row : Option Nat} (h : ROwn w B v Z) (hg : w.grownBy w' row) (hr : ∀ k, row = some k → k < B) : ROwn w' B v Z :=
  ⟨own_kept h.own hg hr, fun z hz => by
    have h1 := own_kept (h.labs z hz).1 hg hr
    exact ⟨h1, LRow_own h1, (h.labs z hz).2.2⟩⟩
theorem ROwn.keptB {w w' : World} {B : Nat} {v : Value} {Z : List RecL} (h : ROwn w B v Z) (hb : Below w.heap.size w w') : ROwn w' B v Z := h.kept (grown_of_below hb none) (fun k hk => by cases hk)
/-- Rows of different types lie in different blocks. -/
theorem own_apart {w : World} {B B' size size' n n' : Nat} {e e' : TypeId} {v v' : Value} {xs xs' : List Value} (h : w.ownsRow B e size v n xs) (h' : w.ownsRow B' e' size' v' n' xs') (he : e ≠ e') {k : Nat} (hk : v.ownBlock = some k) : v'.ownBlock ≠ some k := by
  intro hk'
  rcases h.2 with ⟨rfl, _⟩ | ⟨g, cap, cur, rfl, _, hg, _⟩
  · cases hk
  · rcases h'.2 with ⟨rfl, _⟩ | ⟨g', cap', cur', rfl, _, hg', _⟩
    · cases hk'
    · have e1 : g = k := Option.some.inj hk
      have e2 : g' = k := Option.some.inj hk'
      subst e1
      subst e2
      rw [hg] at hg'
      have := Obj.cells.inj (Option.some.inj hg')
      exact he this.2.1
/-- A record more. -/
theorem ROwn.more {w w' : World} {B : Nat} {v v' : Value} {Z : List RecL} {z : RecL} (h : ROwn w B v Z) (hz : w.ownsRow B 47 2 z.2 z.1.labs.length (labCells z.1.labs) ∧ RecAt w z.2 z.1) (hg : w.grownBy w' v.ownBlock)
    (ho : w'.ownsRow B 27 4 v' (Z.length + 1) (recsCells Z ++ recCells z)) : ROwn w' B v' (Z ++ [z]) := by
  have e1 : (Z ++ [z]).length = Z.length + 1 := by simp
  have e2 : recsCells (Z ++ [z]) = recsCells Z ++ recCells z := by rw [recsCells_append]; simp [recsCells]
  refine ⟨by rw [e1, e2]; exact ho, fun y hy => ?_⟩
  have hy' : w.ownsRow B 47 2 y.2 y.1.labs.length (labCells y.1.labs) ∧ RecAt w y.2 y.1 := by
    rcases List.mem_append.1 hy with hy | hy
    · exact h.labs y hy
    · have e : y = z := by simpa using hy
      subst e
      exact hz
  have h1 : w'.ownsRow B 47 2 y.2 y.1.labs.length (labCells y.1.labs) := hy'.1.kept hg (by
    cases hv : y.2.ownBlock with
    | none => exact .inl rfl
    | some j => exact .inr fun e => own_apart hy'.1 h.own (by decide) hv e.symm)
  exact ⟨h1, LRow_own h1, hy'.2.2⟩
def allE (b : List UInt8) : Int := match getAll b with
  | .error E => E
  | .ok _ => 0
def allL (b : List UInt8) : List Rec := match getAll b with
  | .error _ => []
  | .ok l => l
/-- What is left to read, k records on. -/
def Fin (b : List UInt8) (k : Nat) (Z : List RecL) : RS → Prop
  | .error E => E ≠ 0 ∧ getAll b = .error E
  | .ok a => a ≤ b.length ∧ getAll b = match repP recP k (b.drop a) with
    | .error E => .error E
    | .ok (l, c) => if a + c < b.length then .error 6 else .ok (Z.map Prod.fst ++ l)
theorem rec_err {T : List UInt8} {E : Int} (h : recP T = .error E) : E ≠ 0 := by
  have hn : ∀ T E, num T = .error E → E ≠ 0 := fun T E h => by
    unfold num at h
    split at h
    · cases h
    · rename_i h0
      cases h
      exact h0
  have hs : ∀ T E, strP T = .error E → E ≠ 0 := fun T E h => by
    cases hh : num T with
    | error F => rw [txt_num_err hh] at h; cases h; exact hn _ _ hh
    | ok z =>
      obtain ⟨n, c⟩ := z
      by_cases hk : T.length - c < n
      · rw [txt_short hh hk] at h; cases h; decide
      · rw [txt_ok hh hk] at h; cases h
  have hl : ∀ k T E, repP labP k T = .error E → E ≠ 0 := fun k => by
    induction k with
    | zero => intro T E h; cases h
    | succ k ih =>
      intro T E h
      unfold repP at h
      split at h
      · rename_i F hF
        cases h
        unfold labP seqP at hF
        split at hF
        · rename_i G hG
          cases hF
          exact hs _ _ hG
        · split at hF
          · rename_i G hG
            cases hF
            exact hs _ _ hG
          · cases hF
      · split at h
        · rename_i F hF
          cases h
          exact ih _ _ hF
        · cases h
  unfold recP chkP mapP seqP cntP at h
  cases h1 : num T with
  | error F => rw [h1] at h; cases h; exact hn _ _ h1
  | ok z =>
    obtain ⟨n1, c1⟩ := z
    rw [h1] at h
    simp only at h
    cases h2 : num (T.drop c1) with
    | error F => rw [h2] at h; cases h; exact hn _ _ h2
    | ok z =>
      obtain ⟨n2, c2⟩ := z
      rw [h2] at h
      simp only at h
      cases h3 : num (T.drop (c1 + c2)) with
      | error F => rw [h3] at h; cases h; exact hn _ _ h3
      | ok z =>
        obtain ⟨n3, c3⟩ := z
        rw [h3] at h
        simp only at h
        by_cases h16 : 16 < n3
        · rw [if_pos h16] at h
          cases h
          decide
        · rw [if_neg h16] at h
          cases h4 : repP labP n3 ((T.drop (c1 + c2)).drop c3) with
          | error F => rw [h4] at h; cases h; exact hl _ _ _ h4
          | ok z =>
            obtain ⟨L, c4⟩ := z
            rw [h4] at h
            simp only at h
            cases h5 : strP ((T.drop (c1 + c2)).drop (c3 + c4)) with
            | error F => rw [h5] at h; cases h; exact hs _ _ h5
            | ok z =>
              obtain ⟨s, c5⟩ := z
              rw [h5] at h
              simp only at h
              split at h
              · cases h
              · rename_i hc
                cases h
                exact hc
theorem fin_step {b : List UInt8} {k a : Nat} {Z : List RecL} {lv : Value} (h : Fin b (k + 1) Z (.ok a)) : Fin b k (Z ++ [((recX b (.ok a)).2, lv)]) (recF b (.ok a)) := by
  obtain ⟨hr1, hr2⟩ := rec_rel b a
  rw [hr1]
  obtain ⟨ha, h⟩ := h
  unfold rdS
  simp only
  unfold repP at h
  cases hp : recP (b.drop a) with
  | error E =>
    rw [hp] at h
    exact ⟨rec_err hp, h⟩
  | ok z =>
    obtain ⟨r, c⟩ := z
    have hl := rec_reads.len hp
    rw [List.length_drop] at hl
    rw [hp] at h
    simp only at h ⊢
    refine ⟨by omega, ?_⟩
    rw [h, List.drop_drop, hr2 r c hp]
    cases repP recP k (b.drop (a + c)) with
    | error E => rfl
    | ok z =>
      obtain ⟨l, d⟩ := z
      simp only
      rw [show a + (c + d) = a + c + d by omega]
      simp
theorem fin_start (b : List UInt8) : Fin b (rdV b (cntN 65536) 0 (.ok 0)) [] (rdS b (cntN 65536) (.ok 0)) := by
  unfold rdV rdS cntN
  simp only [List.drop_zero]
  have hg : getAll b = match batP b with
    | .error e => .error e
    | .ok (l, c) => if c < b.length then .error 6 else .ok l := rfl
  unfold batP cntP at hg
  cases h : num b with
  | error E =>
    rw [h] at hg
    refine ⟨?_, hg⟩
    unfold num at h
    split at h
    · cases h
    · rename_i h0
      cases h
      exact h0
  | ok z =>
    obtain ⟨n, c⟩ := z
    have hl := num_reads.len h
    rw [h] at hg
    simp only at hg ⊢
    by_cases hn : 65536 < n
    · rw [if_pos hn] at hg
      simp only [if_pos hn]
      exact ⟨by decide, hg⟩
    · rw [if_neg hn] at hg
      simp only [if_neg hn, Nat.zero_add]
      refine ⟨hl, ?_⟩
      rw [hg]
      cases repP recP n (b.drop c) with
      | error E => rfl
      | ok z => rfl
end Go.Proofs.YtkgnhimepcihpaaDoor
/-
  record.GetAll: the walk.
-/
namespace Go.Proofs.YtkgnhimepcihpaaDoor
open Go.RowKit
theorem all_err {b : List UInt8} {E : Int} (h : getAll b = .error E) : allE b = E ∧ allL b = [] := by
  unfold allE allL
  rw [h]
  exact ⟨rfl, rfl⟩
theorem all_ok {b : List UInt8} {l : List Rec} (h : getAll b = .ok l) : allE b = 0 ∧ allL b = l := by
  unfold allE allL
  rw [h]
  exact ⟨rfl, rfl⟩
set_option maxRecDepth 100000 in
set_option maxHeartbeats 4000000 in
theorem record_GetAll (v : Value) (b : List UInt8) (w : World) (hrow : argRow w v b.length 1 (Lib.byteCells b)) (hl : b.length ≤ 1000000000) (hT : Tabs w) :
    Calls Tryd.prog 15 #[v] w fun en w' => ∃ v' Z, en = .returned (.tuple #[v', .int .i64 (allE b)]) ∧ Z.map Prod.fst = allL b ∧ ROwn w' w.heap.size v' Z ∧ Below w.heap.size w w' := by
  have CR := Lib.hid (fun W a (h : RSt w v b w.heap.size W (.ok a)) => rd_record w v b w.heap.size W (start_in w v b w.heap.size (.ok a) hrow hl) hrow hl hT h)
  have CC := Lib.hid (fun W (h : RSt w v b w.heap.size W (.ok 0)) => rds_count w v b w.heap.size W (.ok 0) 65536 (by decide) hrow hl h)
  obtain ⟨aa, ca, rfl⟩ : ∃ a c, v = .slice a b.length c := by
    obtain ⟨_, a, c, e, _⟩ := hrow
    exact ⟨a, c, e⟩
  have hB1 : Below w.heap.size w (w.alloc (.cells #[.slice aa b.length ca, .int .i64 0, .int .i64 0] 63)) := belowA (Below.refl _ _)
  have hc1 : (w.alloc (.cells #[.slice aa b.length ca, .int .i64 0, .int .i64 0] 63)).heap[w.heap.size]? = some (.cells #[.slice aa b.length ca, .int .i64 0, .int .i64 0] 63 (0, 0)) := heap_alloc_new _ _
  have hs1 : (w.alloc (.cells #[.slice aa b.length ca, .int .i64 0, .int .i64 0] 63)).heap.size = w.heap.size + 1 := by simp
  have hfs := fin_start b
  obtain ⟨n, hn⟩ : ∃ n, rdV b (cntN 65536) 0 (.ok 0) = n := ⟨_, rfl⟩
  obtain ⟨x1, hx1⟩ : ∃ x, rdS b (cntN 65536) (.ok 0) = x := ⟨_, rfl⟩
  rw [hn, hx1] at CC hfs
  have HFS := Lib.hid hfs
  clear hn hx1 hfs hrow
  obtain ⟨RE, hRE⟩ : ∃ r, allE b = r := ⟨_, rfl⟩
  obtain ⟨RL, hRL⟩ : ∃ r, allL b = r := ⟨_, rfl⟩
  rw [hRE, hRL]
  have HRE := Lib.hid hRE
  have HRL := Lib.hid hRL
  clear hRE hRL
  have hst : Rd w (.slice aa b.length ca) b w.heap.size (w.alloc (.cells #[.slice aa b.length ca, .int .i64 0, .int .i64 0] 63)) 0 0 := ⟨hB1, Nat.le_refl _, hc1, Nat.zero_le _⟩
  go_enter Tryd.func15, Tryd.ntmps15
  go_upto_region 3 with fail
  generalize w.alloc (.cells #[.slice aa b.length ca, .int .i64 0, .int .i64 0] 63) = w1 at *
  go_wp2_with (go_at_call 42; refine (CC.out _ hst).mono ?_; rintro en w2 ⟨rfl, hn16, hg2, hr2⟩)
  have hB2 : Below w.heap.size w w2 := hB1.grown hg2 (by omega) (fun k hk => by cases hk; exact Nat.le_refl _)
  have hs2 : w.heap.size < w2.heap.size := by have := hg2.size; omega
  have hn0 : n ≤ 65536 := hn16
  clear hst hc1 hg2 hn16 CC hB1 hs1
  go_loopw [5, 6] (fun lv nv wr => ∃ (k : Nat) (Z : List RecL) (y : RS), nv = .int .i64 (k : Int) ∧ Z.length + k = n ∧ Fin b k Z y ∧ RSt w (.slice aa b.length ca) b w.heap.size wr y ∧ ROwn wr (w.heap.size + 1) lv Z ∧ Below w.heap.size w wr) (fun _ nv _ => (intOf nv).toNat)
  case atStart => exact ⟨n, [], x1, rfl, by simp, HFS.out, hr2, ROwn.nil _ _, hB2⟩
  case round =>
    obtain ⟨k, Z, y, rfl, hZk, hfin, hry, hown, hbr⟩ := hrel
    have HFIN := Lib.hid hfin
    have HZK := Lib.hid hZk
    have hZn : Z.length + k ≤ 65536 := by omega
    clear hfin hZk
    have hsr := (RSt.facts hry).1
    cases y with
    | error E =>
      obtain ⟨hE, hga⟩ := HFIN.out
      obtain ⟨hE', up, hr4⟩ := hry
      obtain ⟨e1, e2⟩ := all_err hga
      have hRE := HRE.out
      have hRL := HRL.out
      rw [e1] at hRE
      rw [e2] at hRL
      subst hRE hRL
      obtain ⟨c0, c1, c2, f1, f2⟩ := hr4.cells
      have q1 : (E == 0) = false := by simpa using hE
      have q2 : (E != 0) = true := by simpa using hE
      clear hE hE' HRE HRL HFIN hga e1 e2
      by_cases hk : 0 < k
      · have i1 : (0 : Int) < (k : Int) := by omega
        go_wp2
        go_quiet (fail)
        go_wp2
        go_ret2
        exact ⟨_, [], rfl, rfl, ROwn.nil _ _, below_drewN hbr _⟩
      · have i1 : ¬ (0 : Int) < (k : Int) := by omega
        go_wp2
        go_quiet (fail)
        go_wp2
        go_ret2
        exact ⟨_, [], rfl, rfl, ROwn.nil _ _, below_drewN hbr _⟩
    | ok a =>
      have hr4 : Rd w (.slice aa b.length ca) b w.heap.size wr a 0 := hry
      obtain ⟨c0, c1, c2, f1, f2⟩ := hr4.cells
      by_cases hk : 0 < k
      · obtain ⟨m, rfl⟩ : ∃ m, k = m + 1 := ⟨k - 1, by omega⟩
        have i1 : (0 : Int) < ((m + 1 : Nat) : Int) := by omega
        obtain ⟨X, hX⟩ : ∃ X, (recX b (.ok a)).2 = X := ⟨_, rfl⟩
        obtain ⟨F, hF⟩ : ∃ X, recF b (.ok a) = X := ⟨_, rfl⟩
        have CA := Lib.hid (CR.out wr a hry)
        have eX : recX1 b (rdV b num 0 (.ok a)) (rdS b num (.ok a)) = recX b (.ok a) := rfl
        have eF : recF1 b (rdV b num 0 (.ok a)) (rdS b num (.ok a)) = recF b (.ok a) := rfl
        rw [eX, eF, hX, hF] at CA
        have hfs := fun lv => fin_step (lv := lv) HFIN.out
        rw [hX, hF] at hfs
        have HFS2 := Lib.hid hfs
        clear eX eF hX hF hfs
        unfold recV at CA
        go_wp2_with (first
          | (go_at_call 38; refine CA.out.mono ?_; rintro en w4 ⟨lv, rfl, hg4, hr4', hown4, hrec4⟩; obtain ⟨al, cl, rfl⟩ := owns_slice hown4; have hsz4 := hg4.size)
          | (at_builtin; refine wpList_append_src rfl _ _ _ _ rfl (w.heap.size + 1) ER _ _ _ rfl ((hown.kept hg4 (fun j hj => by cases hj; omega)).own.alloc _) _ 1 (recCells (X, .slice al X.labs.length cl)) rfl (by exact src_last (cs := (recCells (X, .slice al X.labs.length cl)).toArray) Tryd.underlying31 1 1 4 rfl rfl (by simp [recCells, Value.oneCell'])) (by unfold maxLen; omega) (by omega) (by simp; omega) ?_; intro v5 w5 hown5 hgr5 _ _))
        have hba := belowA (o := .cells #[.int .i64 X.time, .int .u64 (X.seq : Int), .slice al X.labs.length cl, .string X.line] 27) (Below.refl w4.heap.size w4)
        have hown6 := (hown.kept hg4 (fun j hj => by cases hj; omega)).keptB hba
        have hlab6 := owns_below (owns_base hown4 (show w.heap.size + 1 ≤ wr.heap.size by omega)) hba
        have hmore := ROwn.more (z := (X, .slice al X.labs.length cl)) hown6 ⟨hlab6, hrec4.below hba⟩ hgr5 hown5
        have hltr : ∀ j, _ → w.heap.size + 1 ≤ j := fun j hj => (hown6.own.lt j hj).1
        have hr6 := (hr4'.keptB hba).kept hgr5 (fun j hj => by have := hltr j hj; exact ⟨by omega, by omega⟩)
        have hB6 : Below w.heap.size w w5 := ((hbr.grown hg4 (by omega) (fun j hj => by cases hj; exact Nat.le_refl _)).trans (hba.mono (by omega))).grown hgr5 (by simp; omega) (fun j hj => by have := hltr j hj; omega)
        go_roundw
        case rel => exact ⟨m, _, F, by go_num, by have := HZK.out; simp; omega, HFS2.out _, hr6, hmore, hB6⟩
        case measure => simp [intOf]
      · obtain rfl : k = 0 := by omega
        obtain ⟨ha, hga⟩ := HFIN.out
        have hga' : getAll b = if a < b.length then .error 6 else .ok (Z.map Prod.fst) := by
          rw [hga]
          show (if a + 0 < b.length then _ else _) = _
          simp
        by_cases hlt : a < b.length
        · rw [if_pos hlt] at hga'
          obtain ⟨e1, e2⟩ := all_err hga'
          have hRE := HRE.out
          have hRL := HRL.out
          rw [e1] at hRE
          rw [e2] at hRL
          subst hRE hRL
          have i1 : (a : Int) < (b.length : Int) := by omega
          clear HRE HRL HFIN hga hga' e1 e2
          go_wp2
          go_ret2
          exact ⟨_, [], rfl, rfl, ROwn.nil _ _, hbr⟩
        · rw [if_neg hlt] at hga'
          obtain ⟨e1, e2⟩ := all_ok hga'
          have hRE := HRE.out
          have hRL := HRL.out
          rw [e1] at hRE
          rw [e2] at hRL
          subst hRE hRL
          have i1 : ¬ (a : Int) < (b.length : Int) := by omega
          clear HRE HRL HFIN hga hga' e1 e2
          go_wp2
          go_ret2
          have hown2 : ROwn wr w.heap.size _ Z := ⟨owns_base hown.own (Nat.le_succ _), fun z hz => ⟨owns_base (hown.labs z hz).1 (Nat.le_succ _), (hown.labs z hz).2⟩⟩
          first | exact ⟨_, Z, rfl, rfl, hown2, hbr⟩ | exact ⟨_, rfl, Z, rfl, hown2, hbr⟩
end Go.Proofs.YtkgnhimepcihpaaDoor
