/-
  json.writer: a strings.Builder at the head of a struct: copyCheck, WriteByte, WriteString, String.
-/
import Derived.Test.YtljnbbdhmlfhjaaGreatDoorJsG
import Derived.Test.YtljnbbdhmlfhjaaGreatDoorUtfV
import Derived.Lib.Builder
import Derived.Shelf.Strings.Builder1
import Derived.Test.YtljnbbdhmlfhjaaGreatDoorJsOne
import Derived.StillTailTactics
namespace Go.Proofs.YtljnbbdhmlfhjaaGreatDoor
open Go.RowKit
/-- What is no row of bytes stays, but for the writer's own block. -/
def KeepW (q : Nat) (w w' : World) : Prop := ∀ k cs T fr, w.heap[k]? = some (.cells cs T fr) → T ≠ 5 → k ≠ q → w'.heap[k]? = some (.cells cs T fr)
theorem KeepW.refl (q : Nat) (w : World) : KeepW q w w := fun _ _ _ _ h _ _ => h
theorem KeepW.trans {q : Nat} {w w1 w2 : World} (h : KeepW q w w1) (k : KeepW q w1 w2) : KeepW q w w2 := fun i cs T fr hi hT hb => k i cs T fr (h i cs T fr hi hT hb) hT hb
theorem KeepW.set (q j : Nat) (v : Value) (w : World) : KeepW q w (w.setCell ⟨q, j, none⟩ v) := fun k cs T fr h _ hb => by
  rw [Below.heap_setCell _ _ _ _ (show k ≠ q from hb)]
  exact h
theorem KeepW.alloc (q : Nat) (w : World) (o : Obj) : KeepW q w (w.alloc o) := fun k cs T fr h _ _ => by
  rw [heap_alloc_old _ _ (Array.getElem?_eq_some_iff.1 h).1]
  exact h
theorem KeepW.below {q : Nat} {w w' : World} (hb : Below w.heap.size w w') : KeepW q w w' := fun k cs T fr h _ _ => by
  rw [hb.block k (Array.getElem?_eq_some_iff.1 h).1]
  exact h
theorem KeepW.grown {q B n : Nat} {v : Value} {xs : List Value} {w w' : World} (hown : w.ownsRow B 5 1 v n xs) (hg : w.grownBy w' v.ownBlock) : KeepW q w w' := fun k cs T fr h hT _ => by
  rw [hg.block k (Array.getElem?_eq_some_iff.1 h).1 (fun e => Lib.ownBlock_ne hown h hT e.symm)]
  exact h
def wrObj (pv v : Value) (bad : Bool) : Obj := .cells #[pv, v, .bool bad] 107 (0, 0)
/-- The writer: what it has written, and whether it is bad. -/
structure WAt (B q : Nat) (pv v : Value) (out : Bs) (bad : Bool) (w : World) : Prop where
  base : B ≤ q
  own : w.heap[q]? = some (wrObj pv v bad)
  row : w.ownsRow B 5 1 v out.length (Lib.byteCells out)
  off : v.ownBlock ≠ some q
def WSt (B q : Nat) (out : Bs) (bad : Bool) (w : World) : Prop := ∃ pv v, (pv = .pointer none ∨ pv = .pointer (some ⟨q, 0, none⟩)) ∧ WAt B q pv v out bad w
/-- What a call of the writer's leaves. -/
def Went (B q : Nat) (w w' : World) : Prop := Below B w w' ∧ KeepW q w w'
theorem Went.refl (B q : Nat) (w : World) : Went B q w w := ⟨Below.refl _ _, KeepW.refl _ _⟩
theorem Went.trans {B q : Nat} {w w1 w2 : World} (h : Went B q w w1) (k : Went B q w1 w2) : Went B q w w2 := ⟨h.1.trans k.1, h.2.trans k.2⟩
theorem WAt.lt {B q : Nat} {pv v : Value} {out : Bs} {bad : Bool} {w : World} (h : WAt B q pv v out bad w) : q < w.heap.size := (Array.getElem?_eq_some_iff.1 h.own).1
theorem WSt.lt {B q : Nat} {out : Bs} {bad : Bool} {w : World} (h : WSt B q out bad w) : q < w.heap.size := by
  obtain ⟨_, _, _, h⟩ := h
  exact h.lt
theorem WSt.base {B q : Nat} {out : Bs} {bad : Bool} {w : World} (h : WSt B q out bad w) : B ≤ q := by
  obtain ⟨_, _, _, h⟩ := h
  exact h.base
theorem WSt.size {B q : Nat} {out : Bs} {bad : Bool} {w : World} (h : WSt B q out bad w) : B ≤ w.heap.size := Nat.le_trans h.base (Nat.le_of_lt h.lt)
theorem WSt.keptB {B q : Nat} {out : Bs} {bad : Bool} {w w' : World} (h : WSt B q out bad w) (hb : Below w.heap.size w w') : WSt B q out bad w' := by
  obtain ⟨pv, v, hp, h⟩ := h
  exact ⟨pv, v, hp, h.base, by rw [hb.block q h.lt]; exact h.own, owns_below h.row hb, h.off⟩
theorem Went.below {B q : Nat} {w w' : World} (hb : Below w.heap.size w w') (hB : B ≤ w.heap.size) : Went B q w w' := ⟨hb.mono hB, KeepW.below hb⟩
theorem WAt.cells {B q : Nat} {pv v : Value} {out : Bs} {bad : Bool} {w : World} (h : WAt B q pv v out bad w) :
    (w.cell? ⟨q, 0, none⟩ = some pv ∧ w.cell? ⟨q, 1, none⟩ = some v ∧ w.cell? ⟨q, 2, none⟩ = some (.bool bad)) ∧ ∀ j, w.frozen? ⟨q, j, none⟩ = false :=
  ⟨⟨by rw [Lib.cell_of_heap h.own]; rfl, by rw [Lib.cell_of_heap h.own]; rfl, by rw [Lib.cell_of_heap h.own]; rfl⟩, fun j => Lib.frozen_of_heap h.own j⟩
theorem WAt.shape {B q : Nat} {pv v : Value} {out : Bs} {bad : Bool} {w : World} (h : WAt B q pv v out bad w) : w.shape? q = some (107, 3) := by
  have := h.own
  simp [World.shape?, this, wrObj]
theorem WAt.setP {B q : Nat} {pv v pv' : Value} {out : Bs} {bad : Bool} {w : World} (h : WAt B q pv v out bad w) : WAt B q pv' v out bad (w.setCell ⟨q, 0, none⟩ pv') := by
  refine ⟨h.base, by rw [heap_setCell_same _ _ _ _ _ _ h.own]; rfl, ?_, h.off⟩
  exact h.row.kept (row := some q) ⟨rfl, rfl, rfl, by simp, fun k _ hk => Below.heap_setCell _ _ _ _ (fun e => hk (by simp [e]))⟩ (.inr h.off)
/-- The flag turns. -/
theorem WSt.setBad {B q : Nat} {out : Bs} {bad : Bool} {w : World} (h : WSt B q out bad w) (b : Bool) : WSt B q out b (w.setCell ⟨q, 2, none⟩ (.bool b)) ∧ Went B q w (w.setCell ⟨q, 2, none⟩ (.bool b)) := by
  obtain ⟨pv, v, hp, h⟩ := h
  refine ⟨⟨pv, v, hp, h.base, by rw [heap_setCell_same _ _ _ _ _ _ h.own]; rfl, ?_, h.off⟩, (Below.refl B w).setCell (p := ⟨q, 2, none⟩) h.base _, KeepW.set _ _ _ _⟩
  exact h.row.kept (row := some q) ⟨rfl, rfl, rfl, by simp, fun k _ hk => Below.heap_setCell _ _ _ _ (fun e => hk (by simp [e]))⟩ (.inr h.off)
set_option maxHeartbeats 1000000 in
set_option maxRecDepth 100000 in
theorem wcheck_used (b : Nat) (w : World) (h0 : w.cell? ⟨b, 0, none⟩ = some (.pointer (some ⟨b, 0, none⟩))) :
    Calls Tryz.prog 116 #[.pointer (some ⟨b, 0, none⟩)] w fun e w' => e = .returned (.tuple #[]) ∧ w' = w := by
  obtain ⟨j, hj, _⟩ := Option.map_eq_some_iff.1 (show (Tryz.prog.info? 105).map (·.size) = some 2 by kernel_rfl)
  go_enter Tryz.func116, Tryz.ntmps116
  go_wp2
  rw [Lib.run_neq_ptr_same w _ Tryz.underlying103 hj]
  go_wp2
  go_end0
  exact ⟨rfl, rfl⟩
set_option maxHeartbeats 1000000 in
set_option maxRecDepth 100000 in
theorem wcheck_fresh (b : Nat) (w : World) (h0 : w.cell? ⟨b, 0, none⟩ = some (.pointer none)) (hsh : w.shape? b = some (107, 3)) (hfz : w.frozen? ⟨b, 0, none⟩ = false) :
    Calls Tryz.prog 116 #[.pointer (some ⟨b, 0, none⟩)] w fun e w' => e = .returned (.tuple #[]) ∧ w' = w.setCell ⟨b, 0, none⟩ (.pointer (some ⟨b, 0, none⟩)) := by
  obtain ⟨j, hj, hjs⟩ := Option.map_eq_some_iff.1 (show (Tryz.prog.info? 105).map (·.size) = some 2 by kernel_rfl)
  go_enter Tryz.func116, Tryz.ntmps116
  go_wp2
  rw [Lib.run_to_unsafe w ⟨b, 0, none⟩ Tryz.underlying103 Tryz.underlying201 hj (by rw [hjs]; decide) hsh (Nat.zero_lt_succ 2)]
  simp only [Result.andThen]
  rw [Oper.upon_value]
  go_wp2
  rw [run_callFunc_extern Tryz.func147 (by kernel_rfl) (by kernel_rfl) (by kernel_rfl) (e := Extern.AbiNoEscape.same) (by kernel_rfl)]
  rw [Lib.run_noEscape]
  simp only [Result.andThen]
  rw [Oper.upon_value]
  go_wp2
  rw [Lib.run_from_unsafe w ⟨b, 0, none⟩ Tryz.underlying201 Tryz.underlying103 hj hsh (by kernel_rfl)]
  simp only [Result.andThen]
  rw [Oper.upon_value]
  go_wp2
  go_end0
  exact ⟨rfl, rfl⟩
def WUsed (B q : Nat) (out : Bs) (bad : Bool) (w : World) : Prop := ∃ v, WAt B q (.pointer (some ⟨q, 0, none⟩)) v out bad w
theorem WUsed.st {B q : Nat} {out : Bs} {bad : Bool} {w : World} (h : WUsed B q out bad w) : WSt B q out bad w := by
  obtain ⟨v, h⟩ := h
  exact ⟨_, v, .inr rfl, h⟩
theorem wcheck (B q : Nat) (out : Bs) (bad : Bool) (w : World) (h : WSt B q out bad w) :
    Calls Tryz.prog 116 #[.pointer (some ⟨q, 0, none⟩)] w fun e w' => e = .returned (.tuple #[]) ∧ WUsed B q out bad w' ∧ Went B q w w' := by
  obtain ⟨pv, v, hp, h⟩ := h
  rcases hp with rfl | rfl
  · refine (wcheck_fresh q w h.cells.1.1 h.shape (h.cells.2 0)).mono ?_
    rintro e w' ⟨rfl, rfl⟩
    exact ⟨rfl, ⟨v, h.setP⟩, (Below.refl B w).setCell (p := ⟨q, 0, none⟩) h.base _, KeepW.set _ _ _ _⟩
  · refine (wcheck_used q w h.cells.1.1).mono ?_
    rintro e w' ⟨rfl, rfl⟩
    exact ⟨rfl, ⟨v, h⟩, Went.refl _ _ _⟩
set_option maxHeartbeats 2000000 in
set_option maxRecDepth 100000 in
theorem w_byte (B q : Nat) (out : Bs) (bad : Bool) (c : UInt8) (z : Int) (hz : z = (c.toNat : Int)) (w : World) (h : WSt B q out bad w) (hlen : out.length + 1 ≤ 140737488355328) :
    Calls Tryz.prog 91 #[.pointer (some ⟨q, 0, none⟩), .int .u8 z] w fun e w' => e = .returned .nilIface ∧ WSt B q (out ++ [c]) bad w' ∧ Went B q w w' := by
  have E8 : ElemT Tryz.prog 22 5 (.int .u8 0) 1 1 := ⟨Tryz.underlying22, by kernel_rfl, rfl, by decide⟩
  have hBw := h.size
  have CC := wcheck B q out bad w h
  have HZ := Lib.hid hz
  clear h hz
  go_enter Tryz.func91, Tryz.ntmps91
  go_wp2_with (go_at_call 116; refine CC.mono ?_)
  rintro e w1 ⟨rfl, ⟨v, h1⟩, hw1⟩
  have hlt := h1.lt
  obtain ⟨⟨c0, c1, c2⟩, hfz⟩ := h1.cells
  have hs1 := hw1.1.size
  have HW1 := Lib.hid hw1
  have H1 := Lib.hid h1
  clear hw1 h1 CC
  go_wp2_with (at_builtin; refine wpList_append_src rfl _ _ _ _ rfl B E8 _ _ _ rfl (H1.out.row.alloc _) _ 1 [.int .u8 z] rfl (by exact src_last (cs := #[.int .u8 z]) Tryz.underlying22 1 1 1 rfl rfl (by simp [Value.oneCell'])) (by unfold maxLen; omega) (by omega) (by simp; omega) ?_)
  intro v' w2 hown' hgrow _ _
  have hb2 : w2.heap[q]? = some (wrObj (.pointer (some ⟨q, 0, none⟩)) v bad) := by
    rw [hgrow.block q (by simp; omega) (fun e => H1.out.off e.symm), heap_alloc_old w1 _ hlt]
    exact H1.out.own
  have d0 : w2.cell? ⟨q, 0, none⟩ = some (.pointer (some ⟨q, 0, none⟩)) := by rw [Lib.cell_of_heap hb2]; rfl
  have d1 : w2.cell? ⟨q, 1, none⟩ = some v := by rw [Lib.cell_of_heap hb2]; rfl
  have f1 : w2.frozen? ⟨q, 1, none⟩ = false := Lib.frozen_of_heap hb2 1
  have HO := Lib.hid (And.intro hown' hgrow)
  obtain ⟨g, cap, rfl⟩ := owns_slice hown'
  have HB2 := Lib.hid hb2
  clear hown' hgrow hb2
  go_wp2
  go_ret
  have hne := Lib.ownBlock_ne HO.out.1 HB2.out (by decide)
  refine ⟨rfl, ⟨_, _, .inr rfl, H1.out.base, ?_, ?_, hne⟩, HW1.out.trans ⟨?_, ?_⟩⟩
  · rw [heap_setCell_same _ _ _ _ _ _ HB2.out]; rfl
  · have := HO.out.1.kept (row := some q) (w' := w2.setCell ⟨q, 1, none⟩ (.slice g (out.length + 1) cap)) ⟨rfl, rfl, rfl, by simp, fun k _ hk => Below.heap_setCell _ _ _ _ (fun e => hk (by simp [e]))⟩ (.inr hne)
    rw [List.length_append, List.length_singleton, byteCells_append]
    rw [HZ.out] at this
    exact this
  · exact (((Below.refl B w1).alloc (by omega) _).grown HO.out.2 (by simp; omega) (fun k hk => (H1.out.row.lt k hk).1)).setCell (p := ⟨q, 1, none⟩) H1.out.base _
  · exact ((KeepW.alloc _ _ _).trans (KeepW.grown (H1.out.row.alloc _) HO.out.2)).trans (KeepW.set _ _ _ _)
set_option maxHeartbeats 2000000 in
set_option maxRecDepth 100000 in
theorem w_string (B q : Nat) (out : Bs) (bad : Bool) (s : ByteArray) (w : World) (h : WSt B q out bad w) (hlen : out.length + s.size ≤ 140737488355328) :
    Calls Tryz.prog 85 #[.pointer (some ⟨q, 0, none⟩), .string s] w fun e w' => e = .returned (.tuple #[.int .i64 s.size, .nilIface]) ∧ WSt B q (out ++ s.data.toList) bad w' ∧ Went B q w w' := by
  obtain ⟨i0, hi, hz0, hz1, hz2⟩ := info_parts (show (Tryz.prog.info? 5).map (fun i => (i.zero, i.size, i.bytes)) = some (some (.int .u8 0), 1, 1) by kernel_rfl)
  have hBw := h.size
  have CC := wcheck B q out bad w h
  clear h
  go_enter Tryz.func85, Tryz.ntmps85
  go_wp2_with (go_at_call 116; refine CC.mono ?_)
  rintro e w1 ⟨rfl, ⟨v, h1⟩, hw1⟩
  have hlt := h1.lt
  obtain ⟨⟨c0, c1, c2⟩, hfz⟩ := h1.cells
  have hs1 := hw1.1.size
  have HW1 := Lib.hid hw1
  have H1 := Lib.hid h1
  clear hw1 h1 CC
  go_wp2_with (at_builtin; refine Lib.wpList_append_own_string _ rfl _ _ 22 9 rfl B 5 i0 Tryz.underlying22 Tryz.underlying9 hi hz0 hz1 hz2 _ _ _ rfl H1.out.row s rfl ?c3 ?c4 ?c5 ?_)
  case c3 => unfold maxLen; omega
  case c4 => omega
  case c5 => omega
  intro v' w2 hown' hgrow _
  have hb2 : w2.heap[q]? = some (wrObj (.pointer (some ⟨q, 0, none⟩)) v bad) := by
    rw [hgrow.block q hlt (fun e => H1.out.off e.symm)]
    exact H1.out.own
  have d0 : w2.cell? ⟨q, 0, none⟩ = some (.pointer (some ⟨q, 0, none⟩)) := by rw [Lib.cell_of_heap hb2]; rfl
  have d1 : w2.cell? ⟨q, 1, none⟩ = some v := by rw [Lib.cell_of_heap hb2]; rfl
  have f1 : w2.frozen? ⟨q, 1, none⟩ = false := Lib.frozen_of_heap hb2 1
  have HO := Lib.hid (And.intro hown' hgrow)
  obtain ⟨ao, cap, rfl⟩ := owns_slice hown'
  have HB2 := Lib.hid hb2
  clear hown' hgrow hb2
  go_wp2
  go_ret2
  have hne := Lib.ownBlock_ne HO.out.1 HB2.out (by decide)
  refine ⟨rfl, ⟨_, _, .inr rfl, H1.out.base, ?_, ?_, hne⟩, HW1.out.trans ⟨?_, ?_⟩⟩
  · rw [heap_setCell_same _ _ _ _ _ _ HB2.out]; rfl
  · have := HO.out.1.kept (row := some q) (w' := w2.setCell ⟨q, 1, none⟩ (.slice ao (out.length + s.size) cap)) ⟨rfl, rfl, rfl, by simp, fun k _ hk => Below.heap_setCell _ _ _ _ (fun e => hk (by simp [e]))⟩ (.inr hne)
    rw [List.length_append, byteCells_append, show s.data.toList.length = s.size from by simp [ByteArray.size_data]]
    have e : Lib.strCells s = Lib.byteCells s.data.toList := by simp [Lib.strCells, Lib.byteCells]
    rw [e] at this
    exact this
  · exact ((Below.refl B w1).grown HO.out.2 (by omega) (fun k hk => (H1.out.row.lt k hk).1)).setCell (p := ⟨q, 1, none⟩) H1.out.base _
  · exact (KeepW.grown H1.out.row HO.out.2).trans (KeepW.set _ _ _ _)
end Go.Proofs.YtljnbbdhmlfhjaaGreatDoor
/-
  json.writer: String.
-/
namespace Go.Proofs.YtljnbbdhmlfhjaaGreatDoor
open Go.RowKit
set_option maxHeartbeats 2000000 in
set_option maxRecDepth 100000 in
theorem w_text (B q : Nat) (l : Bs) (bad : Bool) (w : World) (h : WSt B q l bad w) (h0 : l ≠ []) :
    Calls Tryz.prog 49 #[.pointer (some ⟨q, 0, none⟩)] w fun e w' => e = .returned (.string ⟨l.toArray⟩) ∧ Below B w w' := by
  obtain ⟨p, v, hp, hat⟩ := h
  have hown := hat.row
  have hl0 : l.length ≠ 0 := by simpa using h0
  obtain ⟨g, cap, cur, rfl, hbg, hg, hnc, hcm, hcs, htake⟩ : ∃ g cap cur, v = .slice (some ⟨g, 0, none⟩) l.length cap ∧ B ≤ g ∧ w.heap[g]? = some (.cells cur 5 (0, 0)) ∧ l.length ≤ cap ∧ cap ≤ maxLen ∧ cur.size = cap * 1 ∧ cur.toList.take (l.length * 1) = Lib.byteCells l := by
    rcases hown.2 with ⟨_, hz⟩ | ⟨g, cap, cur, hv, r⟩
    · exact absurd hz hl0
    · exact ⟨g, cap, cur, hv, r⟩
  have c1 : w.drew.cell? ⟨q, 1, none⟩ = some (.slice (some ⟨g, 0, none⟩) l.length cap) := hat.cells.1.2.1
  have hSD : (Builtin.unsafeSliceData_ #[22] 149 #[.slice (some ⟨g, 0, none⟩) l.length cap]).run Tryz.prog w.drew = .ok (.pointer (some ⟨g, 0, none⟩)) w.drew :=
    Lib.run_unsafeSliceData_row _ _ _ _ _ _ (by omega)
  have hUS : (Builtin.unsafeString_ #[149, 3] 9 #[.pointer (some ⟨g, 0, none⟩), .int .i64 l.length]).run Tryz.prog w.drew = .ok (.string ⟨l.toArray⟩) (w.drew.freeze ⟨g, 0, none⟩ l.length) := by
    refine Lib.run_unsafeString_row w.drew 149 3 9 5 Tryz.underlying149 (by kernel_rfl) g cur.size (by have hg' : w.drew.heap[g]? = some (.cells cur 5 (0, 0)) := hg; simp [World.shape?, hg']) l h0 (by omega) (by unfold maxLen at hcm; omega) ?_
    intro j x hx
    have := hown.cells (g := g) rfl j (.int .u8 x.toNat) (by simp [Lib.byteCells, hx])
    exact this
  clear hat hown
  go_enter Tryz.func49, Tryz.ntmps49
  go_wp2
  go_region
  all_goals (go_wp2; go_ret; exact ⟨rfl, Lib.below_freeze (Below.drew (Below.refl B w)) (p := ⟨g, 0, none⟩) hbg _⟩)
end Go.Proofs.YtljnbbdhmlfhjaaGreatDoor
/-
  A region that reads, whatever the order, ahead of a tail in one order.
-/
namespace Go.Proofs.YtljnbbdhmlfhjaaGreatDoor
open Go.RowKit
theorem still_of_quietJ {P : Program} {ops : Array Oper} {w1 : World} {Q : Act → Prop} : ∀ (l : List Oper) (a : Act), wpQuiet P ops (fun w' => w' = w1) Q l a → wpStill P ops w1 Q l a
  | [], _, h => h
  | o :: l, a, h => by
    unfold wpQuiet at h
    unfold wpStill
    split at h
    · rename_i hw
      rw [if_pos hw]
      obtain ⟨v, hv, hn⟩ := h
      have h1 := hv w1 rfl
      unfold Oper.quietAt at h1
      unfold Oper.still
      have h2 := still_of_quietJ l _ hn
      generalize (execOp a.eval o).run P w1 = r at h1
      cases r with
      | halt x w' => exact h1.elim
      | ok nx w' =>
        cases nx with
        | value u =>
          obtain ⟨e1, e2⟩ := h1
          subst e2
          exact ⟨e1, h2⟩
        | skip =>
          obtain ⟨e1, e2⟩ := h1
          subst e2
          exact ⟨e1, h2⟩
        | enter f args =>
          obtain ⟨e1, hc⟩ := h1
          subst e1
          exact ⟨rfl, v, hc, h2⟩
        | _ => exact h1.elim
    · rename_i hw
      rw [if_neg hw]
      exact still_of_quietJ l _ h
/-- A region that reads, whatever the order, ahead of a tail in one order. -/
theorem wp_region_tailJ {P : Program} {id : Nat} {Q : Exit → Act → World → Prop} {a : Act} {w : World} {l : List Oper} (n : Nat) (hm : P.follows .mixedOrders = true) (hB : Region.lexTailB .any l.toArray n = true)
    (h : wpQuiet P l.toArray (fun w' => w' = w.drew) (fun a' => wpList P l.toArray Q (l.drop n) a' w.drew) (l.take n) a) : (Code.region id l.toArray true).wp P Q a w :=
  wp_region_still_tail n hm hB (still_of_quietJ _ _ h)
end Go.Proofs.YtljnbbdhmlfhjaaGreatDoor
/-
  json.writer: text.
-/
namespace Go.Proofs.YtljnbbdhmlfhjaaGreatDoor
open Go.RowKit
def setJ : Bs := [34, 92, 8, 12, 10, 13, 9]
theorem idx_no : ∀ n, n < 256 → UInt8.ofNat n ∉ setJ → Lib.indexByte setJ (UInt8.ofNat n) = -1 := by decide +kernel
theorem idx_none {c : UInt8} (h : c ∉ setJ) : Lib.indexByte setJ c = -1 := by
  have := idx_no c.toNat c.toNat_lt (by rw [UInt8.ofNat_toNat]; exact h)
  rwa [UInt8.ofNat_toNat] at this
theorem escS_snoc (s : Bs) (c : UInt8) : escS (s ++ [c]) = escS s ++ escB c := by simp [escS]
theorem cell_byte (c : UInt8) : ((c.toNat : Int).toNat.toUInt8) = c := by simp
/-- One more byte is written. -/
theorem quote_step {B q : Nat} {out l l' x y : Bs} {bad : Bool} {c : UInt8} {w : World} (htk : l' = l ++ [c]) (hx : escB c = x ++ y) (h : WSt B q ((out ++ 34 :: escS l ++ x) ++ y) bad w) : WSt B q (out ++ 34 :: escS l') bad w := by
  have e : out ++ 34 :: escS l' = (out ++ 34 :: escS l ++ x) ++ y := by rw [htk, escS_snoc, hx]; simp
  rw [e]
  exact h
set_option maxRecDepth 100000 in
set_option maxHeartbeats 20000000 in
theorem w_quote (B q : Nat) (out : Bs) (bad : Bool) (s : ByteArray) (w : World) (h : WSt B q out bad w) (hT : Tabs w) (hl : out.length + 6 * s.size + 2 ≤ 70368744177664) :
    Calls Tryz.prog 87 #[.pointer (some ⟨q, 0, none⟩), .string s] w fun e w' => e = .returned (.tuple #[]) ∧ WSt B q (out ++ quote s.data.toList) (bad || !Lib.validD s.data.toList) w' ∧ Went B q w w' := by
  have CV := utf_Valid s w (by unfold maxLen; omega) hT
  obtain ⟨V, hV⟩ : ∃ V, Lib.validD s.data.toList = V := ⟨_, rfl⟩
  rw [hV] at CV ⊢
  have HW := Lib.hid h
  have hsz := h.size
  obtain ⟨pv, v, hp, hat⟩ := h
  obtain ⟨⟨-, -, c2⟩, hfz⟩ := hat.cells
  have f2 := hfz 2
  clear hp hat hfz hV hT
  go_enter Tryz.func87, Tryz.ntmps87
  go_upto_region 0 with fail
  go_cut [] from 7 to 18 (fun wx => WSt B q out (bad || !V) wx ∧ Went B q w wx)
  case first =>
    cases bad with
    | true =>
      go_wp2_with fail
      go_meet
      exact HW.out.setBad true
    | false =>
      have HSB := Lib.hid (fun W (hb : Below w.heap.size w W) b => (HW.out.keptB hb).setBad b)
      have HC := Lib.hid (fun W (hb : Below w.heap.size w W) => (show W.cell? ⟨q, 2, none⟩ = some (.bool false) ∧ W.frozen? ⟨q, 2, none⟩ = false from by
        obtain ⟨_, _, _, ha⟩ := HW.out.keptB hb
        exact ⟨ha.cells.1.2.2, ha.cells.2 2⟩))
      go_wp2_with (go_at_call 41; refine CV.mono ?_; rintro e w2 ⟨rfl, hb2⟩; obtain ⟨d2, g2⟩ := HC.out w2 hb2)
      go_meet
      have hh := HSB.out w2 hb2 (!V)
      exact ⟨by rw [Bool.false_or]; exact hh.1, (Went.below hb2 hsz).trans hh.2⟩
  case rest =>
    obtain ⟨hw1, hg1⟩ := hcut
    have CB := w_byte B q out (bad || !V) 34 34 rfl wc hw1 (by omega)
    have HG1 := Lib.hid hg1
    have HT0 := Lib.hid hl
    clear c2 f2 HW CV hw1 hg1 hl
    go_upto_region 3 with (go_at_call 91; refine CB.mono ?_; rintro e w2 ⟨rfl, hw2, hg2⟩; have H2 := Lib.hid (And.intro hw2 hg2); clear hw2 hg2)
    go_loopw [25] (fun iv wr => ∃ k : Nat, iv = .int .i64 k ∧ k ≤ s.size ∧ WSt B q (out ++ 34 :: escS (s.data.toList.take k)) (bad || !V) wr ∧ Went B q w wr) (fun iv _ => s.size - (intOf iv).toNat)
    case atStart => exact ⟨0, rfl, by omega, H2.out.1, HG1.out.trans H2.out.2⟩
    case round =>
      obtain ⟨k, rfl, hk, hwr, hgr⟩ := hrel
      have hlen : (out ++ 34 :: escS (s.data.toList.take k)).length + 7 ≤ 140737488355328 := by
        have h1 := escS_len (s.data.toList.take k)
        have h2 : (s.data.toList.take k).length ≤ k := by rw [List.length_take]; omega
        have h3 := HT0.out
        simp only [List.length_append, List.length_cons]
        omega
      have HLEN := Lib.hid hlen
      have H := Lib.hid (And.intro hwr hgr)
      clear hwr hgr hlen CB H2
      have hsb : s.size ≤ 70368744177664 := by have := HT0.out; omega
      by_cases hks : k < s.size
      · have htk : s.data.toList.take (k + 1) = s.data.toList.take k ++ [s[k]] := by
          have hl : k < s.data.toList.length := by simpa [ByteArray.size_data] using hks
          rw [List.take_succ_eq_append_getElem hl]
          rfl
        go_upto_region 6 with fail
        generalize s[k] = c at *
        have HTK := Lib.hid htk
        clear htk
        by_cases hsp : c ∈ setJ
        · simp only [setJ, List.mem_cons, List.not_mem_nil, or_false] at hsp
          rcases hsp with rfl | rfl | rfl | rfl | rfl | rfl | rfl
          · have CI : Calls Tryz.prog 118 #[.string ⟨#[34, 92, 8, 12, 10, 13, 9]⟩, .int .u8 34] wr fun e w' => e = .returned (.int .i64 0) ∧ w' = wr := Tryz.strings_IndexByte ⟨#[34, 92, 8, 12, 10, 13, 9]⟩ 34 wr
            have C1 := w_byte B q _ (bad || !V) 92 92 rfl wr H.out.1 (by have := HLEN.out; simp only [List.length_append, List.length_cons] at this ⊢; omega)
            go_upto_region 10 with (first | (go_at_call 118; refine CI.mono ?_; rintro e w2 ⟨rfl, rfl⟩) | (go_at_call 91; refine C1.mono ?_; rintro e w3 ⟨rfl, hw3, hg3⟩; have H3 := Lib.hid (And.intro hw3 hg3); clear hw3 hg3))
            have hdr : Below w3.heap.size w3 w3.drew := (Below.refl _ _).drew
            have C2 := w_byte B q _ (bad || !V) 34 34 rfl w3.drew (H3.out.1.keptB hdr) (by have := HLEN.out; simp only [List.length_append, List.length_cons, List.length_nil] at this ⊢; omega)
            have HG2 := Lib.hid (Went.below (q := q) hdr H3.out.1.size)
            clear hdr C1 CI
            refine wp_region_tailJ 5 (by kernel_rfl) (by kernel_rfl) ?_
            simp only [List.take_succ_cons, List.take_zero, List.drop_succ_cons, List.drop_zero]
            repeat (go_big_quiet_step (fail))
            refine wpQuiet_nil ?_
            change wpList _ _ _ _ _ w3.drew
            go_wp2_with (go_at_call 91; refine C2.mono ?_; rintro e w4 ⟨rfl, hw4, hg4⟩; have H4 := Lib.hid (And.intro hw4 hg4); clear hw4 hg4)
            go_roundw
            case rel => exact ⟨k + 1, by go_num, by omega, quote_step HTK.out rfl H4.out.1, H.out.2.trans (H3.out.2.trans (HG2.out.trans H4.out.2))⟩
            case measure => simp [intOf]; omega
          · have CI : Calls Tryz.prog 118 #[.string ⟨#[34, 92, 8, 12, 10, 13, 9]⟩, .int .u8 92] wr fun e w' => e = .returned (.int .i64 1) ∧ w' = wr := Tryz.strings_IndexByte ⟨#[34, 92, 8, 12, 10, 13, 9]⟩ 92 wr
            have C1 := w_byte B q _ (bad || !V) 92 92 rfl wr H.out.1 (by have := HLEN.out; simp only [List.length_append, List.length_cons] at this ⊢; omega)
            go_upto_region 10 with (first | (go_at_call 118; refine CI.mono ?_; rintro e w2 ⟨rfl, rfl⟩) | (go_at_call 91; refine C1.mono ?_; rintro e w3 ⟨rfl, hw3, hg3⟩; have H3 := Lib.hid (And.intro hw3 hg3); clear hw3 hg3))
            have hdr : Below w3.heap.size w3 w3.drew := (Below.refl _ _).drew
            have C2 := w_byte B q _ (bad || !V) 92 92 rfl w3.drew (H3.out.1.keptB hdr) (by have := HLEN.out; simp only [List.length_append, List.length_cons, List.length_nil] at this ⊢; omega)
            have HG2 := Lib.hid (Went.below (q := q) hdr H3.out.1.size)
            clear hdr C1 CI
            refine wp_region_tailJ 5 (by kernel_rfl) (by kernel_rfl) ?_
            simp only [List.take_succ_cons, List.take_zero, List.drop_succ_cons, List.drop_zero]
            repeat (go_big_quiet_step (fail))
            refine wpQuiet_nil ?_
            change wpList _ _ _ _ _ w3.drew
            go_wp2_with (go_at_call 91; refine C2.mono ?_; rintro e w4 ⟨rfl, hw4, hg4⟩; have H4 := Lib.hid (And.intro hw4 hg4); clear hw4 hg4)
            go_roundw
            case rel => exact ⟨k + 1, by go_num, by omega, quote_step HTK.out rfl H4.out.1, H.out.2.trans (H3.out.2.trans (HG2.out.trans H4.out.2))⟩
            case measure => simp [intOf]; omega
          · have CI : Calls Tryz.prog 118 #[.string ⟨#[34, 92, 8, 12, 10, 13, 9]⟩, .int .u8 8] wr fun e w' => e = .returned (.int .i64 2) ∧ w' = wr := Tryz.strings_IndexByte ⟨#[34, 92, 8, 12, 10, 13, 9]⟩ 8 wr
            have C1 := w_byte B q _ (bad || !V) 92 92 rfl wr H.out.1 (by have := HLEN.out; simp only [List.length_append, List.length_cons] at this ⊢; omega)
            go_upto_region 10 with (first | (go_at_call 118; refine CI.mono ?_; rintro e w2 ⟨rfl, rfl⟩) | (go_at_call 91; refine C1.mono ?_; rintro e w3 ⟨rfl, hw3, hg3⟩; have H3 := Lib.hid (And.intro hw3 hg3); clear hw3 hg3))
            have hdr : Below w3.heap.size w3 w3.drew := (Below.refl _ _).drew
            have C2 := w_byte B q _ (bad || !V) 98 98 rfl w3.drew (H3.out.1.keptB hdr) (by have := HLEN.out; simp only [List.length_append, List.length_cons, List.length_nil] at this ⊢; omega)
            have HG2 := Lib.hid (Went.below (q := q) hdr H3.out.1.size)
            clear hdr C1 CI
            refine wp_region_tailJ 5 (by kernel_rfl) (by kernel_rfl) ?_
            simp only [List.take_succ_cons, List.take_zero, List.drop_succ_cons, List.drop_zero]
            repeat (go_big_quiet_step (fail))
            refine wpQuiet_nil ?_
            change wpList _ _ _ _ _ w3.drew
            go_wp2_with (go_at_call 91; refine C2.mono ?_; rintro e w4 ⟨rfl, hw4, hg4⟩; have H4 := Lib.hid (And.intro hw4 hg4); clear hw4 hg4)
            go_roundw
            case rel => exact ⟨k + 1, by go_num, by omega, quote_step HTK.out rfl H4.out.1, H.out.2.trans (H3.out.2.trans (HG2.out.trans H4.out.2))⟩
            case measure => simp [intOf]; omega
          · have CI : Calls Tryz.prog 118 #[.string ⟨#[34, 92, 8, 12, 10, 13, 9]⟩, .int .u8 12] wr fun e w' => e = .returned (.int .i64 3) ∧ w' = wr := Tryz.strings_IndexByte ⟨#[34, 92, 8, 12, 10, 13, 9]⟩ 12 wr
            have C1 := w_byte B q _ (bad || !V) 92 92 rfl wr H.out.1 (by have := HLEN.out; simp only [List.length_append, List.length_cons] at this ⊢; omega)
            go_upto_region 10 with (first | (go_at_call 118; refine CI.mono ?_; rintro e w2 ⟨rfl, rfl⟩) | (go_at_call 91; refine C1.mono ?_; rintro e w3 ⟨rfl, hw3, hg3⟩; have H3 := Lib.hid (And.intro hw3 hg3); clear hw3 hg3))
            have hdr : Below w3.heap.size w3 w3.drew := (Below.refl _ _).drew
            have C2 := w_byte B q _ (bad || !V) 102 102 rfl w3.drew (H3.out.1.keptB hdr) (by have := HLEN.out; simp only [List.length_append, List.length_cons, List.length_nil] at this ⊢; omega)
            have HG2 := Lib.hid (Went.below (q := q) hdr H3.out.1.size)
            clear hdr C1 CI
            refine wp_region_tailJ 5 (by kernel_rfl) (by kernel_rfl) ?_
            simp only [List.take_succ_cons, List.take_zero, List.drop_succ_cons, List.drop_zero]
            repeat (go_big_quiet_step (fail))
            refine wpQuiet_nil ?_
            change wpList _ _ _ _ _ w3.drew
            go_wp2_with (go_at_call 91; refine C2.mono ?_; rintro e w4 ⟨rfl, hw4, hg4⟩; have H4 := Lib.hid (And.intro hw4 hg4); clear hw4 hg4)
            go_roundw
            case rel => exact ⟨k + 1, by go_num, by omega, quote_step HTK.out rfl H4.out.1, H.out.2.trans (H3.out.2.trans (HG2.out.trans H4.out.2))⟩
            case measure => simp [intOf]; omega
          · have CI : Calls Tryz.prog 118 #[.string ⟨#[34, 92, 8, 12, 10, 13, 9]⟩, .int .u8 10] wr fun e w' => e = .returned (.int .i64 4) ∧ w' = wr := Tryz.strings_IndexByte ⟨#[34, 92, 8, 12, 10, 13, 9]⟩ 10 wr
            have C1 := w_byte B q _ (bad || !V) 92 92 rfl wr H.out.1 (by have := HLEN.out; simp only [List.length_append, List.length_cons] at this ⊢; omega)
            go_upto_region 10 with (first | (go_at_call 118; refine CI.mono ?_; rintro e w2 ⟨rfl, rfl⟩) | (go_at_call 91; refine C1.mono ?_; rintro e w3 ⟨rfl, hw3, hg3⟩; have H3 := Lib.hid (And.intro hw3 hg3); clear hw3 hg3))
            have hdr : Below w3.heap.size w3 w3.drew := (Below.refl _ _).drew
            have C2 := w_byte B q _ (bad || !V) 110 110 rfl w3.drew (H3.out.1.keptB hdr) (by have := HLEN.out; simp only [List.length_append, List.length_cons, List.length_nil] at this ⊢; omega)
            have HG2 := Lib.hid (Went.below (q := q) hdr H3.out.1.size)
            clear hdr C1 CI
            refine wp_region_tailJ 5 (by kernel_rfl) (by kernel_rfl) ?_
            simp only [List.take_succ_cons, List.take_zero, List.drop_succ_cons, List.drop_zero]
            repeat (go_big_quiet_step (fail))
            refine wpQuiet_nil ?_
            change wpList _ _ _ _ _ w3.drew
            go_wp2_with (go_at_call 91; refine C2.mono ?_; rintro e w4 ⟨rfl, hw4, hg4⟩; have H4 := Lib.hid (And.intro hw4 hg4); clear hw4 hg4)
            go_roundw
            case rel => exact ⟨k + 1, by go_num, by omega, quote_step HTK.out rfl H4.out.1, H.out.2.trans (H3.out.2.trans (HG2.out.trans H4.out.2))⟩
            case measure => simp [intOf]; omega
          · have CI : Calls Tryz.prog 118 #[.string ⟨#[34, 92, 8, 12, 10, 13, 9]⟩, .int .u8 13] wr fun e w' => e = .returned (.int .i64 5) ∧ w' = wr := Tryz.strings_IndexByte ⟨#[34, 92, 8, 12, 10, 13, 9]⟩ 13 wr
            have C1 := w_byte B q _ (bad || !V) 92 92 rfl wr H.out.1 (by have := HLEN.out; simp only [List.length_append, List.length_cons] at this ⊢; omega)
            go_upto_region 10 with (first | (go_at_call 118; refine CI.mono ?_; rintro e w2 ⟨rfl, rfl⟩) | (go_at_call 91; refine C1.mono ?_; rintro e w3 ⟨rfl, hw3, hg3⟩; have H3 := Lib.hid (And.intro hw3 hg3); clear hw3 hg3))
            have hdr : Below w3.heap.size w3 w3.drew := (Below.refl _ _).drew
            have C2 := w_byte B q _ (bad || !V) 114 114 rfl w3.drew (H3.out.1.keptB hdr) (by have := HLEN.out; simp only [List.length_append, List.length_cons, List.length_nil] at this ⊢; omega)
            have HG2 := Lib.hid (Went.below (q := q) hdr H3.out.1.size)
            clear hdr C1 CI
            refine wp_region_tailJ 5 (by kernel_rfl) (by kernel_rfl) ?_
            simp only [List.take_succ_cons, List.take_zero, List.drop_succ_cons, List.drop_zero]
            repeat (go_big_quiet_step (fail))
            refine wpQuiet_nil ?_
            change wpList _ _ _ _ _ w3.drew
            go_wp2_with (go_at_call 91; refine C2.mono ?_; rintro e w4 ⟨rfl, hw4, hg4⟩; have H4 := Lib.hid (And.intro hw4 hg4); clear hw4 hg4)
            go_roundw
            case rel => exact ⟨k + 1, by go_num, by omega, quote_step HTK.out rfl H4.out.1, H.out.2.trans (H3.out.2.trans (HG2.out.trans H4.out.2))⟩
            case measure => simp [intOf]; omega
          · have CI : Calls Tryz.prog 118 #[.string ⟨#[34, 92, 8, 12, 10, 13, 9]⟩, .int .u8 9] wr fun e w' => e = .returned (.int .i64 6) ∧ w' = wr := Tryz.strings_IndexByte ⟨#[34, 92, 8, 12, 10, 13, 9]⟩ 9 wr
            have C1 := w_byte B q _ (bad || !V) 92 92 rfl wr H.out.1 (by have := HLEN.out; simp only [List.length_append, List.length_cons] at this ⊢; omega)
            go_upto_region 10 with (first | (go_at_call 118; refine CI.mono ?_; rintro e w2 ⟨rfl, rfl⟩) | (go_at_call 91; refine C1.mono ?_; rintro e w3 ⟨rfl, hw3, hg3⟩; have H3 := Lib.hid (And.intro hw3 hg3); clear hw3 hg3))
            have hdr : Below w3.heap.size w3 w3.drew := (Below.refl _ _).drew
            have C2 := w_byte B q _ (bad || !V) 116 116 rfl w3.drew (H3.out.1.keptB hdr) (by have := HLEN.out; simp only [List.length_append, List.length_cons, List.length_nil] at this ⊢; omega)
            have HG2 := Lib.hid (Went.below (q := q) hdr H3.out.1.size)
            clear hdr C1 CI
            refine wp_region_tailJ 5 (by kernel_rfl) (by kernel_rfl) ?_
            simp only [List.take_succ_cons, List.take_zero, List.drop_succ_cons, List.drop_zero]
            repeat (go_big_quiet_step (fail))
            refine wpQuiet_nil ?_
            change wpList _ _ _ _ _ w3.drew
            go_wp2_with (go_at_call 91; refine C2.mono ?_; rintro e w4 ⟨rfl, hw4, hg4⟩; have H4 := Lib.hid (And.intro hw4 hg4); clear hw4 hg4)
            go_roundw
            case rel => exact ⟨k + 1, by go_num, by omega, quote_step HTK.out rfl H4.out.1, H.out.2.trans (H3.out.2.trans (HG2.out.trans H4.out.2))⟩
            case measure => simp [intOf]; omega
        · have HCI := Lib.hid (fun W => (by
            have h := Tryz.strings_IndexByte ⟨#[34, 92, 8, 12, 10, 13, 9]⟩ (c.toNat : Int) W
            rw [cell_byte, show (⟨#[34, 92, 8, 12, 10, 13, 9]⟩ : ByteArray).data.toList = setJ from rfl, idx_none hsp] at h
            exact h : Calls Tryz.prog 118 #[.string ⟨#[34, 92, 8, 12, 10, 13, 9]⟩, .int .u8 (c.toNat : Int)] W fun e w' => e = .returned (.int .i64 (-1)) ∧ w' = W))
          have CI := HCI.out wr
          have hns : ¬ (c = 34 ∨ c = 92) ∧ c ≠ 8 ∧ c ≠ 12 ∧ c ≠ 10 ∧ c ≠ 13 ∧ c ≠ 9 := by
            simp only [setJ, List.mem_cons, List.not_mem_nil, or_false, not_or] at hsp
            obtain ⟨a1, a2, a3, a4, a5, a6, a7⟩ := hsp
            exact ⟨by simp [a1, a2], a3, a4, a5, a6, a7⟩
          have HNS := Lib.hid hns
          clear hsp hns HCI
          by_cases h32 : c.toNat < 32
          · have hne : ∀ d : UInt8, c ≠ d → c.toNat ≠ d.toNat := fun d hd e => hd (UInt8.toNat_inj.1 e)
            have n1 : c.toNat ≠ 8 := hne 8 HNS.out.2.1
            have n2 : c.toNat ≠ 12 := hne 12 HNS.out.2.2.1
            have n3 : c.toNat ≠ 10 := hne 10 HNS.out.2.2.2.1
            have n4 : c.toNat ≠ 13 := hne 13 HNS.out.2.2.2.2.1
            have n5 : c.toNat ≠ 9 := hne 9 HNS.out.2.2.2.2.2
            have hesc : escB c = ([92, 117, 48, 48] ++ [hexD (c.toNat / 16)]) ++ [hexD (c.toNat % 16)] := by
              unfold escB
              rw [if_neg HNS.out.1, if_neg HNS.out.2.1, if_neg HNS.out.2.2.1, if_neg HNS.out.2.2.2.1, if_neg HNS.out.2.2.2.2.1, if_neg HNS.out.2.2.2.2.2, if_pos h32]
              rfl
            have HE := Lib.hid hesc
            have CI2 : ∀ z : Int, z = (c.toNat : Int) → Calls Tryz.prog 118 #[.string ⟨#[34, 92, 8, 12, 10, 13, 9]⟩, .int .u8 z] wr fun e w' => e = .returned (.int .i64 (-1)) ∧ w' = wr := fun z hz => by rw [hz]; exact CI
            have C1 := w_string B q _ (bad || !V) ⟨#[92, 117, 48, 48]⟩ wr H.out.1 (by have := HLEN.out; show _ + 4 ≤ _; simp only [List.length_append, List.length_cons] at this ⊢; omega)
            have C2 := Lib.hid (fun (W : World) (z : Int) (hz : z = ((hexD (c.toNat / 16)).toNat : Int)) (hW : WSt B q (out ++ 34 :: escS (s.data.toList.take k) ++ [92, 117, 48, 48]) (bad || !V) W) => w_byte B q _ (bad || !V) (hexD (c.toNat / 16)) z hz W hW (by have := HLEN.out; simp only [List.length_append, List.length_cons, List.length_nil] at this ⊢; omega))
            have C3 := Lib.hid (fun (W : World) (z : Int) (hz : z = ((hexD (c.toNat % 16)).toNat : Int)) (hW : WSt B q ((out ++ 34 :: escS (s.data.toList.take k) ++ [92, 117, 48, 48]) ++ [hexD (c.toNat / 16)]) (bad || !V) W) => w_byte B q _ (bad || !V) (hexD (c.toNat % 16)) z hz W hW (by have := HLEN.out; simp only [List.length_append, List.length_cons, List.length_nil] at this ⊢; omega))
            have hv : c.toNat = 0 ∨ c.toNat = 1 ∨ c.toNat = 2 ∨ c.toNat = 3 ∨ c.toNat = 4 ∨ c.toNat = 5 ∨ c.toNat = 6 ∨ c.toNat = 7 ∨ c.toNat = 11 ∨ c.toNat = 14 ∨ c.toNat = 15 ∨ c.toNat = 16 ∨ c.toNat = 17 ∨ c.toNat = 18 ∨ c.toNat = 19 ∨ c.toNat = 20 ∨ c.toNat = 21 ∨ c.toNat = 22 ∨ c.toNat = 23 ∨ c.toNat = 24 ∨ c.toNat = 25 ∨ c.toNat = 26 ∨ c.toNat = 27 ∨ c.toNat = 28 ∨ c.toNat = 29 ∨ c.toNat = 30 ∨ c.toNat = 31 := by omega
            clear CI hesc hne n1 n2 n3 n4 n5 h32
            rcases hv with hc | hc | hc | hc | hc | hc | hc | hc | hc | hc | hc | hc | hc | hc | hc | hc | hc | hc | hc | hc | hc | hc | hc | hc | hc | hc | hc
            all_goals
              rw [hc] at CI2 C2 C3
              rw [hc]
              go_upto_region 13 with (first | (go_at_call 118; refine (CI2 _ (by first | rfl | decide)).mono ?_; rintro e w2 ⟨rfl, rfl⟩) | (go_at_call 85; refine C1.mono ?_; rintro e w3 ⟨rfl, hw3, hg3⟩; have H3 := Lib.hid (And.intro hw3 hg3); clear hw3 hg3))
              have hdr : Below w3.heap.size w3 w3.drew := (Below.refl _ _).drew
              have K3 := Lib.hid (H3.out.1.keptB hdr)
              have HG3 := Lib.hid (Went.below (q := q) hdr H3.out.1.size)
              clear hdr C1 CI2
              refine wp_region_tailJ 6 (by kernel_rfl) (by kernel_rfl) ?_
              simp only [List.take_succ_cons, List.take_zero, List.drop_succ_cons, List.drop_zero]
              repeat (go_big_quiet_step (fail))
              refine wpQuiet_nil ?_
              change wpList _ _ _ _ _ w3.drew
              go_upto_region 14 with (go_at_call 91; refine (C2.out w3.drew _ (by first | rfl | decide) K3.out).mono ?_; rintro e w4 ⟨rfl, hw4, hg4⟩; have H4 := Lib.hid (And.intro hw4 hg4); clear hw4 hg4)
              have hdr : Below w4.heap.size w4 w4.drew := (Below.refl _ _).drew
              have K4 := Lib.hid (H4.out.1.keptB hdr)
              have HG4 := Lib.hid (Went.below (q := q) hdr H4.out.1.size)
              clear hdr C2 K3
              refine wp_region_tailJ 6 (by kernel_rfl) (by kernel_rfl) ?_
              simp only [List.take_succ_cons, List.take_zero, List.drop_succ_cons, List.drop_zero]
              repeat (go_big_quiet_step (fail))
              refine wpQuiet_nil ?_
              change wpList _ _ _ _ _ w4.drew
              go_wp2_with (go_at_call 91; refine (C3.out w4.drew _ (by first | rfl | decide) K4.out).mono ?_; rintro e w5 ⟨rfl, hw5, hg5⟩; have H5 := Lib.hid (And.intro hw5 hg5); clear hw5 hg5)
              go_roundw
              case rel => exact ⟨k + 1, by go_num, by omega, quote_step HTK.out HE.out (by rw [hc]; have h5 := H5.out.1; simpa only [List.append_assoc] using h5), H.out.2.trans (H3.out.2.trans (HG3.out.trans (H4.out.2.trans (HG4.out.trans H5.out.2))))⟩
              case measure => simp [intOf]; omega
          · have hesc : escB c = [c] ++ [] := by rw [esc_plain HNS.out.1 h32]; rfl
            have HE := Lib.hid hesc
            have C1 := w_byte B q _ (bad || !V) c _ rfl wr H.out.1 (by have := HLEN.out; simp only [List.length_append, List.length_cons] at this ⊢; omega)
            have d32 : decide ((c.toNat : Int) < 32) = false := decide_eq_false (by omega)
            clear hesc h32
            generalize (c.toNat : Int) = x at *
            go_wp2_with (first | (go_at_call 118; refine CI.mono ?_; rintro e w2 ⟨rfl, rfl⟩) | (go_at_call 91; refine C1.mono ?_; rintro e w3 ⟨rfl, hw3, hg3⟩; have H3 := Lib.hid (And.intro hw3 hg3); clear hw3 hg3))
            go_roundw
            case rel => exact ⟨k + 1, by go_num, by omega, quote_step HTK.out HE.out (by rw [List.append_nil]; exact H3.out.1), H.out.2.trans H3.out.2⟩
            case measure => simp [intOf]; omega
      · obtain rfl : k = s.size := by omega
        have hfin : s.data.toList.take s.size = s.data.toList := List.take_of_length_le (by simp [ByteArray.size_data])
        have C1 := w_byte B q _ (bad || !V) 34 34 rfl wr H.out.1 (by have := HLEN.out; simp only [List.length_append, List.length_cons] at this ⊢; omega)
        have HF := Lib.hid hfin
        clear hfin
        go_wp2_with (go_at_call 91; refine C1.mono ?_; rintro e w3 ⟨rfl, hw3, hg3⟩; have H3 := Lib.hid (And.intro hw3 hg3); clear hw3 hg3)
        go_end0
        refine ⟨rfl, ?_, H.out.2.trans H3.out.2⟩
        have hh := H3.out.1
        rw [HF.out] at hh
        have e : out ++ quote s.data.toList = out ++ 34 :: escS s.data.toList ++ [34] := by simp [quote]
        rw [e]
        exact hh
end Go.Proofs.YtljnbbdhmlfhjaaGreatDoor
