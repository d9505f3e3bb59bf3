/-
  json.writer: a strings.Builder at the head of a struct: copyCheck, WriteByte, WriteString, String.
-/
import Derived.Test.YtljnbbdhmlfhjaaDoorJsG
import Derived.Test.YtljnbbdhmlfhjaaDoorUtfV
import Derived.Lib.Builder
namespace Go.Proofs.YtljnbbdhmlfhjaaDoor
open Go.RowKit
/-- What is no row of bytes stays, but for the writer's own block. -/
def KeepW (q : Nat) (w w' : World) : Prop := ∀ k cs T fr, w.heap[k]? = some (.cells cs T fr) → T ≠ 5 → k ≠ q → w'.heap[k]? = some (.cells cs T fr)
theorem KeepW.refl (q : Nat) (w : World) : KeepW q w w := fun _ _ _ _ h _ _ => h
theorem KeepW.trans {q : Nat} {w w1 w2 : World} (h : KeepW q w w1) (k : KeepW q w1 w2) : KeepW q w w2 := fun i cs T fr hi hT hb => k i cs T fr (h i cs T fr hi hT hb) hT hb
theorem KeepW.set (q j : Nat) (v : Value) (w : World) : KeepW q w (w.setCell ⟨q, j, none⟩ v) := fun k cs T fr h _ hb => by
  rw [Below.heap_setCell _ _ _ _ (show k ≠ q from hb)]
  exact h
theorem KeepW.alloc (q : Nat) (w : World) (o : Obj) : KeepW q w (w.alloc o) := fun k cs T fr h _ _ => by
  rw [heap_alloc_old _ _ (Array.getElem?_eq_some_iff.1 h).1]
  exact h
theorem KeepW.below {q : Nat} {w w' : World} (hb : Below w.heap.size w w') : KeepW q w w' := fun k cs T fr h _ _ => by
  rw [hb.block k (Array.getElem?_eq_some_iff.1 h).1]
  exact h
theorem KeepW.grown {q B n : Nat} {v : Value} {xs : List Value} {w w' : World} (hown : w.ownsRow B 5 1 v n xs) (hg : w.grownBy w' v.ownBlock) : KeepW q w w' := fun k cs T fr h hT _ => by
  rw [hg.block k (Array.getElem?_eq_some_iff.1 h).1 (fun e => Lib.ownBlock_ne hown h hT e.symm)]
  exact h
def wrObj (pv v : Value) (bad : Bool) : Obj := .cells #[pv, v, .bool bad] 75 (0, 0)
/-- The writer: what it has written, and whether it is bad. -/
structure WAt (B q : Nat) (pv v : Value) (out : Bs) (bad : Bool) (w : World) : Prop where
  base : B ≤ q
  own : w.heap[q]? = some (wrObj pv v bad)
  row : w.ownsRow B 5 1 v out.length (Lib.byteCells out)
  off : v.ownBlock ≠ some q
def WSt (B q : Nat) (out : Bs) (bad : Bool) (w : World) : Prop := ∃ pv v, (pv = .pointer none ∨ pv = .pointer (some ⟨q, 0, none⟩)) ∧ WAt B q pv v out bad w
/-- What a call of the writer's leaves. -/
def Went (B q : Nat) (w w' : World) : Prop := Below B w w' ∧ KeepW q w w'
theorem Went.refl (B q : Nat) (w : World) : Went B q w w := ⟨Below.refl _ _, KeepW.refl _ _⟩
theorem Went.trans {B q : Nat} {w w1 w2 : World} (h : Went B q w w1) (k : Went B q w1 w2) : Went B q w w2 := ⟨h.1.trans k.1, h.2.trans k.2⟩
theorem WAt.lt {B q : Nat} {pv v : Value} {out : Bs} {bad : Bool} {w : World} (h : WAt B q pv v out bad w) : q < w.heap.size := (Array.getElem?_eq_some_iff.1 h.own).1
theorem WSt.lt {B q : Nat} {out : Bs} {bad : Bool} {w : World} (h : WSt B q out bad w) : q < w.heap.size := by
  obtain ⟨_, _, _, h⟩ := h
  exact h.lt
theorem WSt.base {B q : Nat} {out : Bs} {bad : Bool} {w : World} (h : WSt B q out bad w) : B ≤ q := by
  obtain ⟨_, _, _, h⟩ := h
  exact h.base
theorem WSt.size {B q : Nat} {out : Bs} {bad : Bool} {w : World} (h : WSt B q out bad w) : B ≤ w.heap.size := Nat.le_trans h.base (Nat.le_of_lt h.lt)
theorem WSt.keptB {B q : Nat} {out : Bs} {bad : Bool} {w w' : World} (h : WSt B q out bad w) (hb : Below w.heap.size w w') : WSt B q out bad w' := by
  obtain ⟨pv, v, hp, h⟩ := h
  exact ⟨pv, v, hp, h.base, by rw [hb.block q h.lt]; exact h.own, owns_below h.row hb, h.off⟩
theorem Went.below {B q : Nat} {w w' : World} (hb : Below w.heap.size w w') (hB : B ≤ w.heap.size) : Went B q w w' := ⟨hb.mono hB, KeepW.below hb⟩
theorem WAt.cells {B q : Nat} {pv v : Value} {out : Bs} {bad : Bool} {w : World} (h : WAt B q pv v out bad w) :
    (w.cell? ⟨q, 0, none⟩ = some pv ∧ w.cell? ⟨q, 1, none⟩ = some v ∧ w.cell? ⟨q, 2, none⟩ = some (.bool bad)) ∧ ∀ j, w.frozen? ⟨q, j, none⟩ = false :=
  ⟨⟨by rw [Lib.cell_of_heap h.own]; rfl, by rw [Lib.cell_of_heap h.own]; rfl, by rw [Lib.cell_of_heap h.own]; rfl⟩, fun j => Lib.frozen_of_heap h.own j⟩
theorem WAt.shape {B q : Nat} {pv v : Value} {out : Bs} {bad : Bool} {w : World} (h : WAt B q pv v out bad w) : w.shape? q = some (75, 3) := by
  have := h.own
  simp [World.shape?, this, wrObj]
theorem WAt.setP {B q : Nat} {pv v pv' : Value} {out : Bs} {bad : Bool} {w : World} (h : WAt B q pv v out bad w) : WAt B q pv' v out bad (w.setCell ⟨q, 0, none⟩ pv') := by
  refine ⟨h.base, by rw [heap_setCell_same _ _ _ _ _ _ h.own]; rfl, ?_, h.off⟩
  exact h.row.kept (row := some q) ⟨rfl, rfl, rfl, by simp, fun k _ hk => Below.heap_setCell _ _ _ _ (fun e => hk (by simp [e]))⟩ (.inr h.off)
/-- The flag turns. -/
theorem WSt.setBad {B q : Nat} {out : Bs} {bad : Bool} {w : World} (h : WSt B q out bad w) (b : Bool) : WSt B q out b (w.setCell ⟨q, 2, none⟩ (.bool b)) ∧ Went B q w (w.setCell ⟨q, 2, none⟩ (.bool b)) := by
  obtain ⟨pv, v, hp, h⟩ := h
  refine ⟨⟨pv, v, hp, h.base, by rw [heap_setCell_same _ _ _ _ _ _ h.own]; rfl, ?_, h.off⟩, (Below.refl B w).setCell (p := ⟨q, 2, none⟩) h.base _, KeepW.set _ _ _ _⟩
  exact h.row.kept (row := some q) ⟨rfl, rfl, rfl, by simp, fun k _ hk => Below.heap_setCell _ _ _ _ (fun e => hk (by simp [e]))⟩ (.inr h.off)
set_option maxHeartbeats 1000000 in
set_option maxRecDepth 100000 in
theorem wcheck_used (b : Nat) (w : World) (h0 : w.cell? ⟨b, 0, none⟩ = some (.pointer (some ⟨b, 0, none⟩))) :
    Calls Tryd.prog 62 #[.pointer (some ⟨b, 0, none⟩)] w fun e w' => e = .returned (.tuple #[]) ∧ w' = w := by
  obtain ⟨j, hj, _⟩ := Option.map_eq_some_iff.1 (show (Tryd.prog.info? 73).map (·.size) = some 2 by kernel_rfl)
  go_enter Tryd.func62, Tryd.ntmps62
  go_wp2
  rw [Lib.run_neq_ptr_same w _ Tryd.underlying71 hj]
  go_wp2
  go_end0
  exact ⟨rfl, rfl⟩
set_option maxHeartbeats 1000000 in
set_option maxRecDepth 100000 in
theorem wcheck_fresh (b : Nat) (w : World) (h0 : w.cell? ⟨b, 0, none⟩ = some (.pointer none)) (hsh : w.shape? b = some (75, 3)) (hfz : w.frozen? ⟨b, 0, none⟩ = false) :
    Calls Tryd.prog 62 #[.pointer (some ⟨b, 0, none⟩)] w fun e w' => e = .returned (.tuple #[]) ∧ w' = w.setCell ⟨b, 0, none⟩ (.pointer (some ⟨b, 0, none⟩)) := by
  obtain ⟨j, hj, hjs⟩ := Option.map_eq_some_iff.1 (show (Tryd.prog.info? 73).map (·.size) = some 2 by kernel_rfl)
  go_enter Tryd.func62, Tryd.ntmps62
  go_wp2
  rw [Lib.run_to_unsafe w ⟨b, 0, none⟩ Tryd.underlying71 Tryd.underlying121 hj (by rw [hjs]; decide) hsh (Nat.zero_lt_succ 2)]
  simp only [Result.andThen]
  rw [Oper.upon_value]
  go_wp2
  rw [run_callFunc_extern Tryd.func72 (by kernel_rfl) (by kernel_rfl) (by kernel_rfl) (e := Extern.AbiNoEscape.same) (by kernel_rfl)]
  rw [Lib.run_noEscape]
  simp only [Result.andThen]
  rw [Oper.upon_value]
  go_wp2
  rw [Lib.run_from_unsafe w ⟨b, 0, none⟩ Tryd.underlying121 Tryd.underlying71 hj hsh (by kernel_rfl)]
  simp only [Result.andThen]
  rw [Oper.upon_value]
  go_wp2
  go_end0
  exact ⟨rfl, rfl⟩
def WUsed (B q : Nat) (out : Bs) (bad : Bool) (w : World) : Prop := ∃ v, WAt B q (.pointer (some ⟨q, 0, none⟩)) v out bad w
theorem WUsed.st {B q : Nat} {out : Bs} {bad : Bool} {w : World} (h : WUsed B q out bad w) : WSt B q out bad w := by
  obtain ⟨v, h⟩ := h
  exact ⟨_, v, .inr rfl, h⟩
theorem wcheck (B q : Nat) (out : Bs) (bad : Bool) (w : World) (h : WSt B q out bad w) :
    Calls Tryd.prog 62 #[.pointer (some ⟨q, 0, none⟩)] w fun e w' => e = .returned (.tuple #[]) ∧ WUsed B q out bad w' ∧ Went B q w w' := by
  obtain ⟨pv, v, hp, h⟩ := h
  rcases hp with rfl | rfl
  · refine (wcheck_fresh q w h.cells.1.1 h.shape (h.cells.2 0)).mono ?_
    rintro e w' ⟨rfl, rfl⟩
    exact ⟨rfl, ⟨v, h.setP⟩, (Below.refl B w).setCell (p := ⟨q, 0, none⟩) h.base _, KeepW.set _ _ _ _⟩
  · refine (wcheck_used q w h.cells.1.1).mono ?_
    rintro e w' ⟨rfl, rfl⟩
    exact ⟨rfl, ⟨v, h⟩, Went.refl _ _ _⟩
set_option maxHeartbeats 2000000 in
set_option maxRecDepth 100000 in
theorem w_byte (B q : Nat) (out : Bs) (bad : Bool) (c : UInt8) (z : Int) (hz : z = (c.toNat : Int)) (w : World) (h : WSt B q out bad w) (hlen : out.length + 1 ≤ 140737488355328) :
    Calls Tryd.prog 50 #[.pointer (some ⟨q, 0, none⟩), .int .u8 z] w fun e w' => e = .returned .nilIface ∧ WSt B q (out ++ [c]) bad w' ∧ Went B q w w' := by
  have E8 : ElemT Tryd.prog 22 5 (.int .u8 0) 1 1 := ⟨Tryd.underlying22, by kernel_rfl, rfl, by decide⟩
  have hBw := h.size
  have CC := wcheck B q out bad w h
  have HZ := Lib.hid hz
  clear h hz
  go_enter Tryd.func50, Tryd.ntmps50
  go_wp2_with (go_at_call 62; refine CC.mono ?_)
  rintro e w1 ⟨rfl, ⟨v, h1⟩, hw1⟩
  have hlt := h1.lt
  obtain ⟨⟨c0, c1, c2⟩, hfz⟩ := h1.cells
  have hs1 := hw1.1.size
  have HW1 := Lib.hid hw1
  have H1 := Lib.hid h1
  clear hw1 h1 CC
  go_wp2_with (at_builtin; refine wpList_append_src rfl _ _ _ _ rfl B E8 _ _ _ rfl (H1.out.row.alloc _) _ 1 [.int .u8 z] rfl (by exact src_last (cs := #[.int .u8 z]) Tryd.underlying22 1 1 1 rfl rfl (by simp [Value.oneCell'])) (by unfold maxLen; omega) (by omega) (by simp; omega) ?_)
  intro v' w2 hown' hgrow _ _
  have hb2 : w2.heap[q]? = some (wrObj (.pointer (some ⟨q, 0, none⟩)) v bad) := by
    rw [hgrow.block q (by simp; omega) (fun e => H1.out.off e.symm), heap_alloc_old w1 _ hlt]
    exact H1.out.own
  have d0 : w2.cell? ⟨q, 0, none⟩ = some (.pointer (some ⟨q, 0, none⟩)) := by rw [Lib.cell_of_heap hb2]; rfl
  have d1 : w2.cell? ⟨q, 1, none⟩ = some v := by rw [Lib.cell_of_heap hb2]; rfl
  have f1 : w2.frozen? ⟨q, 1, none⟩ = false := Lib.frozen_of_heap hb2 1
  have HO := Lib.hid (And.intro hown' hgrow)
  obtain ⟨g, cap, rfl⟩ := owns_slice hown'
  have HB2 := Lib.hid hb2
  clear hown' hgrow hb2
  go_wp2
  go_ret
  have hne := Lib.ownBlock_ne HO.out.1 HB2.out (by decide)
  refine ⟨rfl, ⟨_, _, .inr rfl, H1.out.base, ?_, ?_, hne⟩, HW1.out.trans ⟨?_, ?_⟩⟩
  · rw [heap_setCell_same _ _ _ _ _ _ HB2.out]; rfl
  · have := HO.out.1.kept (row := some q) (w' := w2.setCell ⟨q, 1, none⟩ (.slice g (out.length + 1) cap)) ⟨rfl, rfl, rfl, by simp, fun k _ hk => Below.heap_setCell _ _ _ _ (fun e => hk (by simp [e]))⟩ (.inr hne)
    rw [List.length_append, List.length_singleton, byteCells_append]
    rw [HZ.out] at this
    exact this
  · exact (((Below.refl B w1).alloc (by omega) _).grown HO.out.2 (by simp; omega) (fun k hk => (H1.out.row.lt k hk).1)).setCell (p := ⟨q, 1, none⟩) H1.out.base _
  · exact ((KeepW.alloc _ _ _).trans (KeepW.grown (H1.out.row.alloc _) HO.out.2)).trans (KeepW.set _ _ _ _)
set_option maxHeartbeats 2000000 in
set_option maxRecDepth 100000 in
theorem w_string (B q : Nat) (out : Bs) (bad : Bool) (s : ByteArray) (w : World) (h : WSt B q out bad w) (hlen : out.length + s.size ≤ 140737488355328) :
    Calls Tryd.prog 44 #[.pointer (some ⟨q, 0, none⟩), .string s] w fun e w' => e = .returned (.tuple #[.int .i64 s.size, .nilIface]) ∧ WSt B q (out ++ s.data.toList) bad w' ∧ Went B q w w' := by
  obtain ⟨i0, hi, hz0, hz1, hz2⟩ := info_parts (show (Tryd.prog.info? 5).map (fun i => (i.zero, i.size, i.bytes)) = some (some (.int .u8 0), 1, 1) by kernel_rfl)
  have hBw := h.size
  have CC := wcheck B q out bad w h
  clear h
  go_enter Tryd.func44, Tryd.ntmps44
  go_wp2_with (go_at_call 62; refine CC.mono ?_)
  rintro e w1 ⟨rfl, ⟨v, h1⟩, hw1⟩
  have hlt := h1.lt
  obtain ⟨⟨c0, c1, c2⟩, hfz⟩ := h1.cells
  have hs1 := hw1.1.size
  have HW1 := Lib.hid hw1
  have H1 := Lib.hid h1
  clear hw1 h1 CC
  go_wp2_with (at_builtin; refine Lib.wpList_append_own_string _ rfl _ _ 22 9 rfl B 5 i0 Tryd.underlying22 Tryd.underlying9 hi hz0 hz1 hz2 _ _ _ rfl H1.out.row s rfl ?c3 ?c4 ?c5 ?_)
  case c3 => unfold maxLen; omega
  case c4 => omega
  case c5 => omega
  intro v' w2 hown' hgrow _
  have hb2 : w2.heap[q]? = some (wrObj (.pointer (some ⟨q, 0, none⟩)) v bad) := by
    rw [hgrow.block q hlt (fun e => H1.out.off e.symm)]
    exact H1.out.own
  have d0 : w2.cell? ⟨q, 0, none⟩ = some (.pointer (some ⟨q, 0, none⟩)) := by rw [Lib.cell_of_heap hb2]; rfl
  have d1 : w2.cell? ⟨q, 1, none⟩ = some v := by rw [Lib.cell_of_heap hb2]; rfl
  have f1 : w2.frozen? ⟨q, 1, none⟩ = false := Lib.frozen_of_heap hb2 1
  have HO := Lib.hid (And.intro hown' hgrow)
  obtain ⟨ao, cap, rfl⟩ := owns_slice hown'
  have HB2 := Lib.hid hb2
  clear hown' hgrow hb2
  go_wp2
  go_ret2
  have hne := Lib.ownBlock_ne HO.out.1 HB2.out (by decide)
  refine ⟨rfl, ⟨_, _, .inr rfl, H1.out.base, ?_, ?_, hne⟩, HW1.out.trans ⟨?_, ?_⟩⟩
  · rw [heap_setCell_same _ _ _ _ _ _ HB2.out]; rfl
  · have := HO.out.1.kept (row := some q) (w' := w2.setCell ⟨q, 1, none⟩ (.slice ao (out.length + s.size) cap)) ⟨rfl, rfl, rfl, by simp, fun k _ hk => Below.heap_setCell _ _ _ _ (fun e => hk (by simp [e]))⟩ (.inr hne)
    rw [List.length_append, byteCells_append, show s.data.toList.length = s.size from by simp [ByteArray.size_data]]
    have e : Lib.strCells s = Lib.byteCells s.data.toList := by simp [Lib.strCells, Lib.byteCells]
    rw [e] at this
    exact this
  · exact ((Below.refl B w1).grown HO.out.2 (by omega) (fun k hk => (H1.out.row.lt k hk).1)).setCell (p := ⟨q, 1, none⟩) H1.out.base _
  · exact (KeepW.grown H1.out.row HO.out.2).trans (KeepW.set _ _ _ _)
end Go.Proofs.YtljnbbdhmlfhjaaDoor
