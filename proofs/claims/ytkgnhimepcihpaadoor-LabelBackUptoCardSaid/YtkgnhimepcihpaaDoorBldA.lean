/-
  strings.Builder where the shelf's laying of copyCheck does not fit the dump: copyCheck, WriteByte, WriteString, after the shelf's proofs (Derived/Shelf/Strings/Builder1.lean).
-/
import Derived.Test.YtkgnhimepcihpaaDoorKitC
import Derived.Test.YtkgnhimepcihpaaDoorShelf
import Derived.Lib.Builder
namespace Go.Proofs.YtkgnhimepcihpaaDoor
open Go.RowKit

abbrev Bld (B b : Nat) (p : Value) (bs : List Value) (w : World) : Prop := Lib.BuilderAt 92 5 B b p bs w
abbrev IsB (B b : Nat) (bs : List Value) (w : World) : Prop := Lib.IsBuilder 92 5 B b bs w
set_option maxHeartbeats 1000000 in
set_option maxRecDepth 100000 in
theorem bcheck_used (b : Nat) (w : World) (h0 : w.cell? ⟨b, 0, none⟩ = some (.pointer (some ⟨b, 0, none⟩))) :
    Calls Tryd.prog 78 #[.pointer (some ⟨b, 0, none⟩)] w fun e w' => e = .returned (.tuple #[]) ∧ w' = w := by
  obtain ⟨j, hj, _⟩ := Option.map_eq_some_iff.1 (show (Tryd.prog.info? 92).map (·.size) = some 2 by kernel_rfl)
  go_enter Tryd.func78, Tryd.ntmps78
  go_wp2
  rw [Lib.run_neq_ptr_same w _ Tryd.underlying90 hj]
  go_wp2
  go_end0
  exact ⟨rfl, rfl⟩
set_option maxHeartbeats 1000000 in
set_option maxRecDepth 100000 in
theorem bcheck_fresh (b : Nat) (w : World) (h0 : w.cell? ⟨b, 0, none⟩ = some (.pointer none)) (hsh : w.shape? b = some (92, 2)) (hfz : w.frozen? ⟨b, 0, none⟩ = false) :
    Calls Tryd.prog 78 #[.pointer (some ⟨b, 0, none⟩)] w fun e w' => e = .returned (.tuple #[]) ∧ w' = w.setCell ⟨b, 0, none⟩ (.pointer (some ⟨b, 0, none⟩)) := by
  obtain ⟨j, hj, hjs⟩ := Option.map_eq_some_iff.1 (show (Tryd.prog.info? 92).map (·.size) = some 2 by kernel_rfl)
  go_enter Tryd.func78, Tryd.ntmps78
  go_wp2
  rw [Lib.run_to_unsafe w ⟨b, 0, none⟩ Tryd.underlying90 Tryd.underlying129 hj (by rw [hjs]; decide) hsh (Nat.zero_lt_succ 1)]
  simp only [Result.andThen]
  rw [Oper.upon_value]
  go_wp2
  rw [run_callFunc_extern Tryd.func94 (by kernel_rfl) (by kernel_rfl) (by kernel_rfl) (e := Extern.AbiNoEscape.same) (by kernel_rfl)]
  rw [Lib.run_noEscape]
  simp only [Result.andThen]
  rw [Oper.upon_value]
  go_wp2
  rw [Lib.run_from_unsafe w ⟨b, 0, none⟩ Tryd.underlying129 Tryd.underlying90 hj hsh (by kernel_rfl)]
  simp only [Result.andThen]
  rw [Oper.upon_value]
  go_wp2
  go_end0
  exact ⟨rfl, rfl⟩
/-- What is no row of bytes stays, but for the builder's own block. -/
def KeepR (b : Nat) (w w' : World) : Prop := ∀ k cs T fr, w.heap[k]? = some (.cells cs T fr) → T ≠ 5 → k ≠ b → w'.heap[k]? = some (.cells cs T fr)
theorem KeepR.refl (b : Nat) (w : World) : KeepR b w w := fun _ _ _ _ h _ _ => h
theorem KeepR.trans {b : Nat} {w w1 w2 : World} (h : KeepR b w w1) (k : KeepR b w1 w2) : KeepR b w w2 := fun i cs T fr hi hT hb => k i cs T fr (h i cs T fr hi hT hb) hT hb
theorem KeepR.set (b j : Nat) (v : Value) (w : World) : KeepR b w (w.setCell ⟨b, j, none⟩ v) := fun k cs T fr h _ hb => by
  rw [Below.heap_setCell _ _ _ _ (show k ≠ b from hb)]
  exact h
theorem KeepR.alloc (b : Nat) (w : World) (o : Obj) : KeepR b w (w.alloc o) := fun k cs T fr h _ _ => by
  rw [heap_alloc_old _ _ (Array.getElem?_eq_some_iff.1 h).1]
  exact h
theorem KeepR.grown {b B n : Nat} {v : Value} {xs : List Value} {w w' : World} (hown : w.ownsRow B 5 1 v n xs) (hg : w.grownBy w' v.ownBlock) : KeepR b w w' := fun k cs T fr h hT _ => by
  rw [hg.block k (Array.getElem?_eq_some_iff.1 h).1 (fun e => Lib.ownBlock_ne hown h hT e.symm)]
  exact h
theorem bcheck (B b : Nat) (bs : List Value) (w : World) (h : IsB B b bs w) :
    Calls Tryd.prog 78 #[.pointer (some ⟨b, 0, none⟩)] w fun e w' => e = .returned (.tuple #[]) ∧ Bld B b (.pointer (some ⟨b, 0, none⟩)) bs w' ∧ Below B w w' ∧ KeepR b w w' := by
  rcases h with h | h
  · refine (bcheck_fresh b w h.cell0 h.shape h.frozen0).mono ?_
    rintro e w' ⟨rfl, rfl⟩
    exact ⟨rfl, h.used _, (Below.refl B w).setCell (p := ⟨b, 0, none⟩) h.1 _, KeepR.set _ _ _ _⟩
  · refine (bcheck_used b w h.cell0).mono ?_
    rintro e w' ⟨rfl, rfl⟩
    exact ⟨rfl, h, Below.refl B _, KeepR.refl _ _⟩
theorem bld_lt {B b : Nat} {p : Value} {bs : List Value} {w : World} (h : Bld B b p bs w) : b < w.heap.size := h.lt

set_option maxHeartbeats 2000000 in
set_option maxRecDepth 100000 in
theorem b_byte (B b : Nat) (bs : List Value) (c : Int) (w : World) (h : IsB B b bs w) (hlen : bs.length + 1 ≤ 140737488355328) (hBw : B ≤ w.heap.size) :
    Calls Tryd.prog 64 #[.pointer (some ⟨b, 0, none⟩), .int .u8 c] w fun e w' => e = .returned .nilIface ∧ Bld B b (.pointer (some ⟨b, 0, none⟩)) (bs ++ [.int .u8 c]) w' ∧ Below B w w' ∧ KeepR b w w' := by
  have E8 : ElemT Tryd.prog 22 5 (.int .u8 0) 1 1 := ⟨Tryd.underlying22, by kernel_rfl, rfl, by decide⟩
  go_enter Tryd.func64, Tryd.ntmps64
  go_wp2_with (go_at_call 78; refine (bcheck B b bs _ h).mono ?_)
  rintro e w1 ⟨rfl, h1, hb1, hk1⟩
  have hlt := h1.lt
  obtain ⟨hB, v, hbk, hown, hne⟩ := h1
  have c0 : w1.cell? ⟨b, 0, none⟩ = some (.pointer (some ⟨b, 0, none⟩)) := by rw [Lib.cell_of_heap hbk]; rfl
  have c1 : w1.cell? ⟨b, 1, none⟩ = some v := by rw [Lib.cell_of_heap hbk]; rfl
  have hs1 := hb1.size
  go_wp2_with (at_builtin; refine wpList_append_src rfl _ _ _ _ rfl B E8 _ _ _ rfl (hown.alloc _) _ 1 [.int .u8 c] rfl (by exact src_last (cs := #[.int .u8 c]) Tryd.underlying22 1 1 1 rfl rfl (by simp [Value.oneCell'])) (by unfold maxLen; omega) (by omega) (by simp; omega) ?_)
  intro v' w2 hown' hgrow _ _
  have hb2 : w2.heap[b]? = some (.cells #[.pointer (some ⟨b, 0, none⟩), v] 92 (0, 0)) := by
    rw [hgrow.block b (by simp; omega) (fun e => hne e.symm), heap_alloc_old w1 _ hlt]
    exact hbk
  have d0 : w2.cell? ⟨b, 0, none⟩ = some (.pointer (some ⟨b, 0, none⟩)) := by rw [Lib.cell_of_heap hb2]; rfl
  have d1 : w2.cell? ⟨b, 1, none⟩ = some v := by rw [Lib.cell_of_heap hb2]; rfl
  have f1 : w2.frozen? ⟨b, 1, none⟩ = false := Lib.frozen_of_heap hb2 1
  obtain ⟨g, cap, rfl⟩ := owns_slice hown'
  go_wp2
  go_ret
  refine ⟨rfl, ?_, ?_, ?_⟩
  · exact Lib.BuilderAt.put (T := 92) (e := 5) hB hb2 (bs' := bs ++ [.int .u8 c]) (by simpa using hown') (by decide)
  · exact ((hb1.alloc (by omega) _).grown hgrow (by simp; omega) (fun k hk => (hown.lt k hk).1)).setCell (p := ⟨b, 1, none⟩) hB _
  · exact ((hk1.trans (KeepR.alloc _ _ _)).trans (KeepR.grown (hown.alloc _) hgrow)).trans (KeepR.set _ _ _ _)

set_option maxHeartbeats 2000000 in
set_option maxRecDepth 100000 in
theorem b_string (B b : Nat) (bs : List Value) (s : ByteArray) (w : World) (h : IsB B b bs w) (hlen : bs.length + s.size ≤ 140737488355328) (hBw : B ≤ w.heap.size) :
    Calls Tryd.prog 65 #[.pointer (some ⟨b, 0, none⟩), .string s] w fun e w' => e = .returned (.tuple #[.int .i64 s.size, .nilIface]) ∧ Bld B b (.pointer (some ⟨b, 0, none⟩)) (bs ++ Lib.strCells s) w' ∧ Below B w w' ∧ KeepR b w w' := by
  obtain ⟨i0, hi, hz0, hz1, hz2⟩ := info_parts (show (Tryd.prog.info? 5).map (fun i => (i.zero, i.size, i.bytes)) = some (some (.int .u8 0), 1, 1) by kernel_rfl)
  go_enter Tryd.func65, Tryd.ntmps65
  go_wp2_with (go_at_call 78; refine (bcheck B b bs _ h).mono ?_)
  rintro e w1 ⟨rfl, h1, hb1, hk1⟩
  have hlt := h1.lt
  obtain ⟨hB, v, hbk, hown, hne⟩ := h1
  have c0 : w1.cell? ⟨b, 0, none⟩ = some (.pointer (some ⟨b, 0, none⟩)) := by rw [Lib.cell_of_heap hbk]; rfl
  have c1 : w1.cell? ⟨b, 1, none⟩ = some v := by rw [Lib.cell_of_heap hbk]; rfl
  have hs1 := hb1.size
  go_wp2_with (at_builtin; refine Lib.wpList_append_own_string _ rfl _ _ 22 9 rfl B 5 i0 Tryd.underlying22 Tryd.underlying9 hi hz0 hz1 hz2 _ _ _ rfl hown s rfl ?c3 ?c4 ?c5 ?_)
  case c3 => unfold maxLen; omega
  case c4 => omega
  case c5 => omega
  intro v' w2 hown' hgrow _
  have hb2 : w2.heap[b]? = some (.cells #[.pointer (some ⟨b, 0, none⟩), v] 92 (0, 0)) := by
    rw [hgrow.block b hlt (fun e => hne e.symm)]
    exact hbk
  have d0 : w2.cell? ⟨b, 0, none⟩ = some (.pointer (some ⟨b, 0, none⟩)) := by rw [Lib.cell_of_heap hb2]; rfl
  have d1 : w2.cell? ⟨b, 1, none⟩ = some v := by rw [Lib.cell_of_heap hb2]; rfl
  have f1 : w2.frozen? ⟨b, 1, none⟩ = false := Lib.frozen_of_heap hb2 1
  obtain ⟨ao, cap, rfl⟩ := owns_slice hown'
  go_wp2
  go_ret2
  refine ⟨rfl, ?_, ?_, ?_⟩
  · exact Lib.BuilderAt.put (T := 92) (e := 5) hB hb2 (bs' := bs ++ Lib.strCells s) (by simpa [Lib.strCells_length] using hown') (by decide)
  · exact (hb1.grown hgrow (by omega) (fun k hk => (hown.lt k hk).1)).setCell (p := ⟨b, 1, none⟩) hB _
  · exact (hk1.trans (KeepR.grown hown hgrow)).trans (KeepR.set _ _ _ _)
theorem bld_alloc {B b : Nat} {p : Value} {bs : List Value} {w : World} (h : Bld B b p bs w) (o : Obj) : Bld B b p bs (w.alloc o) := by
  have hlt := h.lt
  obtain ⟨hB, v, hbk, hown, hne⟩ := h
  exact ⟨hB, v, by rw [heap_alloc_old _ _ hlt]; exact hbk, hown.alloc _, hne⟩
theorem isB_alloc {B b : Nat} {bs : List Value} {w : World} (h : IsB B b bs w) (o : Obj) : IsB B b bs (w.alloc o) := h.imp (fun h => bld_alloc h o) (fun h => bld_alloc h o)
theorem isB_new (w : World) : IsB w.heap.size w.heap.size [] (w.alloc (.cells #[.pointer none, .slice none 0 0] 92)) :=
  .inl ⟨Nat.le_refl _, .slice none 0 0, heap_alloc_new _ _, World.ownsRow_nil _ _ _ _, by simp [Value.ownBlock]⟩
end Go.Proofs.YtkgnhimepcihpaaDoor
