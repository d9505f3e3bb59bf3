/-
  Openings of arguments: a list of int64; a struct of a list of texts and a list of bools.
-/
import Derived.Test.YtljnbbdhmlfhjaaGreatDoorFrameW
import Derived.Test.YtljnbbdhmlfhjaaGreatDoorFrameT
import Derived.Test.YtljnbbdhmlfhjaaGreatDoorWwTwo
import Derived.Deep.Grids
import Derived.Lib.SmallJoins
namespace Go.Proofs.YtljnbbdhmlfhjaaGreatDoor
open Go.RowKit Go.ChangeShapes Go.WideShapes Go.ChangeAt Go.Lib Go.Deep Go.Joins
theorem open_ints64 {H : Type} {enc : TypeId × Value → H} {P : Program} {w : World} {t e : TypeId} {v : Value} {d : DataW H} {ps : List MemPlace} (ht : P.underlying t = some (.slice e)) (he : P.underlying e = some (.int .i64)) (hc : P.cellsOf e = 1)
    (hval : Value.okWide P w .any 0 t v) (hd : DataW.Trod enc P w 0 (fun _ => true) true t v d ps) :
    ∃ l : List Int, argRow w v l.length 1 (l.map iCell) ∧ (∀ x ∈ l, isI64 x) ∧ l.length + 1 ≤ Rows.uptoBulk d := by
  obtain ⟨a0, len, cap, rfl⟩ := okWide_slice ht hval
  obtain ⟨fuel, hf⟩ := hd
  simp only [Value.cells] at hf
  rcases ChangeShapes.open_ints ht he hc hf with ⟨hcs, hx⟩ | ⟨a, len', cap', zs, hcs, _, hl, hm, hz, hx, hcell, hwz⟩
  · simp only [List.cons.injEq, and_true] at hcs
    simp only [Prod.mk.injEq] at hx
    exact ⟨[], ⟨rfl, _, _, hcs, Nat.le_refl _, Nat.zero_le _, fun h => by simp at h⟩, fun x hx => (by cases hx), by rw [hx.1]; simp [Rows.uptoBulk]⟩
  · simp only [List.cons.injEq, and_true] at hcs
    have hz' : zs.length = cap' := by simpa using hz
    have hll : (zs.take len').length = len' := by simp; omega
    refine ⟨zs.take len', ⟨by simp, some a, cap', by rw [hcs, hll], by omega, hm, fun h0 => ?_⟩, fun x hx => ?_, ?_⟩
    · obtain ⟨b, off, rfl, hcell'⟩ := ints_at hcell (by omega)
      refine ⟨b, off, rfl, World.block_lt_of_cell? w _ (hcell' 0 (by omega)), fun j hj => ?_⟩
      simp only [List.length_map] at hj
      rw [List.length_take] at hj
      have h2 := hcell' j (by omega)
      simp only [List.getElem_map, List.getElem_take]
      rw [h2]
      simp [iCell, List.getD_eq_getElem?_getD, List.getElem?_eq_getElem (show j < zs.length by omega)]
    · have h := bounds_i64 (hwz x (List.mem_of_mem_take hx))
      exact ⟨by omega, by omega⟩
    · simp only [Prod.mk.injEq] at hx
      rw [hx.1, hll]
      simp only [Rows.uptoBulk]
      have := bulk_len (lits .i64 (zs.take len') : List (DataW H))
      have h3 : (lits .i64 (zs.take len') : List (DataW H)).length = len' := by simp [lits]; omega
      omega
theorem open_texts_trod {H : Type} {enc : TypeId × Value → H} {P : Program} {w : World} {t e : TypeId} {v : Value} {n : Nat} {y : DataW H × List MemPlace} (ht : P.underlying t = some (.slice e)) (he : P.underlying e = some .string) (hc : P.cellsOf e = 1)
    (hf : DataW.trod enc P w 0 (fun _ => true) true n t [v] = some y) :
    ∃ L : List Bs, argRow w v L.length 1 (L.map strV) ∧ (L.map fun b => b.length + 1).sum ≤ Rows.uptoBulk y.1 := by
  rcases Go.Deep.open_strs ht he hc hf with ⟨hcs, hx⟩ | ⟨a, len', cap', m, B, hcs, hb, hl, hm, hmm, hx, hcell⟩
  · simp only [List.cons.injEq, and_true] at hcs
    exact ⟨[], ⟨rfl, _, _, hcs, Nat.le_refl _, Nat.zero_le _, fun h => by simp at h⟩, by simp⟩
  · simp only [List.cons.injEq, and_true] at hcs
    have hm' : m = cap' := by rw [hmm]; simp
    have hll : ((List.range len').map fun i => (B i).data.toList).length = len' := by simp
    refine ⟨(List.range len').map fun i => (B i).data.toList, ⟨by simp, some a, cap', by rw [hcs, hll], by omega, hm, fun h0 => ?_⟩, ?_⟩
    · obtain ⟨b, off, spot⟩ := a
      have hspot : spot = none := by simpa [Addr.add] using World.cell?_spot (hcell 0 (by omega)).1
      subst hspot
      refine ⟨b, off, rfl, ?_, fun j hj => ?_⟩
      · have := (hcell 0 (by omega)).1
        rw [Go.WideShapes.add_plain] at this
        exact World.block_lt_of_cell? w _ this
      · simp only [List.length_map, List.length_range] at hj
        have := (hcell j (by omega)).1
        rw [Go.WideShapes.add_plain] at this
        rw [this]
        simp [strV]
    · have := bulk_texts (H := H) ((List.range len').map fun i => (B i).data.toList)
      rw [List.map_map] at this
      rw [hx]
      simp only [Rows.uptoBulk]
      rw [← this]
      exact Nat.le_trans (Nat.le_add_right _ _) (Nat.le_trans (Nat.le_add_right _ _) (Nat.le_refl _))
theorem open_bools_trod {H : Type} {enc : TypeId × Value → H} {P : Program} {w : World} {t e : TypeId} {v : Value} {n : Nat} {y : DataW H × List MemPlace} (ht : P.underlying t = some (.slice e)) (he : P.underlying e = some .bool) (hc : P.cellsOf e = 1)
    (hf : DataW.trod enc P w 0 (fun _ => true) true n t [v] = some y) :
    ∃ l : List Bool, argRow w v l.length 1 (l.map .bool) := by
  rcases Go.Deep.open_bools ht he hc hf with ⟨hcs, hx⟩ | ⟨a, len', cap', B, hcs, hb, hl, hm, hx, hcell⟩
  · simp only [List.cons.injEq, and_true] at hcs
    exact ⟨[], rfl, _, _, hcs, Nat.le_refl _, Nat.zero_le _, fun h => by simp at h⟩
  · simp only [List.cons.injEq, and_true] at hcs
    have hll : ((List.range len').map B).length = len' := by simp
    refine ⟨(List.range len').map B, by simp, some a, cap', by rw [hcs, hll], by omega, hm, fun h0 => ?_⟩
    obtain ⟨b, off, spot⟩ := a
    have hspot : spot = none := by simpa [Addr.add] using World.cell?_spot (hcell 0 (by omega))
    subst hspot
    refine ⟨b, off, rfl, ?_, fun j hj => ?_⟩
    · have := hcell 0 (by omega)
      rw [Go.WideShapes.add_plain] at this
      exact World.block_lt_of_cell? w _ this
    · simp only [List.length_map, List.length_range] at hj
      have := hcell j (by omega)
      rw [Go.WideShapes.add_plain] at this
      rw [this]
      simp
set_option maxRecDepth 100000 in
/-- Names, and which of them fire. -/
theorem open_names {H : Type} {enc : TypeId × Value → H} {w : World} {v : Value} {d : DataW H} {ps : List MemPlace}
    (hval : Value.okWide Tryz.prog w .any 0 59 v) (hd : DataW.Trod enc Tryz.prog w 0 (fun _ => true) true 59 v d ps) :
    ∃ (v0 v1 : Value) (L : List Bs) (F : List Bool), v = .agg #[v0, v1] ∧ argRow w v0 L.length 1 (L.map strV) ∧ argRow w v1 F.length 1 (F.map .bool) ∧ (L.map fun b => b.length + 1).sum ≤ Rows.uptoBulk d := by
  obtain ⟨v0, v1, y0, y1, n, rfl, rfl, rfl, h0, h1⟩ := open_agg2 Tryz.underlying59 (by kernel_rfl) (by kernel_rfl) hval hd
  obtain ⟨L, h2, h3⟩ := open_texts_trod Tryz.underlying45 Tryz.underlying9 (by kernel_rfl) h0
  obtain ⟨F, h4⟩ := open_bools_trod Tryz.underlying57 Tryz.underlying4 (by kernel_rfl) h1
  refine ⟨v0, v1, L, F, rfl, h2, h4, ?_⟩
  simp only [Rows.uptoBulk, Rows.uptoBulkAll]
  omega
end Go.Proofs.YtljnbbdhmlfhjaaGreatDoor
