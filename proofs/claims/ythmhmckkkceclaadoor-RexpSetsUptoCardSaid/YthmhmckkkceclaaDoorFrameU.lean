/-
  A list of runes that came in.
-/
import Derived.Test.YthmhmckkkceclaaDoorFrame
import Derived.Test.YthmhmckkkceclaaDoorRexAl
namespace Go.Proofs.YthmhmckkkceclaaDoor
open Go.RowKit Go.ChangeShapes Go.WideShapes
theorem open_runes {H : Type} {enc : TypeId × Value → H} {P : Program} {w : World} {t e : TypeId} {v : Value} {d : DataW H} {ps : List MemPlace} (ht : P.underlying t = some (.slice e)) (he : P.underlying e = some (.int .i32)) (hc : P.cellsOf e = 1)
    (hval : Value.okWide P w .any 0 t v) (hd : DataW.Trod enc P w 0 (fun _ => true) true t v d ps) :
    ∃ l : List Int, argRow w v l.length 1 (l.map rCell) ∧ ∀ x ∈ l, -2147483648 ≤ x ∧ x ≤ 2147483647 := by
  obtain ⟨a0, len, cap, rfl⟩ := okWide_slice ht hval
  obtain ⟨fuel, hf⟩ := hd
  simp only [Value.cells] at hf
  rcases ChangeShapes.open_ints ht he hc hf with ⟨hcs, hx⟩ | ⟨a, len', cap', zs, hcs, _, hl, hm, hz, hx, hcell, hwz⟩
  · simp only [List.cons.injEq, and_true] at hcs
    exact ⟨[], ⟨rfl, _, _, hcs, Nat.le_refl _, Nat.zero_le _, fun h => by simp at h⟩, fun x hx => by cases hx⟩
  · simp only [List.cons.injEq, and_true] at hcs
    have hz' : zs.length = cap' := by simpa using hz
    have hll : (zs.take len').length = len' := by simp; omega
    refine ⟨zs.take len', ⟨by simp, some a, cap', by rw [hcs, hll], by omega, hm, fun h0 => ?_⟩, fun x hx => ?_⟩
    · obtain ⟨b, off, rfl, hcell'⟩ := ints_at hcell (by omega)
      refine ⟨b, off, rfl, World.block_lt_of_cell? w _ (hcell' 0 (by omega)), fun j hj => ?_⟩
      simp only [List.length_map] at hj
      rw [List.length_take] at hj
      have h2 := hcell' j (by omega)
      simp only [List.getElem_map, List.getElem_take]
      rw [h2]
      simp [rCell, List.getD_eq_getElem?_getD, List.getElem?_eq_getElem (show j < zs.length by omega)]
    · have h := bounds_i32 (hwz x (List.mem_of_mem_take hx))
      omega
end Go.Proofs.YthmhmckkkceclaaDoor
