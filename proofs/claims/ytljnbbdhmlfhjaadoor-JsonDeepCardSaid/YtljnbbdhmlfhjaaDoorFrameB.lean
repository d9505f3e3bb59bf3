/-
  A list of bools that came in.
-/
import Derived.Test.YtljnbbdhmlfhjaaDoorFrameJ
import Derived.Deep.Grids
namespace Go.Proofs.YtljnbbdhmlfhjaaDoor
open Go.RowKit Go.ChangeShapes Go.WideShapes
theorem open_boolsJ {H : Type} {enc : TypeId × Value → H} {P : Program} {w : World} {t e : TypeId} {v : Value} {d : DataW H} {ps : List MemPlace} (ht : P.underlying t = some (.slice e)) (he : P.underlying e = some .bool) (hc : P.cellsOf e = 1)
    (hval : Value.okWide P w .any 0 t v) (hd : DataW.Trod enc P w 0 (fun _ => true) true t v d ps) :
    ∃ l : List Bool, argRow w v l.length 1 (l.map .bool) := by
  obtain ⟨a0, len, cap, rfl⟩ := okWide_slice ht hval
  obtain ⟨fuel, hf⟩ := hd
  simp only [Value.cells] at hf
  rcases Go.Deep.open_bools ht he hc hf with ⟨hcs, hx⟩ | ⟨a, len', cap', B, hcs, hb, hl, hm, hx, hcell⟩
  · simp only [List.cons.injEq, and_true] at hcs
    exact ⟨[], rfl, _, _, hcs, Nat.le_refl _, Nat.zero_le _, fun h => by simp at h⟩
  · simp only [List.cons.injEq, and_true] at hcs
    have hll : ((List.range len').map B).length = len' := by simp
    refine ⟨(List.range len').map B, by simp, some a, cap', by rw [hcs, hll], by omega, hm, fun h0 => ?_⟩
    obtain ⟨b, off, spot⟩ := a
    have hspot : spot = none := by simpa [Addr.add] using World.cell?_spot (hcell 0 (by omega))
    subst hspot
    refine ⟨b, off, rfl, ?_, fun j hj => ?_⟩
    · have := hcell 0 (by omega)
      rw [Go.WideShapes.add_plain] at this
      exact World.block_lt_of_cell? w _ this
    · simp only [List.length_map, List.length_range] at hj
      have := hcell j (by omega)
      rw [Go.WideShapes.add_plain] at this
      rw [this]
      simp
end Go.Proofs.YtljnbbdhmlfhjaaDoor
