/-
  Openings of arguments: a list of labels; a label.
-/
import Derived.Test.YtljnbbdhmlfhjaaGreatDoorFrame
import Derived.Test.YtljnbbdhmlfhjaaGreatDoorLabTwo
import Derived.Deep.SlicePairs
import Derived.Lib.SmallJoins
namespace Go.Proofs.YtljnbbdhmlfhjaaGreatDoor
open Go.ChangeShapes Go.WideShapes Go.ChangeAt Go.RowKit Go.Lib Go.Deep Go.Joins

theorem labs_bulk {H : Type} (D0 D1 : Nat → DataW H) (L : Nat → Lab) : ∀ (n : Nat), (∀ i, i < n → (L i).1.size + 1 = Rows.uptoBulk (D0 i) ∧ (L i).2.size + 1 = Rows.uptoBulk (D1 i)) → sumL ((List.range n).map L) ≤ Rows.uptoBulkAll ((List.range n).map fun i => DataW.agg [D0 i, D1 i])
  | 0, _ => by simp [sumL]
  | n + 1, h => by
    have ih := labs_bulk D0 D1 L n fun i hi => h i (by omega)
    have h1 := h n (by omega)
    have app : ∀ (a b : List (DataW H)), Rows.uptoBulkAll (a ++ b) = Rows.uptoBulkAll a + Rows.uptoBulkAll b := by
      intro a b
      induction a with
      | nil => simp [Rows.uptoBulkAll]
      | cons x a ih => simp only [List.cons_append, Rows.uptoBulkAll, ih]; omega
    rw [List.range_succ, List.map_append, List.map_append, app]
    show sumL ((List.range n).map L ++ [L n]) ≤ _
    rw [sumL_snoc]
    simp only [List.map_cons, List.map_nil, Rows.uptoBulkAll, Rows.uptoBulk]
    omega
set_option maxRecDepth 100000 in
/-- A list of labels that came in. -/
theorem open_labs {H : Type} {enc : TypeId × Value → H} {w : World} {v : Value} {d : DataW H} {ps : List MemPlace}
    (hval : Value.okWide Tryz.prog w .any 0 32 v) (hd : DataW.Trod enc Tryz.prog w 0 (fun _ => true) true 32 v d ps) :
    ∃ L : List Lab, LRow w v L ∧ sumL L ≤ Rows.uptoBulk d := by
  obtain ⟨a0, len, cap, rfl⟩ := okWide_slice Tryz.underlying32 hval
  obtain ⟨fuel, hf⟩ := hd
  simp only [Value.cells] at hf
  rcases open_slice_pairs Tryz.underlying32 Tryz.underlying55 (by kernel_rfl) rfl rfl (by kernel_rfl) (by kernel_rfl) hf with ⟨hcs, hx⟩ | ⟨a, len', cap', m, n, V0, V1, D0, D1, P0, P1, hcs, _, hl, hm, hmm, hx, hcell⟩
  · simp only [List.cons.injEq, and_true] at hcs
    exact ⟨[], ⟨rfl, _, _, hcs, Nat.le_refl _, Nat.zero_le _, fun h => by simp at h⟩, by simp [sumL]⟩
  · simp only [List.cons.injEq, and_true] at hcs
    have hm' : m = cap' := by rw [hmm]; simp
    simp only [Prod.mk.injEq] at hx
    have hL : ∀ i, ∃ x : Lab, i < m → V0 i = .string x.1 ∧ V1 i = .string x.2 ∧ x.1.size + 1 = Rows.uptoBulk (D0 i) ∧ x.2.size + 1 = Rows.uptoBulk (D1 i) := fun i => by
      by_cases hi : i < m
      · obtain ⟨_, _, h0, h1⟩ := hcell i hi
        obtain ⟨s0, e0, x0, _⟩ := DataW.trod_string Tryz.underlying9 h0
        obtain ⟨s1, e1, x1, _⟩ := DataW.trod_string Tryz.underlying9 h1
        simp only [List.cons.injEq, and_true] at e0 e1
        simp only [Prod.mk.injEq] at x0 x1
        refine ⟨(s0, s1), fun _ => ⟨e0, e1, ?_, ?_⟩⟩
        · rw [x0.1]; simp [Rows.uptoBulk, ByteArray.size_data]
        · rw [x1.1]; simp [Rows.uptoBulk, ByteArray.size_data]
      · exact ⟨(⟨#[]⟩, ⟨#[]⟩), fun h => absurd h hi⟩
    obtain ⟨L, hL⟩ := Classical.axiomOfChoice hL
    refine ⟨(List.range len').map L, ⟨by rw [labCells_len], some a, cap', by rw [hcs]; simp, by simpa using hl, hm, fun h0 => ?_⟩, ?_⟩
    · have hpos : 0 < len' := by simpa using h0
      obtain ⟨b, off, spot⟩ := a
      have hspot : spot = none := by simpa [Addr.add] using World.cell?_spot (hcell 0 (by omega)).1
      subst hspot
      have hc' : ∀ j, j < m → w.cell? ⟨b, off + j * 2, none⟩ = some (V0 j) ∧ w.cell? ⟨b, off + (j * 2 + 1), none⟩ = some (V1 j) := fun j hj => by
        rw [← WideShapes.add_plain, ← WideShapes.add_plain]
        exact ⟨(hcell j hj).1, (hcell j hj).2.1⟩
      refine ⟨b, off, rfl, World.block_lt_of_cell? w _ (hc' 0 (by omega)).1, fun j hj => ?_⟩
      have hjl : j < len' * 2 := by simpa [labCells_len] using hj
      have hq : j / 2 < ((List.range len').map L).length := by simp; omega
      have hg := labCells_get ((List.range len').map L) (j / 2) hq
      have hv := hL (j / 2) (by omega)
      have hcj := hc' (j / 2) (by omega)
      simp only [List.getElem_map, List.getElem_range] at hg
      rcases Nat.mod_two_eq_zero_or_one j with hm2 | hm2
      · have ej : j / 2 * 2 = j := by omega
        rw [ej, List.getElem?_eq_getElem hj] at hg
        rw [ej] at hcj
        rw [hcj.1, hv.1, Option.some.inj hg.1]
      · have ej : j / 2 * 2 + 1 = j := by omega
        rw [ej, List.getElem?_eq_getElem hj] at hg
        rw [ej] at hcj
        rw [hcj.2, hv.2.1, Option.some.inj hg.2]
    · rw [hx.1]
      simp only [Rows.uptoBulk]
      have := labs_bulk D0 D1 L len' fun i hi => (hL i (by omega)).2.2
      omega
set_option maxRecDepth 100000 in
/-- Its array. -/
theorem labs_shape {H : Type} {enc : TypeId × Value → H} {w : World} {v : Value} {d : DataW H} {ps : List MemPlace} {L : List Lab}
    (hval : Value.okWide Tryz.prog w .any 0 32 v) (hd : DataW.Trod enc Tryz.prog w 0 (fun _ => true) true 32 v d ps) (hL : LRow w v L) :
    ∃ a c, v = .slice a L.length c ∧ (0 < c → ∃ b off, a = some ⟨b, off, none⟩) := by
  obtain ⟨a1, c1, e1, _, _⟩ := hL.shape
  obtain ⟨a0, len, cap, rfl⟩ := okWide_slice Tryz.underlying32 hval
  obtain ⟨e2, e3, e4⟩ := Value.slice.inj e1
  subst e2 e3 e4
  refine ⟨_, _, rfl, fun hc => ?_⟩
  obtain ⟨fuel, hf⟩ := hd
  simp only [Value.cells] at hf
  rcases open_slice_pairs Tryz.underlying32 Tryz.underlying55 (by kernel_rfl) rfl rfl (by kernel_rfl) (by kernel_rfl) hf with ⟨hcs, hx⟩ | ⟨a, len', cap', m, n, V0, V1, D0, D1, P0, P1, hcs, _, hl, hm, hmm, hx, hcell⟩
  · simp only [List.cons.injEq, and_true] at hcs
    have := (Value.slice.inj hcs).2.2
    omega
  · simp only [List.cons.injEq, and_true] at hcs
    have hm' : m = cap' := by rw [hmm]; simp
    obtain ⟨e1, _, e2⟩ := Value.slice.inj hcs
    obtain ⟨b, off, spot⟩ := a
    have hspot : spot = none := by simpa [Addr.add] using World.cell?_spot (hcell 0 (by omega)).1
    subst hspot
    exact ⟨b, off, e1⟩
set_option maxRecDepth 100000 in
/-- A label that came in. -/
theorem open_lab {H : Type} {enc : TypeId × Value → H} {w : World} {v : Value} {d : DataW H} {ps : List MemPlace}
    (hval : Value.okWide Tryz.prog w .any 0 55 v) (hd : DataW.Trod enc Tryz.prog w 0 (fun _ => true) true 55 v d ps) :
    ∃ (a b : ByteArray), v = .agg #[.string a, .string b] ∧ a.size + b.size + 3 ≤ Rows.uptoBulk d := by
  obtain ⟨v0, v1, y0, y1, n, rfl, rfl, rfl, h0, h1⟩ := open_agg2 Tryz.underlying55 (by kernel_rfl) (by kernel_rfl) hval hd
  obtain ⟨s0, e0, x0, _⟩ := DataW.trod_string Tryz.underlying9 h0
  obtain ⟨s1, e1, x1, _⟩ := DataW.trod_string Tryz.underlying9 h1
  simp only [List.cons.injEq, and_true] at e0 e1
  refine ⟨s0, s1, by rw [e0, e1], ?_⟩
  rw [x0, x1]
  simp only [Rows.uptoBulk, Rows.uptoBulkAll]
  simp [ByteArray.size_data]
  omega
end Go.Proofs.YtljnbbdhmlfhjaaGreatDoor
