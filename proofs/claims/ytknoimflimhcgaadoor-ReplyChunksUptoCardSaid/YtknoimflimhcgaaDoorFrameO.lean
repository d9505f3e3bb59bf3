/-
  Openings of arguments: a struct with a slice of bytes in it, a list of slices of bytes.
-/
import Derived.Test.YtknoimflimhcgaaDoorFrameR
import Derived.Test.YtknoimflimhcgaaDoorRepK
import Derived.Lib.SmallJoins
import Derived.Deep.Slices
namespace Go.Proofs.YtknoimflimhcgaaDoor
open Go.ChangeShapes Go.WideShapes Go.ChangeAt Go.RowKit Go.Lib Go.Deep Go.Joins

theorem open_bytes_trod {H : Type} {enc : TypeId × Value → H} {P : Program} {w : World} {t e : TypeId} {v : Value} {n : Nat} {y : DataW H × List MemPlace} (ht : P.underlying t = some (.slice e)) (he : P.underlying e = some (.int .u8)) (hc : P.cellsOf e = 1)
    (hf : DataW.trod enc P w 0 (fun _ => true) true n t [v] = some y) :
    ∃ l : List UInt8, argRow w v l.length 1 (Lib.byteCells l) ∧ l.length + 1 ≤ Rows.uptoBulk y.1 := by
  rcases ChangeShapes.open_ints ht he hc hf with ⟨hcs, hx⟩ | ⟨a, len', cap', zs, hcs, _, hl, hm, hz, hx, hcell, hwz⟩
  · simp only [List.cons.injEq, and_true] at hcs
    refine ⟨[], ⟨rfl, _, _, hcs, Nat.le_refl _, Nat.zero_le _, fun h => by simp at h⟩, ?_⟩
    rw [hx]
    simp [Rows.uptoBulk]
  · simp only [List.cons.injEq, and_true] at hcs
    have hz' : zs.length = cap' := by simpa using hz
    have hll : ((zs.take len').map fun z => UInt8.ofNat z.toNat).length = len' := by simp; omega
    refine ⟨(zs.take len').map fun z => UInt8.ofNat z.toNat, ⟨by simp [Lib.byteCells], some a, cap', by rw [hcs, hll], by omega, hm, fun h0 => ?_⟩, ?_⟩
    · obtain ⟨b, off, rfl, hcell'⟩ := ints_at hcell (by omega)
      refine ⟨b, off, rfl, World.block_lt_of_cell? w _ (hcell' 0 (by omega)), fun j hj => ?_⟩
      simp only [Lib.byteCells, List.length_map] at hj
      rw [List.length_take] at hj
      have h2 := hcell' j (by omega)
      simp only [Lib.byteCells, List.getElem_map, List.getElem_take]
      rw [h2, byteOfInt _ (hwz _ (List.getElem_mem _))]
      simp [List.getD_eq_getElem?_getD, List.getElem?_eq_getElem (show j < zs.length by omega)]
    · rw [hx, hll]
      simp only [Rows.uptoBulk]
      have := bulk_len (lits .u8 (zs.take len') : List (DataW H))
      have h3 : (lits .u8 (zs.take len') : List (DataW H)).length = len' := by simp [lits]; omega
      omega

theorem rows_bulk {H : Type} (D : Nat → DataW H) (L : Nat → Byt) : ∀ (n : Nat), (∀ i, i < n → (L i).length + 1 ≤ Rows.uptoBulk (D i)) → (((List.range n).map L).map fun l => l.length + 1).sum ≤ Rows.uptoBulkAll ((List.range n).map D)
  | 0, _ => by simp
  | n + 1, h => by
    have ih := rows_bulk D L n fun i hi => h i (by omega)
    have h1 := h n (by omega)
    have app : ∀ (a b : List (DataW H)), Rows.uptoBulkAll (a ++ b) = Rows.uptoBulkAll a + Rows.uptoBulkAll b := by
      intro a b
      induction a with
      | nil => simp [Rows.uptoBulkAll]
      | cons x a ih => simp only [List.cons_append, Rows.uptoBulkAll, ih]; omega
    rw [List.range_succ, List.map_append, List.map_append, List.map_append, List.sum_append, app]
    simp only [List.map_cons, List.map_nil, List.sum_cons, List.sum_nil, Rows.uptoBulkAll]
    omega

/-- A list of slices of bytes that came in. -/
theorem open_rows {H : Type} {enc : TypeId × Value → H} {P : Program} {w : World} {t e u : TypeId} {v : Value} {d : DataW H} {ps : List MemPlace} (ht : P.underlying t = some (.slice e)) (he : P.underlying e = some (.slice u)) (hu : P.underlying u = some (.int .u8))
    (hce : P.cellsOf e = 1) (hcu : P.cellsOf u = 1) (hval : Value.okWide P w .any 0 t v) (hd : DataW.Trod enc P w 0 (fun _ => true) true t v d ps) :
    ∃ L : List Byt, Rows w v L ∧ (L.map fun l => l.length + 1).sum ≤ Rows.uptoBulk d := by
  obtain ⟨a0, len, cap, rfl⟩ := okWide_slice ht hval
  obtain ⟨fuel, hf⟩ := hd
  simp only [Value.cells] at hf
  rcases open_slice1 ht hce hf with ⟨hcs, hx⟩ | ⟨a, len', cap', m, n, V, D, Pl, hcs, _, hl, hm, hmm, hx, hcell⟩
  · simp only [List.cons.injEq, and_true] at hcs
    exact ⟨[], ⟨[], ⟨rfl, _, _, hcs, Nat.le_refl _, Nat.zero_le _, fun h => by simp at h⟩, fun i h => by cases h⟩, by simp⟩
  · simp only [List.cons.injEq, and_true] at hcs
    have hm' : m = cap' := by rw [hmm]; simp
    simp only [Prod.mk.injEq] at hx
    have hL : ∀ i, ∃ l : Byt, i < m → argRow w (V i) l.length 1 (Lib.byteCells l) ∧ l.length + 1 ≤ Rows.uptoBulk (D i) := fun i => by
      by_cases hi : i < m
      · obtain ⟨l, h1, h2⟩ := open_bytes_trod he hu hcu (hcell i hi).2
        exact ⟨l, fun _ => ⟨h1, h2⟩⟩
      · exact ⟨[], fun h => absurd h hi⟩
    obtain ⟨L, hL⟩ := Classical.axiomOfChoice hL
    refine ⟨(List.range len').map L, ⟨(List.range len').map V, ⟨by simp, some a, cap', by rw [hcs]; simp, by simpa using hl, hm, fun h0 => ?_⟩, fun i hi hi' => ?_⟩, ?_⟩
    · have hpos : 0 < len' := by simpa using h0
      obtain ⟨b, off, spot⟩ := a
      have hspot : spot = none := by simpa [Addr.add] using World.cell?_spot (hcell 0 (by omega)).1
      subst hspot
      have hc' : ∀ j, j < m → w.cell? ⟨b, off + j, none⟩ = some (V j) := fun j hj => by
        rw [← WideShapes.add_plain]
        exact (hcell j hj).1
      refine ⟨b, off, rfl, World.block_lt_of_cell? w _ (hc' 0 (by omega)), fun j hj => ?_⟩
      have hj' : j < len' := by simpa using hj
      rw [hc' j (by omega)]
      simp
    · have hi2 : i < len' := by simpa using hi
      have := (hL i (by omega)).1
      simpa using this
    · rw [hx.1]
      simp only [Rows.uptoBulk]
      have := rows_bulk D L len' fun i hi => (hL i (by omega)).2
      omega
theorem rows_len : ∀ L : List Byt, L.length ≤ (L.map fun l => l.length + 1).sum
  | [] => by simp
  | x :: L => by
    have := rows_len L
    simp only [List.length_cons, List.map_cons, List.sum_cons]
    omega
theorem rows_mem : ∀ {L : List Byt} {l : Byt}, l ∈ L → l.length ≤ (L.map fun l => l.length + 1).sum
  | x :: L, l, h => by
    simp only [List.map_cons, List.sum_cons]
    rcases List.mem_cons.1 h with rfl | h
    · omega
    · have := rows_mem h
      omega
/-- An api.Reply that came in. -/
theorem open_reply {H : Type} {enc : TypeId × Value → H} {w : World} {v : Value} {d : DataW H} {ps : List MemPlace}
    (hval : Value.okWide Tryd.prog w .any 0 31 v) (hd : DataW.Trod enc Tryd.prog w 0 (fun _ => true) true 31 v d ps) :
    ∃ (st : Int) (vb : Value) (body : Byt) (cl : Bool), v = .agg #[.int .i64 st, vb, .bool cl] ∧ argRow w vb body.length 1 (Lib.byteCells body) ∧ body.length ≤ Rows.uptoBulk d := by
  obtain ⟨v0, v1, v2, y0, y1, y2, n, rfl, rfl, rfl, h0, h1, h2⟩ := open_agg3 Tryd.underlying31 (by kernel_rfl) (by kernel_rfl) hval hd
  obtain ⟨st, e0, _⟩ := DataW.trod_int Tryd.underlying3 h0
  obtain ⟨cl, e2, _⟩ := DataW.trod_bool Tryd.underlying4 h2
  obtain ⟨l, h3, h4⟩ := open_bytes_trod Tryd.underlying22 Tryd.underlying5 (by kernel_rfl) h1
  simp only [List.cons.injEq, and_true] at e0 e2
  refine ⟨st, v1, l, cl, by rw [e0, e2], h3, ?_⟩
  simp only [Rows.uptoBulk, Rows.uptoBulkAll]
  omega
end Go.Proofs.YtknoimflimhcgaaDoor
