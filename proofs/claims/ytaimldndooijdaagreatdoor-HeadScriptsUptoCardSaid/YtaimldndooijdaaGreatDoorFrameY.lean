/-
  Openings of arguments: a script of calls.
-/
import Derived.Test.YtaimldndooijdaaGreatDoorFrameQ
import Derived.Test.YtaimldndooijdaaGreatDoorScrTri
namespace Go.Proofs.YtaimldndooijdaaGreatDoor
open Go.ChangeShapes Go.WideShapes Go.ChangeAt Go.RowKit Go.Lib Go.Deep Go.Joins

section
variable {H : Type} {enc : TypeId × Value → H} {P : Program} {w : World} {base : Nat} {spare : Nat → Bool} {held : Bool}
/-- A slice of structs of three one-cell fields, opened at every index. -/
theorem open_slice_trips {t e : TypeId} {f0 f1 f2 : Field} {fuel : Nat} {cs : List Value} {x : DataW H × List MemPlace} (ht : P.underlying t = some (.slice e)) (he : P.underlying e = some (.struct #[f0, f1, f2]))
    (ce : P.cellsOf e = 3) (o0 : f0.offset = 0) (o1 : f1.offset = 1) (o2 : f2.offset = 2) (c0 : P.cellsOf f0.type = 1) (c1 : P.cellsOf f1.type = 1) (c2 : P.cellsOf f2.type = 1)
    (h : DataW.trod enc P w base spare held fuel t cs = some x) :
    (cs = [.slice none 0 0] ∧ x = (.nil, [])) ∨
    ∃ (a : Addr) (len cap m n : Nat) (V : Nat → Value × Value × Value) (D : Nat → DataW H × DataW H × DataW H), cs = [.slice (some a) len cap] ∧ len ≤ cap ∧ cap ≤ maxLen ∧ m = (if spare a.block then cap else len) ∧
      (∃ sp, x.1 = .slice ((List.range len).map fun i => .agg [(D i).1, (D i).2.1, (D i).2.2]) sp) ∧
      ∀ i, i < m → (w.cell? (a.add (i * 3)) = some (V i).1 ∧ w.cell? (a.add (i * 3 + 1)) = some (V i).2.1 ∧ w.cell? (a.add (i * 3 + 2)) = some (V i).2.2) ∧
        (∃ p0, DataW.trod enc P w base spare held n f0.type [(V i).1] = some ((D i).1, p0)) ∧ (∃ p1, DataW.trod enc P w base spare held n f1.type [(V i).2.1] = some ((D i).2.1, p1)) ∧
        (∃ p2, DataW.trod enc P w base spare held n f2.type [(V i).2.2] = some ((D i).2.2, p2)) := by
  rcases open_slice ht h with h0 | ⟨a, len, cap, m, n, D, Pl, rfl, hb, hl, hm, hmm, rfl, hx⟩
  · exact Or.inl h0
  right
  have hlm : len ≤ m := by rw [hmm]; split <;> omega
  have each : ∀ i, i < m → ∃ q : (Value × Value × Value) × (DataW H × DataW H × DataW H),
      (w.cell? (a.add (i * 3)) = some q.1.1 ∧ w.cell? (a.add (i * 3 + 1)) = some q.1.2.1 ∧ w.cell? (a.add (i * 3 + 2)) = some q.1.2.2) ∧
      (∃ p0, DataW.trod enc P w base spare held (n - 1) f0.type [q.1.1] = some (q.2.1, p0)) ∧ (∃ p1, DataW.trod enc P w base spare held (n - 1) f1.type [q.1.2.1] = some (q.2.2.1, p1)) ∧
      (∃ p2, DataW.trod enc P w base spare held (n - 1) f2.type [q.1.2.2] = some (q.2.2.2, p2)) ∧
      D i = .agg [q.2.1, q.2.2.1, q.2.2.2] := by
    intro i hi
    obtain ⟨cs', h1, h2⟩ := hx i hi
    rw [ce] at h1
    obtain ⟨_, hlen, hcell⟩ := World.cells?_some h1
    obtain ⟨xs, k, hk, hxy, _, hxl, hf⟩ := DataW.trod_struct he h2
    have hk' : k = n - 1 := by omega
    subst hk'
    match xs, hxl, cs', hlen with
    | [y0, y1, y2], _, [v0, v1, v2], _ =>
      have g0 := hf 0 f0 rfl
      have g1 := hf 1 f1 rfl
      have g2 := hf 2 f2 rfl
      simp [o0, o1, o2, c0, c1, c2] at g0 g1 g2
      have e0 := hcell 0 (by omega)
      have e1 := hcell 1 (by omega)
      have e2 := hcell 2 (by omega)
      rw [add_add] at e0 e1 e2
      simp only [Prod.mk.injEq] at hxy
      exact ⟨((v0, v1, v2), (y0.1, y1.1, y2.1)), ⟨by simpa using e0, by simpa using e1, by simpa using e2⟩, ⟨y0.2, g0⟩, ⟨y1.2, g1⟩, ⟨y2.2, g2⟩, by simpa using hxy.1⟩
  obtain ⟨q, hq⟩ := choose_lt each
  refine ⟨a, len, cap, m, n - 1, fun i => (q i).1, fun i => (q i).2, rfl, hl, hm, hmm, ⟨(List.range (m - len)).map fun j => D (len + j), ?_⟩, fun i hi => ⟨(hq i hi).1, (hq i hi).2.1, (hq i hi).2.2.1, (hq i hi).2.2.2.1⟩⟩
  rw [List.map_congr_left (fun i hi => (hq i (by have := List.mem_range.1 hi; omega)).2.2.2.2)]
end
set_option maxRecDepth 100000 in
/-- Records, by their cells. -/
theorem open_recs_trod {H : Type} {enc : TypeId × Value → H} {w : World} {v : Value} {n0 : Nat} {y : DataW H × List MemPlace} (hf : DataW.trod enc Tryz.prog w 0 (fun _ => true) true n0 28 [v] = some y) (hbd : Rows.uptoBulk y.1 ≤ 1048576) :
    ∃ Z : List RecL, RRow w v Z ∧ (∀ z ∈ Z, inRec z.1) ∧ Z.length ≤ 1048576 ∧ (Z.map fun z => sumL z.1.labs + z.1.line.size + 1).sum ≤ Rows.uptoBulk y.1 := by
  rcases open_slice_quads Tryz.underlying28 Tryz.underlying47 (by kernel_rfl) rfl rfl rfl rfl (by kernel_rfl) (by kernel_rfl) (by kernel_rfl) (by kernel_rfl) hf with ⟨hcs, hx⟩ | ⟨a, len', cap', m, n, V, D, hcs, hl, hm, hmm, ⟨sp, hx⟩, hcell⟩
  · simp only [List.cons.injEq, and_true] at hcs
    exact ⟨[], ⟨⟨rfl, _, _, hcs, Nat.le_refl _, Nat.zero_le _, fun h => by simp at h⟩, fun z hz => by simp at hz⟩, fun z hz => by simp at hz, by simp, by simp⟩
  · simp only [List.cons.injEq, and_true] at hcs
    have hm' : m = cap' := by rw [hmm]; simp
    have hx' : y.1 = .slice ((List.range len').map fun i => .agg [(D i).1, (D i).2.1, (D i).2.2.1, (D i).2.2.2]) sp := hx
    rw [hx'] at hbd
    simp only [Rows.uptoBulk] at hbd
    have hlen : len' ≤ 1048576 := by
      have := bulk_len ((List.range len').map fun i => DataW.agg [(D i).1, (D i).2.1, (D i).2.2.1, (D i).2.2.2])
      simp at this
      omega
    have hR : ∀ i, ∃ r : Rec, i < m → (V i).1 = .int .i64 r.time ∧ (V i).2.1 = .int .u64 (r.seq : Int) ∧ (V i).2.2.2 = .string r.line ∧ LRow w (V i).2.2.1 r.labs ∧ (-9223372036854775808 ≤ r.time ∧ r.time ≤ 9223372036854775807) ∧ r.seq < 18446744073709551616 ∧ sumL r.labs ≤ Rows.uptoBulk (D i).2.2.1 ∧ r.line.size + 1 ≤ Rows.uptoBulk (D i).2.2.2 := fun i => by
      by_cases hi : i < m
      · obtain ⟨-, ⟨p0, h0⟩, ⟨p1, h1⟩, ⟨p2, h2⟩, ⟨p3, h3⟩⟩ := hcell i hi
        obtain ⟨r, hr⟩ := rec_fields h0 h1 h2 h3
        exact ⟨r, fun _ => hr⟩
      · exact ⟨(⟨0, 0, [], ⟨#[]⟩⟩ : Rec), fun h => absurd h hi⟩
    obtain ⟨R, hR⟩ := Classical.axiomOfChoice hR
    have hsmall : ∀ i, i < len' → sumL (R i).labs ≤ 1048576 ∧ (R i).line.size ≤ 1048576 := fun i hi => by
      have h := hR i (by omega)
      have hmem := bulkAll_mem (l := (List.range len').map fun i => DataW.agg [(D i).1, (D i).2.1, (D i).2.2.1, (D i).2.2.2]) (x := DataW.agg [(D i).1, (D i).2.1, (D i).2.2.1, (D i).2.2.2]) (List.mem_map.2 ⟨i, List.mem_range.2 hi, rfl⟩)
      simp only [Rows.uptoBulk, Rows.uptoBulkAll] at hmem
      omega
    refine ⟨(List.range len').map fun i => (R i, (V i).2.2.1), ⟨⟨by rw [recsCells_len], some a, cap', by rw [hcs]; simp, by simpa using hl, hm, fun h0 => ?_⟩, fun z hz => ?_⟩, fun z hz => ?_, by simpa using hlen, ?_⟩
    · have hpos : 0 < len' := by simpa using h0
      obtain ⟨b, off, spot⟩ := a
      have hspot : spot = none := by simpa [Addr.add] using World.cell?_spot (hcell 0 (by omega)).1.1
      subst hspot
      have hc' : ∀ i, i < m → ∀ j, j < 4 → w.cell? ⟨b, off + (i * 4 + j), none⟩ = (recCells (R i, (V i).2.2.1))[j]? := fun i hi j hj => by
        rw [← WideShapes.add_plain]
        obtain ⟨⟨e0, e1, e2, e3⟩, -⟩ := hcell i hi
        have hr := hR i hi
        match j, hj with
        | 0, _ => rw [show i * 4 + 0 = i * 4 from rfl, e0, hr.1]; rfl
        | 1, _ => rw [e1, hr.2.1]; rfl
        | 2, _ => rw [e2]; rfl
        | 3, _ => rw [e3, hr.2.2.1]; rfl
      refine ⟨b, off, rfl, ?_, fun j hj => ?_⟩
      · have := hc' 0 (by omega) 0 (by omega)
        exact World.block_lt_of_cell? w _ (this.trans rfl)
      · have hjl : j < len' * 4 := by simpa [recsCells_len] using hj
        have hq : j / 4 < ((List.range len').map fun i => (R i, (V i).2.2.1)).length := by simp; omega
        have hg := recsCells_get ((List.range len').map fun i => (R i, (V i).2.2.1)) (j / 4) hq (j % 4) (Nat.mod_lt _ (by decide))
        simp only [List.getElem_map, List.getElem_range] at hg
        have ej : j / 4 * 4 + j % 4 = j := by omega
        have hcj := hc' (j / 4) (by omega) (j % 4) (Nat.mod_lt _ (by decide))
        rw [ej] at hg hcj
        rw [hcj, ← hg, List.getElem?_eq_getElem hj]
    · obtain ⟨i, hi, rfl⟩ := List.mem_map.1 hz
      have hi' := List.mem_range.1 hi
      have h := hR i (by omega)
      exact recAt_of h.2.2.2.1 (hsmall i hi').1 (hsmall i hi').2 (Nat.le_refl _)
    · obtain ⟨i, hi, rfl⟩ := List.mem_map.1 hz
      have hi' := List.mem_range.1 hi
      have h := hR i (by omega)
      exact inRec_of h.2.2.2.2.1 h.2.2.2.2.2.1 (hsmall i hi').1 (hsmall i hi').2 (Nat.le_refl _)
    · rw [hx', List.map_map]
      simp only [Rows.uptoBulk]
      refine Nat.le_trans (bulkAll_sum (List.range len') _ (fun i => DataW.agg [(D i).1, (D i).2.1, (D i).2.2.1, (D i).2.2.2]) fun i hi => ?_) (by omega)
      have h := hR i (by have := List.mem_range.1 hi; omega)
      simp only [Rows.uptoBulk, Rows.uptoBulkAll, Function.comp]
      omega
set_option maxRecDepth 100000 in
/-- A script that came in. -/
theorem open_ops {H : Type} {enc : TypeId × Value → H} {w : World} {v : Value} {d : DataW H} {ps : List MemPlace}
    (hval : Value.okWide Tryz.prog w .any 0 22 v) (hd : DataW.Trod enc Tryz.prog w 0 (fun _ => true) true 22 v d ps) (hbd : Rows.uptoBulk d ≤ 1048576) :
    ∃ L : List OpL, OpRow w v L ∧ L.length ≤ 1048576 := by
  obtain ⟨a0, len, cap, rfl⟩ := okWide_slice Tryz.underlying22 hval
  obtain ⟨fuel, hf⟩ := hd
  simp only [Value.cells] at hf
  rcases open_slice_trips Tryz.underlying22 Tryz.underlying30 (by kernel_rfl) rfl rfl rfl (by kernel_rfl) (by kernel_rfl) (by kernel_rfl) hf with ⟨hcs, hx⟩ | ⟨a, len', cap', m, n, V, D, hcs, hl, hm, hmm, ⟨sp, hx⟩, hcell⟩
  · simp only [List.cons.injEq, and_true] at hcs
    exact ⟨[], ⟨⟨rfl, _, _, hcs, Nat.le_refl _, Nat.zero_le _, fun h => by simp at h⟩, fun z hz => by simp at hz⟩, by simp⟩
  · simp only [List.cons.injEq, and_true] at hcs
    have hm' : m = cap' := by rw [hmm]; simp
    have hx' : d = .slice ((List.range len').map fun i => .agg [(D i).1, (D i).2.1, (D i).2.2]) sp := hx
    rw [hx'] at hbd
    simp only [Rows.uptoBulk] at hbd
    have hlen : len' ≤ 1048576 := by
      have := bulk_len ((List.range len').map fun i => DataW.agg [(D i).1, (D i).2.1, (D i).2.2])
      simp at this
      omega
    have hsmall : ∀ i, i < len' → Rows.uptoBulk (D i).2.1 ≤ 1048576 ∧ Rows.uptoBulk (D i).2.2 ≤ 1048576 := fun i hi => by
      have hmem := bulkAll_mem (l := (List.range len').map fun i => DataW.agg [(D i).1, (D i).2.1, (D i).2.2]) (x := DataW.agg [(D i).1, (D i).2.1, (D i).2.2]) (List.mem_map.2 ⟨i, List.mem_range.2 hi, rfl⟩)
      simp only [Rows.uptoBulk, Rows.uptoBulkAll] at hmem
      omega
    have hR : ∀ i, ∃ x : OpL, i < len' → (V i).1 = .int .i64 x.1 ∧ (V i).2.1 = .string x.2.1 ∧ (V i).2.2 = x.2.2.1 ∧ RRow w x.2.2.1 x.2.2.2 ∧ x.2.2.2.length ≤ 1048576 ∧ x.2.1.size ≤ 1000000000 := fun i => by
      by_cases hi : i < len'
      · obtain ⟨-, ⟨p0, h0⟩, ⟨p1, h1⟩, ⟨p2, h2⟩⟩ := hcell i (by omega)
        obtain ⟨k, e0, -, -⟩ := DataW.trod_int Tryz.underlying3 h0
        obtain ⟨s, e1, x1, -⟩ := DataW.trod_string Tryz.underlying9 h1
        obtain ⟨Z, hZ, -, hl2, -⟩ := open_recs_trod h2 (hsmall i hi).2
        simp only [List.cons.injEq, and_true] at e0 e1
        simp only [Prod.mk.injEq] at x1
        have hs := (hsmall i hi).1
        rw [x1.1] at hs
        simp only [Rows.uptoBulk] at hs
        refine ⟨(k, s, (V i).2.2, Z), fun _ => ⟨e0, e1, rfl, hZ, hl2, ?_⟩⟩
        have : s.data.toList.length = s.size := by simp [ByteArray.size_data]
        show s.size ≤ 1000000000
        omega
      · exact ⟨(0, ⟨#[]⟩, .slice none 0 0, []), fun h => absurd h hi⟩
    obtain ⟨R, hR⟩ := Classical.axiomOfChoice hR
    refine ⟨(List.range len').map R, ⟨⟨by rw [opsCells_len], some a, cap', by rw [hcs]; simp, by simpa using hl, hm, fun h0 => ?_⟩, fun z hz => ?_⟩, by simpa using hlen⟩
    · have hpos : 0 < len' := by simpa using h0
      obtain ⟨b, off, spot⟩ := a
      have hspot : spot = none := by simpa [Addr.add] using World.cell?_spot (hcell 0 (by omega)).1.1
      subst hspot
      have hc' : ∀ i, i < len' → ∀ j, j < 3 → w.cell? ⟨b, off + (i * 3 + j), none⟩ = (opCells (R i))[j]? := fun i hi j hj => by
        rw [← WideShapes.add_plain]
        obtain ⟨⟨e0, e1, e2⟩, -⟩ := hcell i (by omega)
        have hr := hR i hi
        match j, hj with
        | 0, _ => rw [show i * 3 + 0 = i * 3 from rfl, e0, hr.1]; rfl
        | 1, _ => rw [e1, hr.2.1]; rfl
        | 2, _ => rw [e2, hr.2.2.1]; rfl
      refine ⟨b, off, rfl, ?_, fun j hj => ?_⟩
      · have := hc' 0 (by omega) 0 (by omega)
        exact World.block_lt_of_cell? w _ (this.trans rfl)
      · have hjl : j < len' * 3 := by simpa [opsCells_len] using hj
        have hq : j / 3 < ((List.range len').map R).length := by simp; omega
        have hg := opsCells_at ((List.range len').map R) (j / 3) hq (j % 3) (Nat.mod_lt _ (by decide))
        simp only [List.getElem_map, List.getElem_range] at hg
        have ej : j / 3 * 3 + j % 3 = j := by omega
        have hcj := hc' (j / 3) (by omega) (j % 3) (Nat.mod_lt _ (by decide))
        rw [ej] at hg hcj
        rw [hcj, ← hg, List.getElem?_eq_getElem hj]
    · obtain ⟨i, hi, rfl⟩ := List.mem_map.1 hz
      have h := hR i (List.mem_range.1 hi)
      exact ⟨h.2.2.2.1, h.2.2.2.2.1, h.2.2.2.2.2⟩
end Go.Proofs.YtaimldndooijdaaGreatDoor
