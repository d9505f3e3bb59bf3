/-
  Openings of arguments: a record; a list of records.
-/
import Derived.Test.YtaimldndooijdaaGreatDoorFrameL
import Derived.Test.YtaimldndooijdaaGreatDoorRecAll
namespace Go.Proofs.YtaimldndooijdaaGreatDoor
open Go.ChangeShapes Go.WideShapes Go.ChangeAt Go.RowKit Go.Lib Go.Deep Go.Joins

section
variable {H : Type} {enc : TypeId × Value → H} {P : Program} {w : World} {base : Nat} {spare : Nat → Bool} {held : Bool}
/-- A slice of structs of four one-cell fields, opened at every index. -/
theorem open_slice_quads {t e : TypeId} {f0 f1 f2 f3 : Field} {fuel : Nat} {cs : List Value} {x : DataW H × List MemPlace} (ht : P.underlying t = some (.slice e)) (he : P.underlying e = some (.struct #[f0, f1, f2, f3]))
    (ce : P.cellsOf e = 4) (o0 : f0.offset = 0) (o1 : f1.offset = 1) (o2 : f2.offset = 2) (o3 : f3.offset = 3) (c0 : P.cellsOf f0.type = 1) (c1 : P.cellsOf f1.type = 1) (c2 : P.cellsOf f2.type = 1) (c3 : P.cellsOf f3.type = 1)
    (h : DataW.trod enc P w base spare held fuel t cs = some x) :
    (cs = [.slice none 0 0] ∧ x = (.nil, [])) ∨
    ∃ (a : Addr) (len cap m n : Nat) (V : Nat → Value × Value × Value × Value) (D : Nat → DataW H × DataW H × DataW H × DataW H), cs = [.slice (some a) len cap] ∧ len ≤ cap ∧ cap ≤ maxLen ∧ m = (if spare a.block then cap else len) ∧
      (∃ sp, x.1 = .slice ((List.range len).map fun i => .agg [(D i).1, (D i).2.1, (D i).2.2.1, (D i).2.2.2]) sp) ∧
      ∀ i, i < m → (w.cell? (a.add (i * 4)) = some (V i).1 ∧ w.cell? (a.add (i * 4 + 1)) = some (V i).2.1 ∧ w.cell? (a.add (i * 4 + 2)) = some (V i).2.2.1 ∧ w.cell? (a.add (i * 4 + 3)) = some (V i).2.2.2) ∧
        (∃ p0, DataW.trod enc P w base spare held n f0.type [(V i).1] = some ((D i).1, p0)) ∧ (∃ p1, DataW.trod enc P w base spare held n f1.type [(V i).2.1] = some ((D i).2.1, p1)) ∧
        (∃ p2, DataW.trod enc P w base spare held n f2.type [(V i).2.2.1] = some ((D i).2.2.1, p2)) ∧ (∃ p3, DataW.trod enc P w base spare held n f3.type [(V i).2.2.2] = some ((D i).2.2.2, p3)) := by
  rcases open_slice ht h with h0 | ⟨a, len, cap, m, n, D, Pl, rfl, hb, hl, hm, hmm, rfl, hx⟩
  · exact Or.inl h0
  right
  have hlm : len ≤ m := by rw [hmm]; split <;> omega
  have each : ∀ i, i < m → ∃ q : (Value × Value × Value × Value) × (DataW H × DataW H × DataW H × DataW H),
      (w.cell? (a.add (i * 4)) = some q.1.1 ∧ w.cell? (a.add (i * 4 + 1)) = some q.1.2.1 ∧ w.cell? (a.add (i * 4 + 2)) = some q.1.2.2.1 ∧ w.cell? (a.add (i * 4 + 3)) = some q.1.2.2.2) ∧
      (∃ p0, DataW.trod enc P w base spare held (n - 1) f0.type [q.1.1] = some (q.2.1, p0)) ∧ (∃ p1, DataW.trod enc P w base spare held (n - 1) f1.type [q.1.2.1] = some (q.2.2.1, p1)) ∧
      (∃ p2, DataW.trod enc P w base spare held (n - 1) f2.type [q.1.2.2.1] = some (q.2.2.2.1, p2)) ∧ (∃ p3, DataW.trod enc P w base spare held (n - 1) f3.type [q.1.2.2.2] = some (q.2.2.2.2, p3)) ∧
      D i = .agg [q.2.1, q.2.2.1, q.2.2.2.1, q.2.2.2.2] := by
    intro i hi
    obtain ⟨cs', h1, h2⟩ := hx i hi
    rw [ce] at h1
    obtain ⟨_, hlen, hcell⟩ := World.cells?_some h1
    obtain ⟨xs, k, hk, hxy, _, hxl, hf⟩ := DataW.trod_struct he h2
    have hk' : k = n - 1 := by omega
    subst hk'
    match xs, hxl, cs', hlen with
    | [y0, y1, y2, y3], _, [v0, v1, v2, v3], _ =>
      have g0 := hf 0 f0 rfl
      have g1 := hf 1 f1 rfl
      have g2 := hf 2 f2 rfl
      have g3 := hf 3 f3 rfl
      simp [o0, o1, o2, o3, c0, c1, c2, c3] at g0 g1 g2 g3
      have e0 := hcell 0 (by omega)
      have e1 := hcell 1 (by omega)
      have e2 := hcell 2 (by omega)
      have e3 := hcell 3 (by omega)
      rw [add_add] at e0 e1 e2 e3
      simp only [Prod.mk.injEq] at hxy
      exact ⟨((v0, v1, v2, v3), (y0.1, y1.1, y2.1, y3.1)), ⟨by simpa using e0, by simpa using e1, by simpa using e2, by simpa using e3⟩, ⟨y0.2, g0⟩, ⟨y1.2, g1⟩, ⟨y2.2, g2⟩, ⟨y3.2, g3⟩, by simpa using hxy.1⟩
  obtain ⟨q, hq⟩ := choose_lt each
  refine ⟨a, len, cap, m, n - 1, fun i => (q i).1, fun i => (q i).2, rfl, hl, hm, hmm, ⟨(List.range (m - len)).map fun j => D (len + j), ?_⟩, fun i hi => ⟨(hq i hi).1, (hq i hi).2.1, (hq i hi).2.2.1, (hq i hi).2.2.2.1, (hq i hi).2.2.2.2.1⟩⟩
  rw [List.map_congr_left (fun i hi => (hq i (by have := List.mem_range.1 hi; omega)).2.2.2.2.2)]
end
theorem bulkAll_mem {H : Type} {l : List (DataW H)} {x : DataW H} (h : x ∈ l) : Rows.uptoBulk x ≤ Rows.uptoBulkAll l := by
  induction l with
  | nil => simp at h
  | cons y l ih =>
    rcases List.mem_cons.1 h with rfl | h
    · simp only [Rows.uptoBulkAll]; omega
    · have := ih h
      simp only [Rows.uptoBulkAll]
      omega
set_option maxRecDepth 100000 in
/-- Labels, by their cells. -/
theorem open_labs_trod {H : Type} {enc : TypeId × Value → H} {w : World} {v : Value} {n0 : Nat} {y : DataW H × List MemPlace} (hf : DataW.trod enc Tryz.prog w 0 (fun _ => true) true n0 45 [v] = some y) :
    ∃ L : List Lab, LRow w v L ∧ sumL L ≤ Rows.uptoBulk y.1 := by
  rcases open_slice_pairs Tryz.underlying45 Tryz.underlying62 (by kernel_rfl) rfl rfl (by kernel_rfl) (by kernel_rfl) hf with ⟨hcs, hx⟩ | ⟨a, len', cap', m, n, V0, V1, D0, D1, P0, P1, hcs, _, hl, hm, hmm, hx, hcell⟩
  · simp only [List.cons.injEq, and_true] at hcs
    exact ⟨[], ⟨rfl, _, _, hcs, Nat.le_refl _, Nat.zero_le _, fun h => by simp at h⟩, by simp [sumL]⟩
  · simp only [List.cons.injEq, and_true] at hcs
    have hm' : m = cap' := by rw [hmm]; simp
    have hL : ∀ i, ∃ x : Lab, i < m → V0 i = .string x.1 ∧ V1 i = .string x.2 ∧ x.1.size + 1 = Rows.uptoBulk (D0 i) ∧ x.2.size + 1 = Rows.uptoBulk (D1 i) := fun i => by
      by_cases hi : i < m
      · obtain ⟨_, _, h0, h1⟩ := hcell i hi
        obtain ⟨s0, e0, x0, _⟩ := DataW.trod_string Tryz.underlying9 h0
        obtain ⟨s1, e1, x1, _⟩ := DataW.trod_string Tryz.underlying9 h1
        simp only [List.cons.injEq, and_true] at e0 e1
        simp only [Prod.mk.injEq] at x0 x1
        refine ⟨(s0, s1), fun _ => ⟨e0, e1, ?_, ?_⟩⟩
        · rw [x0.1]; simp [Rows.uptoBulk, ByteArray.size_data]
        · rw [x1.1]; simp [Rows.uptoBulk, ByteArray.size_data]
      · exact ⟨(⟨#[]⟩, ⟨#[]⟩), fun h => absurd h hi⟩
    obtain ⟨L, hL⟩ := Classical.axiomOfChoice hL
    refine ⟨(List.range len').map L, ⟨by rw [labCells_len], some a, cap', by rw [hcs]; simp, by simpa using hl, hm, fun h0 => ?_⟩, ?_⟩
    · have hpos : 0 < len' := by simpa using h0
      obtain ⟨b, off, spot⟩ := a
      have hspot : spot = none := by simpa [Addr.add] using World.cell?_spot (hcell 0 (by omega)).1
      subst hspot
      have hc' : ∀ j, j < m → w.cell? ⟨b, off + j * 2, none⟩ = some (V0 j) ∧ w.cell? ⟨b, off + (j * 2 + 1), none⟩ = some (V1 j) := fun j hj => by
        rw [← WideShapes.add_plain, ← WideShapes.add_plain]
        exact ⟨(hcell j hj).1, (hcell j hj).2.1⟩
      refine ⟨b, off, rfl, World.block_lt_of_cell? w _ (hc' 0 (by omega)).1, fun j hj => ?_⟩
      have hjl : j < len' * 2 := by simpa [labCells_len] using hj
      have hq : j / 2 < ((List.range len').map L).length := by simp; omega
      have hg := labCells_get ((List.range len').map L) (j / 2) hq
      have hv := hL (j / 2) (by omega)
      have hcj := hc' (j / 2) (by omega)
      simp only [List.getElem_map, List.getElem_range] at hg
      rcases Nat.mod_two_eq_zero_or_one j with hm2 | hm2
      · have ej : j / 2 * 2 = j := by omega
        rw [ej, List.getElem?_eq_getElem hj] at hg
        rw [ej] at hcj
        rw [hcj.1, hv.1, Option.some.inj hg.1]
      · have ej : j / 2 * 2 + 1 = j := by omega
        rw [ej, List.getElem?_eq_getElem hj] at hg
        rw [ej] at hcj
        rw [hcj.2, hv.2.1, Option.some.inj hg.2]
    · rw [hx]
      simp only [Rows.uptoBulk]
      have := labs_bulk D0 D1 L len' fun i hi => (hL i (by omega)).2.2
      omega
theorem recAt_of {w : World} {lv : Value} {r : Rec} (h : LRow w lv r.labs) {n : Nat} (h1 : sumL r.labs ≤ n) (h2 : r.line.size ≤ n) (hn : n ≤ 1048576) : RecAt w lv r := by
  refine ⟨h, fun x hx => ?_, ?_, by omega⟩
  · have := sumL_mem hx
    omega
  · have := sumL_len r.labs
    omega
theorem inRec_of {r : Rec} (h1 : -9223372036854775808 ≤ r.time ∧ r.time ≤ 9223372036854775807) (h2 : r.seq < 18446744073709551616) {n : Nat} (h3 : sumL r.labs ≤ n) (h4 : r.line.size ≤ n) (hn : n ≤ 1048576) : inRec r := by
  refine ⟨h1.1, h1.2, h2, fun x hx => ?_, by unfold okStr; omega⟩
  have := sumL_mem hx
  unfold okStr
  omega
/-- Four fields that read as a record's. -/
theorem rec_fields {H : Type} {enc : TypeId × Value → H} {w : World} {n : Nat} {v0 v1 v2 v3 : Value} {y0 y1 y2 y3 : DataW H × List MemPlace}
    (h0 : DataW.trod enc Tryz.prog w 0 (fun _ => true) true n 2 [v0] = some y0) (h1 : DataW.trod enc Tryz.prog w 0 (fun _ => true) true n 44 [v1] = some y1) (h2 : DataW.trod enc Tryz.prog w 0 (fun _ => true) true n 45 [v2] = some y2) (h3 : DataW.trod enc Tryz.prog w 0 (fun _ => true) true n 9 [v3] = some y3) :
    ∃ r : Rec, v0 = .int .i64 r.time ∧ v1 = .int .u64 (r.seq : Int) ∧ v3 = .string r.line ∧ LRow w v2 r.labs ∧ (-9223372036854775808 ≤ r.time ∧ r.time ≤ 9223372036854775807) ∧ r.seq < 18446744073709551616 ∧ sumL r.labs ≤ Rows.uptoBulk y2.1 ∧ r.line.size + 1 ≤ Rows.uptoBulk y3.1 := by
  obtain ⟨t, e0, -, wt⟩ := DataW.trod_int Tryz.underlying2 h0
  obtain ⟨s, e1, -, ws⟩ := DataW.trod_int Tryz.underlying44 h1
  obtain ⟨L, hL, hb⟩ := open_labs_trod h2
  obtain ⟨l, e3, x3, -⟩ := DataW.trod_string Tryz.underlying9 h3
  have bt := bounds_i64 wt
  have bs := bounds_u64 ws
  simp only [List.cons.injEq, and_true] at e0 e1 e3
  refine ⟨⟨t, s.toNat, L, l⟩, e0, by rw [e1]; congr 1; show s = ((s.toNat : Nat) : Int); omega, e3, hL, bt, by show s.toNat < _; omega, hb, ?_⟩
  rw [x3]
  simp [Rows.uptoBulk, ByteArray.size_data]
theorem bulkAll_sum {H : Type} : ∀ (l : List Nat) (h : Nat → Nat) (g : Nat → DataW H), (∀ i ∈ l, h i ≤ Rows.uptoBulk (g i)) → (l.map h).sum ≤ Rows.uptoBulkAll (l.map g)
  | [], _, _, _ => by simp
  | x :: l, h, g, hl => by
    have h1 := bulkAll_sum l h g fun i hi => hl i (by simp [hi])
    have h2 := hl x (by simp)
    simp only [List.map_cons, List.sum_cons, Rows.uptoBulkAll]
    omega
end Go.Proofs.YtaimldndooijdaaGreatDoor
