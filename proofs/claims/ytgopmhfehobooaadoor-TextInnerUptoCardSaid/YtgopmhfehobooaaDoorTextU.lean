/-
  What the list of runs that text.runs builds looks like in memory, step by step.
-/
import Derived.Test.YtgopmhfehobooaaDoorUtfE
import Derived.Test.YtgopmhfehobooaaDoorTextP
import Derived.Laws.OwnMore
import Derived.OneCell
namespace Go.Proofs.YtgopmhfehobooaaDoor
open Go.RowKit

/-- A run as it is kept: its word's runes, and where it begins and ends. -/
def wr32 (run : List Nat) : List Nat := (run.take 32).map smallN
theorem wr32_len (run : List Nat) : (wr32 run).length ≤ 32 := by
  unfold wr32
  rw [List.length_map, List.length_take]
  omega
theorem wr32_snoc (run : List Nat) (r : Nat) : wr32 (run ++ [r]) = if (wr32 run).length < 32 then wr32 run ++ [smallN r] else wr32 run := by
  unfold wr32
  rw [List.length_map, List.length_take]
  by_cases h : run.length < 32
  · rw [if_pos (by omega), List.take_of_length_le (by simp; omega), List.take_of_length_le (by omega), List.map_append]
    rfl
  · rw [if_neg (by omega), List.take_append_of_le_length (by omega)]
/-- The cells of a list of runs. -/
def flat3 (E : List (Value × Nat × Nat)) : List Value := E.flatMap fun x => [x.1, .int .i64 (x.2.1 : Int), .int .i64 (x.2.2 : Int)]
theorem flat3_len (E : List (Value × Nat × Nat)) : (flat3 E).length = E.length * 3 := by
  induction E with
  | nil => rfl
  | cons x E ih => simp only [flat3, List.flatMap_cons, List.length_append] at ih ⊢; rw [ih]; simp; omega
theorem flat3_app (E F : List (Value × Nat × Nat)) : flat3 (E ++ F) = flat3 E ++ flat3 F := by simp [flat3]
theorem flat3_one (x : Value × Nat × Nat) : flat3 [x] = [x.1, .int .i64 (x.2.1 : Int), .int .i64 (x.2.2 : Int)] := by simp [flat3]
theorem flat3_get (E : List (Value × Nat × Nat)) (j : Nat) (h : j < E.length) :
    (flat3 E)[j * 3]? = some E[j].1 ∧ (flat3 E)[j * 3 + 1]? = some (.int .i64 (E[j].2.1 : Int)) ∧ (flat3 E)[j * 3 + 2]? = some (.int .i64 (E[j].2.2 : Int)) := by
  have e : E = E.take j ++ (E[j] :: E.drop (j + 1)) := by simp
  have hl : (flat3 (E.take j)).length = j * 3 := by rw [flat3_len, List.length_take]; congr 1; omega
  have : flat3 E = flat3 (E.take j) ++ ([E[j].1, .int .i64 (E[j].2.1 : Int), .int .i64 (E[j].2.2 : Int)] ++ flat3 (E.drop (j + 1))) := by
    conv => lhs; rw [e]
    rw [flat3_app]
    rfl
  rw [this]
  refine ⟨?_, ?_, ?_⟩
  · rw [List.getElem?_append_right (by omega), hl]; simp
  · rw [List.getElem?_append_right (by omega), hl]; simp
  · rw [List.getElem?_append_right (by omega), hl]; simp

/-- A word that is done: its runes lie in a block of their own, from B on and below K. -/
def Done (w : World) (B K : Nat) (v : Value) (run : List Nat) : Prop := w.ownsRow B 21 1 v (wr32 run).length ((wr32 run).map runeCell) ∧ ∀ k, v.ownBlock = some k → k < K
/-- All runs but the last are done; the last one's word lies behind them. -/
def RunsMem (w : World) (B : Nat) (l : Value) (L : List (List Nat × Nat × Nat)) : Prop :=
  (L = [] ∧ l = .slice none 0 0) ∨
  ∃ (L0 : List (List Nat × Nat × Nat)) (run : List Nat) (f t : Nat) (E : List Value) (wv : Value) (K g cap : Nat), L = L0 ++ [(run, f, t)] ∧ E.length = L0.length ∧ l = .slice (some ⟨g, 0, none⟩) (L0.length + 1) cap ∧ g < K ∧
    w.ownsRow B 35 3 l (L0.length + 1) (flat3 (E.zip (L0.map (·.2))) ++ [wv, .int .i64 (f : Int), .int .i64 (t : Int)]) ∧
    (∀ j (h : j < L0.length) (h' : j < E.length), Done w B K E[j] L0[j].1) ∧ w.ownsRow K 21 1 wv (wr32 run).length ((wr32 run).map runeCell) ∧ B ≤ K ∧ K ≤ w.heap.size

theorem block_ne {w : World} {A B : Nat} {v u : Value} {n m sz : Nat} {xs ys : List Value} {e e' : TypeId} (h : w.ownsRow A e sz v n xs) (k : w.ownsRow B e' 1 u m ys) (hne : e ≠ e') {g : Nat} (hg : v.ownBlock = some g) : u.ownBlock ≠ some g := by
  intro hu
  rcases h.2 with ⟨rfl, _⟩ | ⟨g1, c1, cur1, rfl, _, h1, _⟩
  · cases hg
  · rcases k.2 with ⟨rfl, _⟩ | ⟨g2, c2, cur2, rfl, _, h2, _⟩
    · cases hu
    · simp only [Value.ownBlock, Option.some.injEq] at hg hu
      rw [hg] at h1
      rw [hu] at h2
      rw [h1] at h2
      simp only [Option.some.injEq, Obj.cells.injEq] at h2
      exact hne h2.2.1
theorem Done.kept {w w' : World} {B K : Nat} {v : Value} {run : List Nat} (h : Done w B K v run) {row : Option Nat} (hg : w.grownBy w' row) (hne : v.ownBlock = none ∨ v.ownBlock ≠ row) : Done w' B K v run := ⟨h.1.kept hg hne, h.2⟩
theorem Done.mono {w : World} {B K K' : Nat} {v : Value} {run : List Nat} (h : Done w B K v run) (hK : K ≤ K') : Done w B K' v run := ⟨h.1, fun k hk => Nat.lt_of_lt_of_le (h.2 k hk) hK⟩

/-- A world in which blocks below B alone may have turned, and new ones came. -/
theorem runsMem_above {w w' : World} {B : Nat} {l : Value} {L : List (List Nat × Nat × Nat)} (h : RunsMem w B l L) (hs : w.heap.size ≤ w'.heap.size) (hb : ∀ k, B ≤ k → k < w.heap.size → w'.heap[k]? = w.heap[k]?) : RunsMem w' B l L := by
  have hk : ∀ {A : Nat} {e : TypeId} {sz n : Nat} {v : Value} {xs : List Value}, B ≤ A → w.ownsRow A e sz v n xs → w'.ownsRow A e sz v n xs := by
    intro A e sz n v xs hA h
    refine ⟨h.1, ?_⟩
    rcases h.2 with h2 | ⟨g, cap, cur, rfl, hg, hh, r⟩
    · exact .inl h2
    · exact .inr ⟨g, cap, cur, rfl, hg, by rw [hb g (by omega) (Array.getElem?_eq_some_iff.1 hh).1]; exact hh, r⟩
  rcases h with h | ⟨L0, run, f, t, E, wv, K, g, cap, e1, e2, e3, hg, hown, hd, hw, hB, hK⟩
  · exact .inl h
  · exact .inr ⟨L0, run, f, t, E, wv, K, g, cap, e1, e2, e3, hg, hk (Nat.le_refl _) hown, fun j h h' => ⟨hk (Nat.le_refl _) (hd j h h').1, (hd j h h').2⟩, hk hB hw, hB, by omega⟩

/-- All of the list's cells, whatever it holds. -/
theorem runsMem_owns {w : World} {B : Nat} {l : Value} {L : List (List Nat × Nat × Nat)} (h : RunsMem w B l L) :
    ∃ E : List Value, E.length = L.length ∧ w.ownsRow B 35 3 l L.length (flat3 (E.zip (L.map (·.2)))) ∧ ∀ j (hj : j < L.length) (h' : j < E.length), Done w B w.heap.size E[j] L[j].1 := by
  rcases h with ⟨rfl, rfl⟩ | ⟨L0, run, f, t, E, wv, K, g, cap, rfl, e2, e3, hg, hown, hd, hw, hB, hK⟩
  · exact ⟨[], rfl, World.ownsRow_nil _ _ _ _, fun j hj => by cases hj⟩
  · refine ⟨E ++ [wv], by simp [e2], ?_, fun j hj h' => ?_⟩
    · rw [List.length_append, List.map_append, List.zip_append (by simp [e2]), flat3_app]
      exact hown
    · by_cases c : j < L0.length
      · rw [List.getElem_append_left (by omega)]
        have := hd j c (by omega)
        rw [show (L0 ++ [(run, f, t)])[j] = L0[j] from List.getElem_append_left c]
        exact this.mono hK
      · simp only [List.length_append, List.length_singleton] at hj
        obtain rfl : j = L0.length := by omega
        have e4 : (E ++ [wv])[L0.length]'h' = wv := by simp [← e2]
        have e5 : (L0 ++ [(run, f, t)])[L0.length]'(by simp) = (run, f, t) := by simp
        rw [e4, e5]
        exact ⟨owns_base hw hB, fun k hk => (hw.lt k hk).2⟩

/-- A new run. -/
theorem runsMem_new {w w1 : World} {B g cap : Nat} {l : Value} {L : List (List Nat × Nat × Nat)} (h : RunsMem w B l L) (o : Obj) (f t : Nat) (hB : B ≤ w.heap.size)
    (hown : ∀ E : List Value, E.length = L.length → w.ownsRow B 35 3 l L.length (flat3 (E.zip (L.map (·.2)))) →
      w1.ownsRow B 35 3 (.slice (some ⟨g, 0, none⟩) (L.length + 1) cap) (L.length + 1) (flat3 (E.zip (L.map (·.2))) ++ [.slice none 0 0, .int .i64 (f : Int), .int .i64 (t : Int)]))
    (hgr : (w.alloc o).grownBy w1 l.ownBlock) : RunsMem w1 B (.slice (some ⟨g, 0, none⟩) (L.length + 1) cap) (L ++ [([], f, t)]) := by
  obtain ⟨E, hE, ho, hd⟩ := runsMem_owns h
  have hown1 := hown E hE ho
  have hlt := (hown1.lt g rfl).2
  have hsz := hgr.size
  simp at hsz
  refine .inr ⟨L, [], f, t, E, .slice none 0 0, w1.heap.size, g, cap, rfl, hE, rfl, hlt, hown1, fun j hj h' => ?_, World.ownsRow_nil _ _ _ _, by omega, Nat.le_refl _⟩
  have hdj := hd j hj h'
  have hda : Done (w.alloc o) B w.heap.size E[j] L[j].1 := ⟨hdj.1.alloc o, hdj.2⟩
  refine (hda.kept hgr ?_).mono (by omega)
  cases hv : l.ownBlock with
  | none => cases hu : E[j].ownBlock <;> simp
  | some g' => exact .inr (block_ne ho hdj.1 (by decide) hv)

/-- The last run's word, and what becomes of the list where it is turned; where its end is. -/
theorem runsMem_last {w : World} {B : Nat} {l : Value} {L0 : List (List Nat × Nat × Nat)} {run : List Nat} {f t : Nat} (h : RunsMem w B l (L0 ++ [(run, f, t)])) :
    ∃ wv K g cap, l = .slice (some ⟨g, 0, none⟩) (L0.length + 1) cap ∧ B ≤ g ∧ g < w.heap.size ∧ K ≤ w.heap.size ∧ w.ownsRow K 21 1 wv (wr32 run).length ((wr32 run).map runeCell) ∧
      w.cell? ⟨g, L0.length * 3, none⟩ = some wv ∧ w.cell? ⟨g, L0.length * 3 + 2, none⟩ = some (.int .i64 (t : Int)) ∧ (∀ j, w.frozen? ⟨g, j, none⟩ = false) ∧ (∀ k, wv.ownBlock = some k → k ≠ g ∧ B ≤ k) ∧ B ≤ K ∧
      (∀ t' : Nat, RunsMem (w.setCell ⟨g, L0.length * 3 + 2, none⟩ (.int .i64 (t' : Int))) B l (L0 ++ [(run, f, t')])) ∧
      ∀ (o : Obj) (w1 : World) (run' : List Nat) (wv1 : Value), (w.alloc o).grownBy w1 wv.ownBlock → w1.ownsRow K 21 1 wv1 (wr32 run').length ((wr32 run').map runeCell) →
        RunsMem (w1.setCell ⟨g, L0.length * 3, none⟩ wv1) B l (L0 ++ [(run', f, t)]) := by
  rcases h with ⟨e, _⟩ | ⟨L0', run0, f0, t0, E, wv, K, g, cap, e1, e2, e3, hg, hown, hd, hw, hB, hK⟩
  · simp at e
  · obtain ⟨rfl, e4⟩ := List.append_inj' e1 rfl
    simp only [List.cons.injEq, Prod.mk.injEq, and_true] at e4
    obtain ⟨rfl, rfl, rfl⟩ := e4
    have hfl : (flat3 (E.zip (L0.map (·.2)))).length = L0.length * 3 := by rw [flat3_len, List.length_zip, List.length_map]; congr 1; omega
    subst e3
    have hc0 := hown.cellAt (L0.length * 3) (by omega)
    have hc2 := hown.cellAt (L0.length * 3 + 2) (by omega)
    rw [List.getElem?_append_right (by omega), hfl] at hc0 hc2
    have hset : ∀ {W : World} {A j n : Nat} {u v : Value} {xs : List Value}, W.ownsRow A 21 1 v n xs → v.ownBlock ≠ some g → (W.setCell ⟨g, j, none⟩ u).ownsRow A 21 1 v n xs := by
      intro W A j n u v xs h hv
      exact ownsRow_setCell_other h (a := ⟨g, _, none⟩) hv _
    refine ⟨wv, K, g, cap, rfl, (hown.lt g rfl).1, (hown.lt g rfl).2, hK, hw, by rw [hc0]; simp, by rw [hc2]; simp, fun j => hown.frozenAt j, fun k hk => by have := (hw.lt k hk).1; omega, hB, ?_, ?_⟩
    · intro t'
      have h3 := (hown.stored (L0.length * 3 + 2) (.int .i64 (t' : Int))).1
      rw [List.set_append_right _ _ (by omega), hfl, show L0.length * 3 + 2 - L0.length * 3 = 2 from by omega] at h3
      refine .inr ⟨L0, run, f, t', E, wv, K, g, cap, rfl, e2, rfl, hg, h3, fun j hj h' => ?_, hset hw ?_, hB, by simp; omega⟩
      · have hdj := hd j hj h'
        exact ⟨hset hdj.1 (block_ne hown hdj.1 (by decide) rfl), hdj.2⟩
      · intro e
        have := (hw.lt g e).1
        omega
    · intro o w1 run' wv1 hgr hw1
      have hgn : ∀ k, wv.ownBlock = some k → k ≠ g := fun k hk => by have := (hw.lt k hk).1; omega
      have h1 : w1.ownsRow B 35 3 (.slice (some ⟨g, 0, none⟩) (L0.length + 1) cap) (L0.length + 1) (flat3 (E.zip (L0.map (·.2))) ++ [wv, .int .i64 (f : Int), .int .i64 (t : Int)]) :=
        (hown.alloc o).kept hgr (by
          cases hv : wv.ownBlock with
          | none => exact .inr (by simp [Value.ownBlock])
          | some k => exact .inr (by simp only [Value.ownBlock, ne_eq, Option.some.injEq]; exact fun e => hgn k hv e.symm))
      have h2 := (h1.stored (L0.length * 3) wv1).1
      rw [List.set_append_right _ _ (by omega), hfl, Nat.sub_self] at h2
      have hsz := hgr.size
      simp at hsz
      refine .inr ⟨L0, run', f, t, E, wv1, K, g, cap, rfl, e2, rfl, hg, h2, fun j hj h' => ?_, hset hw1 ?_, hB, by simp; omega⟩
      · have hdj := hd j hj h'
        have hda : Done (w.alloc o) B K E[j] L0[j].1 := ⟨hdj.1.alloc o, hdj.2⟩
        have hdk := hda.kept hgr (by
          cases hv : wv.ownBlock with
          | none => cases hu : E[j].ownBlock <;> simp
          | some k => exact .inr (fun e => by have := hdj.2 k e; have := (hw.lt k hv).1; omega))
        exact ⟨hset hdk.1 (block_ne h1 hdk.1 (by decide) rfl), hdk.2⟩
      · intro e
        have := (hw1.lt g e).1
        omega
theorem runsMem_full {w : World} {B : Nat} {l : Value} {L0 : List (List Nat × Nat × Nat)} {run run' : List Nat} {f t : Nat} (h : RunsMem w B l (L0 ++ [(run, f, t)])) (e : wr32 run' = wr32 run) : RunsMem w B l (L0 ++ [(run', f, t)]) := by
  rcases h with ⟨e, _⟩ | ⟨L0', run0, f0, t0, E, wv, K, g, cap, e1, e2, e3, hg, hown, hd, hw, hB, hK⟩
  · simp at e
  · obtain ⟨rfl, e4⟩ := List.append_inj' e1 rfl
    simp only [List.cons.injEq, Prod.mk.injEq, and_true] at e4
    obtain ⟨rfl, rfl, rfl⟩ := e4
    exact .inr ⟨L0, run', f, t, E, wv, K, g, cap, rfl, e2, e3, hg, hown, hd, by rw [e]; exact hw, hB, hK⟩
end Go.Proofs.YtgopmhfehobooaaDoor
