/-
  record's reader: number, count.
-/
import Derived.Test.YtaimldndooijdaaGreatDoorRecAll
import Derived.Deep.QuietTactic
import Derived.BigQuiet
namespace Go.Proofs.YtaimldndooijdaaGreatDoor
open Go.RowKit
theorem grown_set (w : World) (b j : Nat) (v : Value) : w.grownBy (w.setCell ⟨b, j, none⟩ v) (some b) :=
  ⟨rfl, rfl, rfl, by simp, fun k hk h => Below.heap_setCell _ _ _ _ (fun e => h (by rw [e]))⟩
theorem grown_trans {w w1 w2 : World} {row : Option Nat} (h1 : w.grownBy w1 row) (h2 : w1.grownBy w2 row) : w.grownBy w2 row :=
  ⟨by rw [h2.os, h1.os], by rw [h2.tape, h1.tape], by rw [h2.output, h1.output], Nat.le_trans h1.size h2.size, fun k hk h => by rw [h2.block k (Nat.lt_of_lt_of_le hk h1.size) h, h1.block k hk h]⟩
end Go.Proofs.YtaimldndooijdaaGreatDoor
/-
  record's reader: text, count.
-/
namespace Go.Proofs.YtaimldndooijdaaGreatDoor
open Go.RowKit
end Go.Proofs.YtaimldndooijdaaGreatDoor
/-
  record's reader: text.
-/
namespace Go.Proofs.YtaimldndooijdaaGreatDoor
open Go.RowKit
end Go.Proofs.YtaimldndooijdaaGreatDoor
/-
  record's reader, whatever its state: number, text, count; what they come to, laid together.
-/
namespace Go.Proofs.YtaimldndooijdaaGreatDoor
open Go.RowKit
/-! ### A record, laid together -/
end Go.Proofs.YtaimldndooijdaaGreatDoor
/-
  record's reader: a record.
-/
namespace Go.Proofs.YtaimldndooijdaaGreatDoor
open Go.RowKit
theorem EL : ElemT Tryz.prog 45 62 (.agg #[.string ⟨#[]⟩, .string ⟨#[]⟩]) 2 32 := ⟨Tryz.underlying45, by kernel_rfl, rfl, by decide⟩
/-- What record has laid: its answer's cells, its record's cells with their labels. -/
structure Mk (B r0 bx : Nat) (t s lv : Value) (line : ByteArray) (P : List Lab) (W : World) : Prop where
  c0 : ∃ cs : Array Value, cs.size = 4 ∧ W.heap[r0]? = some (.cells cs 47 (0, 0))
  c1 : W.heap[bx]? = some (.cells #[t, s, lv, .string line] 47 (0, 0))
  own : W.ownsRow B 62 2 lv P.length (labCells P)
  l0 : r0 < bx
  l1 : bx < B
theorem Mk.kept {B r0 bx : Nat} {t s lv : Value} {line : ByteArray} {P : List Lab} {W W' : World} {row : Option Nat} (h : Mk B r0 bx t s lv line P W) (hg : W.grownBy W' row) (hr : ∀ k, row = some k → k < r0) : Mk B r0 bx t s lv line P W' := by
  obtain ⟨⟨cs, hcs, c0⟩, c1, own, l0, l1⟩ := h
  have lt := (Array.getElem?_eq_some_iff.1 c1).1
  refine ⟨⟨cs, hcs, ?_⟩, ?_, own.kept hg ?_, l0, l1⟩
  · rw [hg.block r0 (by omega) (fun e => by have := hr r0 e.symm; omega)]
    exact c0
  · rw [hg.block bx lt (fun e => by have := hr bx e.symm; omega)]
    exact c1
  · cases hv : lv.ownBlock with
    | none => exact .inl rfl
    | some j =>
      refine .inr fun e => ?_
      have := (own.lt j hv).1
      have := hr j e.symm
      omega
theorem Mk.keptB {B r0 bx : Nat} {t s lv : Value} {line : ByteArray} {P : List Lab} {W W' : World} (h : Mk B r0 bx t s lv line P W) (hb : Below W.heap.size W W') : Mk B r0 bx t s lv line P W' :=
  h.kept (grown_of_below hb none) (fun k hk => by cases hk)
theorem Mk.cells {B r0 bx : Nat} {t s lv : Value} {line : ByteArray} {P : List Lab} {W : World} (h : Mk B r0 bx t s lv line P W) :
    W.cell? ⟨bx, 0, none⟩ = some t ∧ W.cell? ⟨bx, 1, none⟩ = some s ∧ W.cell? ⟨bx, 2, none⟩ = some lv ∧ W.cell? ⟨bx, 3, none⟩ = some (.string line) ∧ W.frozen? ⟨bx, 2, none⟩ = false ∧ W.frozen? ⟨bx, 3, none⟩ = false :=
  ⟨by rw [Lib.cell_of_heap h.c1]; rfl, by rw [Lib.cell_of_heap h.c1]; rfl, by rw [Lib.cell_of_heap h.c1]; rfl, by rw [Lib.cell_of_heap h.c1]; rfl, Lib.frozen_of_heap h.c1 2, Lib.frozen_of_heap h.c1 3⟩
/-- The labels' row turned into a longer one, and laid in the record. -/
theorem Mk.more {r0 bx : Nat} {t s lv : Value} {line : ByteArray} {P : List Lab} {z : Lab} {W W' : World} {a : Option Addr} {c : Nat} (h : Mk (bx + 1) r0 bx t s lv line P W) (hg : W.grownBy W' lv.ownBlock)
    (ho : W'.ownsRow (bx + 1) 62 2 (.slice a (P.length + 1) c) (P.length + 1) (labCells P ++ encLab z)) :
    Mk (bx + 1) r0 bx t s (.slice a (P.length + 1) c) line (P ++ [z]) (W'.setCell ⟨bx, 2, none⟩ (.slice a (P.length + 1) c)) := by
  have hne : ∀ k, lv.ownBlock = some k → bx < k := fun k hk => by have := (h.own.lt k hk).1; omega
  obtain ⟨⟨cs, hcs, c0⟩, c1, own, l0, l1⟩ := h
  have lt := (Array.getElem?_eq_some_iff.1 c1).1
  have d0 : W'.heap[r0]? = some (.cells cs 47 (0, 0)) := by
    rw [hg.block r0 (by omega) (fun e => by have := hne r0 e.symm; omega)]; exact c0
  have d1 : W'.heap[bx]? = some (.cells #[t, s, lv, .string line] 47 (0, 0)) := by
    rw [hg.block bx lt (fun e => by have := hne bx e.symm; omega)]; exact c1
  refine ⟨⟨cs, hcs, ?_⟩, ?_, ?_, l0, l1⟩
  · rw [Below.heap_setCell _ _ _ _ (show r0 ≠ bx by omega)]; exact d0
  · rw [heap_setCell_same _ _ _ _ _ _ d1]; rfl
  · have e1 : (P ++ [z]).length = P.length + 1 := by simp
    have e2 : labCells (P ++ [z]) = labCells P ++ encLab z := by rw [labCells_append]; simp [labCells]
    rw [e1, e2]
    refine ho.kept (grown_set _ _ _ _) ?_
    cases hv : (Value.slice a (P.length + 1) c).ownBlock with
    | none => exact .inl rfl
    | some j => exact .inr fun e => by have := (ho.lt j hv).1; have := Option.some.inj e; omega
theorem Mk.beside {r0 bx : Nat} {t s lv : Value} {line : ByteArray} {P : List Lab} {W W' : World} (h : Mk (bx + 1) r0 bx t s lv line P W) (hg : W.grownBy W' lv.ownBlock) : W'.cell? ⟨bx, 2, none⟩ = some lv ∧ W'.frozen? ⟨bx, 2, none⟩ = false := by
  have hne : ∀ k, lv.ownBlock = some k → bx < k := fun k hk => by have := (h.own.lt k hk).1; omega
  have lt := (Array.getElem?_eq_some_iff.1 h.c1).1
  have d1 : W'.heap[bx]? = some (.cells #[t, s, lv, .string line] 47 (0, 0)) := by
    rw [hg.block bx lt (fun e => by have := hne bx e.symm; omega)]; exact h.c1
  exact ⟨by rw [Lib.cell_of_heap d1]; rfl, Lib.frozen_of_heap d1 2⟩
theorem Mk.line {B r0 bx : Nat} {t s lv : Value} {line : ByteArray} {P : List Lab} {W : World} (h : Mk B r0 bx t s lv line P W) (S : ByteArray) : Mk B r0 bx t s lv S P (W.setCell ⟨bx, 3, none⟩ (.string S)) := by
  obtain ⟨⟨cs, hcs, c0⟩, c1, own, l0, l1⟩ := h
  refine ⟨⟨cs, hcs, ?_⟩, ?_, own.kept (grown_set _ _ _ _) ?_, l0, l1⟩
  · rw [Below.heap_setCell _ _ _ _ (show r0 ≠ bx by omega)]; exact c0
  · rw [heap_setCell_same _ _ _ _ _ _ c1]; rfl
  · cases hv : lv.ownBlock with
    | none => exact .inl rfl
    | some j => exact .inr fun e => by have := (own.lt j hv).1; have := Option.some.inj e; omega
theorem size4 {cs : Array Value} (h : cs.size = 4) : ∃ a b c d, cs = #[a, b, c, d] := by
  obtain ⟨l⟩ := cs
  match l, h with
  | [a, b, c, d], _ => exact ⟨a, b, c, d, rfl⟩
theorem Mk.back {B r0 bx : Nat} {t s lv : Value} {line : ByteArray} {P : List Lab} {W : World} (h : Mk B r0 bx t s lv line P W) :
    ∃ a b c d, W.heap[r0]? = some (.cells #[a, b, c, d] 47 (0, 0)) := by
  obtain ⟨⟨cs, hcs, c0⟩, -, -, -, -⟩ := h
  obtain ⟨a, b, c, d, rfl⟩ := size4 hcs
  exact ⟨a, b, c, d, c0⟩
theorem set4 {W : World} {r : Nat} {a b c d : Value} {T : TypeId} (c0 : W.heap[r]? = some (.cells #[a, b, c, d] T (0, 0))) (x y z u : Value) :
    ((((W.setCell ⟨r, 0, none⟩ x).setCell ⟨r, 1, none⟩ y).setCell ⟨r, 2, none⟩ z).setCell ⟨r, 3, none⟩ u).heap[r]? = some (.cells #[x, y, z, u] T (0, 0)) ∧ W.grownBy ((((W.setCell ⟨r, 0, none⟩ x).setCell ⟨r, 1, none⟩ y).setCell ⟨r, 2, none⟩ z).setCell ⟨r, 3, none⟩ u) (some r) := by
  refine ⟨?_, grown_trans (grown_trans (grown_trans (grown_set _ _ _ _) (grown_set _ _ _ _)) (grown_set _ _ _ _)) (grown_set _ _ _ _)⟩
  have h1 := heap_setCell_same W r 0 _ _ x c0
  have h2 := heap_setCell_same _ r 1 _ _ y h1
  have h3 := heap_setCell_same _ r 2 _ _ z h2
  rw [heap_setCell_same _ r 3 _ _ u h3]
  rfl
/-- The answer's record, laid in its cells. -/
theorem Mk.out {r0 bx B : Nat} {t s : Value} {line : ByteArray} {P : List Lab} {W : World} {a b c d lv : Value} {z : Int} {n : Nat} (h : Mk B r0 bx t s lv line P W) (c0 : W.heap[r0]? = some (.cells #[a, b, c, d] 47 (0, 0)))
    (hrec : RecAt W lv ⟨z, n, P, line⟩) (x y u v : Value) :
    let W' := (((W.setCell ⟨r0, 0, none⟩ x).setCell ⟨r0, 1, none⟩ y).setCell ⟨r0, 2, none⟩ u).setCell ⟨r0, 3, none⟩ v
    W'.ownsRow r0 62 2 lv P.length (labCells P) ∧ RecAt W' lv ⟨z, n, P, line⟩ := by
  intro W'
  have hg := (set4 c0 x y u v).2
  have hown : W'.ownsRow B 62 2 lv P.length (labCells P) := h.own.kept hg (by
    cases hv : lv.ownBlock with
    | none => exact .inl rfl
    | some j => exact .inr fun e => by have := (h.own.lt j hv).1; have := h.l0; have := h.l1; have := Option.some.inj e; omega)
  exact ⟨owns_base hown (by have := h.l0; have := h.l1; omega), LRow_own hown, hrec.2⟩
end Go.Proofs.YtaimldndooijdaaGreatDoor
/-
  record.Get.
-/
namespace Go.Proofs.YtaimldndooijdaaGreatDoor
open Go.RowKit
end Go.Proofs.YtaimldndooijdaaGreatDoor
/-
  record.GetAll.
-/
namespace Go.Proofs.YtaimldndooijdaaGreatDoor
open Go.RowKit
theorem ER : ElemT Tryz.prog 28 47 (.agg #[.int .i64 0, .int .u64 0, .slice none 0 0, .string ⟨#[]⟩]) 4 56 := ⟨Tryz.underlying28, by kernel_rfl, rfl, by decide⟩
/-- Records of the call's own, their labels too. -/
structure ROwn (w : World) (B : Nat) (v : Value) (Z : List RecL) : Prop where
  own : w.ownsRow B 47 4 v Z.length (recsCells Z)
  labs : ∀ z ∈ Z, w.ownsRow B 62 2 z.2 z.1.labs.length (labCells z.1.labs) ∧ RecAt w z.2 z.1
theorem ROwn.nil (w : World) (B : Nat) : ROwn w B (.slice none 0 0) [] := ⟨World.ownsRow_nil _ _ _ _, fun z hz => by simp at hz⟩
theorem ROwn.row {w : World} {B : Nat} {v : Value} {Z : List RecL} (h : ROwn w B v Z) : RRow w v Z := ⟨argRow_owns h.own, fun z hz => (h.labs z hz).2⟩
theorem own_kept {w w' : World} {B size n : Nat} {e : TypeId} {v : Value} {xs : List Value} {row : Option Nat} (h : w.ownsRow B e size v n xs) (hg : w.grownBy w' row) (hr : ∀ k, row = some k → k < B) : w'.ownsRow B e size v n xs :=
  h.kept hg (by
    cases hv : v.ownBlock with
    | none => exact .inl rfl
    | some j => exact .inr fun e => by have := (h.lt j hv).1; have := hr j e.symm; omega)
theorem ROwn.kept {w w' : World} {B : Nat} {v : Value} {Z : List RecL} {row : Option Nat} (h : ROwn w B v Z) (hg : w.grownBy w' row) (hr : ∀ k, row = some k → k < B) : ROwn w' B v Z :=
  ⟨own_kept h.own hg hr, fun z hz => by
    have h1 := own_kept (h.labs z hz).1 hg hr
    exact ⟨h1, LRow_own h1, (h.labs z hz).2.2⟩⟩
theorem ROwn.keptB {w w' : World} {B : Nat} {v : Value} {Z : List RecL} (h : ROwn w B v Z) (hb : Below w.heap.size w w') : ROwn w' B v Z := h.kept (grown_of_below hb none) (fun k hk => by cases hk)
/-- Rows of different types lie in different blocks. -/
theorem own_apart {w : World} {B B' size size' n n' : Nat} {e e' : TypeId} {v v' : Value} {xs xs' : List Value} (h : w.ownsRow B e size v n xs) (h' : w.ownsRow B' e' size' v' n' xs') (he : e ≠ e') {k : Nat} (hk : v.ownBlock = some k) : v'.ownBlock ≠ some k := by
  intro hk'
  rcases h.2 with ⟨rfl, _⟩ | ⟨g, cap, cur, rfl, _, hg, _⟩
  · cases hk
  · rcases h'.2 with ⟨rfl, _⟩ | ⟨g', cap', cur', rfl, _, hg', _⟩
    · cases hk'
    · have e1 : g = k := Option.some.inj hk
      have e2 : g' = k := Option.some.inj hk'
      subst e1
      subst e2
      rw [hg] at hg'
      have := Obj.cells.inj (Option.some.inj hg')
      exact he this.2.1
/-- A record more. -/
theorem ROwn.more {w w' : World} {B : Nat} {v v' : Value} {Z : List RecL} {z : RecL} (h : ROwn w B v Z) (hz : w.ownsRow B 62 2 z.2 z.1.labs.length (labCells z.1.labs) ∧ RecAt w z.2 z.1) (hg : w.grownBy w' v.ownBlock)
    (ho : w'.ownsRow B 47 4 v' (Z.length + 1) (recsCells Z ++ recCells z)) : ROwn w' B v' (Z ++ [z]) := by
  have e1 : (Z ++ [z]).length = Z.length + 1 := by simp
  have e2 : recsCells (Z ++ [z]) = recsCells Z ++ recCells z := by rw [recsCells_append]; simp [recsCells]
  refine ⟨by rw [e1, e2]; exact ho, fun y hy => ?_⟩
  have hy' : w.ownsRow B 62 2 y.2 y.1.labs.length (labCells y.1.labs) ∧ RecAt w y.2 y.1 := by
    rcases List.mem_append.1 hy with hy | hy
    · exact h.labs y hy
    · have e : y = z := by simpa using hy
      subst e
      exact hz
  have h1 : w'.ownsRow B 62 2 y.2 y.1.labs.length (labCells y.1.labs) := hy'.1.kept hg (by
    cases hv : y.2.ownBlock with
    | none => exact .inl rfl
    | some j => exact .inr fun e => own_apart hy'.1 h.own (by decide) hv e.symm)
  exact ⟨h1, LRow_own h1, hy'.2.2⟩
end Go.Proofs.YtaimldndooijdaaGreatDoor
/-
  record.GetAll: the walk.
-/
namespace Go.Proofs.YtaimldndooijdaaGreatDoor
open Go.RowKit
end Go.Proofs.YtaimldndooijdaaGreatDoor
