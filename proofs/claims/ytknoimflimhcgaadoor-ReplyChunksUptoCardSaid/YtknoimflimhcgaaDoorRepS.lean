/-
  ReplyChunks: the lists of the law, and what is kept of them.
-/
import Derived.Test.YtknoimflimhcgaaDoorRepN
import Derived.Test.YtknoimflimhcgaaDoorRepM
namespace Go.Proofs.YtknoimflimhcgaaDoor
open Go.RowKit

theorem owns_same {w w' : World} {B size n : Nat} {e : TypeId} {v : Value} {xs : List Value} (h : w.ownsRow B e size v n xs) (hs : ∀ i, B ≤ i → i < w.heap.size → w'.heap[i]? = w.heap[i]?) : w'.ownsRow B e size v n xs := by
  refine ⟨h.1, ?_⟩
  rcases h.2 with h2 | ⟨g, cap, cur, rfl, hg, hh, r⟩
  · exact .inl h2
  · exact .inr ⟨g, cap, cur, rfl, hg, (hs g hg (Array.getElem?_eq_some_iff.1 hh).1).trans hh, r⟩
theorem Parts.same {w w' : World} {B : Nat} {v : Value} {L : List Byt} (h : Parts w B v L) (hs : ∀ i, B ≤ i → i < w.heap.size → w'.heap[i]? = w.heap[i]?) : Parts w' B v L := by
  obtain ⟨E, h1, h2⟩ := h
  exact ⟨E, owns_same h1 hs, fun i hi hi' => owns_same (h2 i hi hi') hs⟩
/-- A list in a row of its own, of slices that can be read in an older world. -/
def Wants (w0 w : World) (B : Nat) (v : Value) (M : List Byt) : Prop :=
  ∃ E : List Value, w.ownsRow B 22 1 v M.length E ∧ ∀ i (h : i < M.length) (h' : i < E.length), argRow w0 E[i] M[i].length 1 (Lib.byteCells M[i])
theorem Wants.nil (w0 w : World) (B : Nat) : Wants w0 w B (.slice none 0 0) [] := ⟨[], World.ownsRow_nil _ _ _ _, fun i h => by cases h⟩
theorem Wants.rows {w0 w : World} {B : Nat} {v : Value} {M : List Byt} (h : Wants w0 w B v M) (hb : Below w0.heap.size w0 w) : Rows w v M := by
  obtain ⟨E, h1, h2⟩ := h
  exact ⟨E, argRow_owns h1, fun i hi hi' => argRow_below (h2 i hi hi') hb⟩
theorem Wants.below {w0 w w' : World} {B : Nat} {v : Value} {M : List Byt} (h : Wants w0 w B v M) (hb : Below w.heap.size w w') : Wants w0 w' B v M := by
  obtain ⟨E, h1, h2⟩ := h
  exact ⟨E, owns_below h1 hb, h2⟩
/-- Where a row of bytes of the call's own has turned. -/
theorem Wants.bytes {w0 w w' : World} {B A : Nat} {v u : Value} {M : List Byt} {n : Nat} {xs : List Value} (h : Wants w0 w B v M) (hu : w.ownsRow A 5 1 u n xs) (hg : w.grownBy w' u.ownBlock) : Wants w0 w' B v M := by
  obtain ⟨E, h1, h2⟩ := h
  refine ⟨E, h1.kept hg ?_, h2⟩
  cases hv : v.ownBlock with
  | none => exact .inl rfl
  | some g => exact .inr (fun e => block_ne' h1 hu (by decide) hv e.symm)
theorem Wants.push {w0 w' : World} {B : Nat} {u v' : Value} {M : List Byt} {E : List Value} (hl : E.length = M.length) (h2 : ∀ i (h : i < M.length) (h' : i < E.length), argRow w0 E[i] M[i].length 1 (Lib.byteCells M[i]))
    (ho : w'.ownsRow B 22 1 v' (M.length + 1) (E ++ [u])) {l : Byt} (hu : argRow w0 u l.length 1 (Lib.byteCells l)) : Wants w0 w' B v' (M ++ [l]) := by
  refine ⟨E ++ [u], by simpa using ho, fun i hi hi' => ?_⟩
  by_cases c : i < M.length
  · rw [List.getElem_append_left (by omega), List.getElem_append_left c]
    exact h2 i c (by omega)
  · simp only [List.length_append, List.length_singleton] at hi
    obtain rfl : i = M.length := by omega
    have e1 : (E ++ [u])[M.length]'hi' = u := by simp [← hl]
    have e2 : (M ++ [l])[M.length]'(by simp) = l := by simp
    rw [e1, e2]
    exact hu
theorem Rows.take {w : World} {a : Option Addr} {n c k : Nat} {L : List Byt} (h : Rows w (.slice a n c) L) (hk : k ≤ L.length) : Rows w (.slice a k c) (L.take k) := by
  obtain ⟨E, h1, h2⟩ := h
  have hn : n = L.length := by
    obtain ⟨_, a', c', e, _⟩ := h1
    cases e
    rfl
  subst hn
  have hE : E.length = L.length := by have := h1.1; omega
  refine ⟨E.take k, ?_, fun i hi hi' => ?_⟩
  · have := argRow_take h1 hk
    rw [Nat.mul_one] at this
    rw [List.length_take, Nat.min_eq_left hk]
    exact this
  · rw [List.length_take] at hi
    rw [List.getElem_take, List.getElem_take]
    exact h2 i (by omega) (by omega)
theorem allOf_take_len : ∀ (L : List Byt) (k : Nat), (allOf (L.take k)).length ≤ 21 * (L.map fun l => l.length + 1).sum
  | [], k => by simp [allOf]
  | p :: L, 0 => by simp [allOf]
  | p :: L, k + 1 => by
    have ih := allOf_take_len L k
    have h := chunk_len p
    rw [List.take_succ_cons]
    show (chunkOf p ++ allOf (L.take k)).length ≤ _
    simp only [List.length_append, List.map_cons, List.sum_cons]
    omega
theorem fullOf_le (L : List Byt) : (fullOf L).length ≤ L.length := List.length_filter_le _ _
/-- What stands at a round's beginning: the bytes laid together, the list of the parts. -/
structure CS (w w1 wr : World) (aV wV : Value) (P : Byt) (M : List Byt) : Prop where
  all : Part wr w1.heap.size aV P
  want : Wants w wr w1.heap.size wV M
  bel : Below w1.heap.size w1 wr
theorem CS.below {w w1 wr w2 : World} {aV wV : Value} {P : Byt} {M : List Byt} (h : CS w w1 wr aV wV P M) (hb : Below wr.heap.size wr w2) : CS w w1 w2 aV wV P M :=
  ⟨owns_below h.all hb, h.want.below hb, below_seq h.bel hb⟩
/-- Bytes laid behind. -/
theorem CS.lay {w w1 wr w2 : World} {aV aV2 wV : Value} {P X : Byt} {M : List Byt} (h : CS w w1 wr aV wV P M) (ho : w2.ownsRow w1.heap.size 5 1 aV2 (P.length + X.length) (Lib.byteCells P ++ Lib.byteCells X)) (hg : wr.grownBy w2 aV.ownBlock) : CS w w1 w2 aV2 wV (P ++ X) M :=
  ⟨by unfold Part; rw [List.length_append, byteCells_append]; exact ho, h.want.bytes h.all hg, h.bel.grown hg h.bel.size fun k hk => (h.all.lt k hk).1⟩
/-- A part laid behind. -/
theorem CS.list {w w1 wr w2 : World} {aV wV wV2 u : Value} {P : Byt} {M : List Byt} {E : List Value} {l : Byt} (h : CS w w1 wr aV wV P M) (hE : wr.ownsRow w1.heap.size 22 1 wV M.length E) (h2 : ∀ i (h : i < M.length) (h' : i < E.length), argRow w E[i] M[i].length 1 (Lib.byteCells M[i]))
    (ho : w2.ownsRow w1.heap.size 22 1 wV2 (M.length + 1) (E ++ [u])) (hu : argRow w u l.length 1 (Lib.byteCells l)) (hg : wr.grownBy w2 wV.ownBlock) : CS w w1 w2 aV wV2 P (M ++ [l]) := by
  refine ⟨h.all.kept hg ?_, Wants.push (by have := hE.1; omega) h2 ho hu, h.bel.grown hg h.bel.size fun k hk => (hE.lt k hk).1⟩
  cases hv : aV.ownBlock with
  | none => exact .inl rfl
  | some g => exact .inr (fun e => block_ne' h.all hE (by decide) hv e.symm)
end Go.Proofs.YtknoimflimhcgaaDoor
