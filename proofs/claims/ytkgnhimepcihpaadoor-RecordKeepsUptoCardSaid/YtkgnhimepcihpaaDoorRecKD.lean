/-
  What the second loop of RecordKeeps keeps.
-/
import Derived.Test.YtkgnhimepcihpaaDoorRecKB
namespace Go.Proofs.YtkgnhimepcihpaaDoor
open Go.RowKit
theorem own_blocks {w w' : World} {B size n : Nat} {e : TypeId} {v : Value} {xs : List Value} (h : w.ownsRow B e size v n xs) (hk : ∀ k, v.ownBlock = some k → w'.heap[k]? = w.heap[k]?) : w'.ownsRow B e size v n xs := by
  refine ⟨h.1, ?_⟩
  rcases h.2 with ⟨rfl, h2⟩ | ⟨g, cap, cur, rfl, hB, hg, h2⟩
  · exact .inl ⟨rfl, h2⟩
  · exact .inr ⟨g, cap, cur, rfl, hB, by rw [hk g rfl]; exact hg, h2⟩
theorem any_of_own {w : World} {B size n : Nat} {e : TypeId} {v : Value} {xs : List Value} (h : w.ownsRow B e size v n xs) : AnyOwn w B size e v n := ⟨xs, h⟩
structure Kp (A B g : Nat) (vm : Value) (Z : List RecL) (w wr : World) : Prop where
  os : wr.os = w.os
  tape : wr.tape = w.tape
  output : wr.output = w.output
  size : w.heap.size ≤ wr.heap.size
  out : ∀ k, k < w.heap.size → k ≠ g → (k < A ∨ B ≤ k) → wr.heap[k]? = w.heap[k]?
  own : wr.ownsRow A 27 4 vm Z.length (recsCells Z)
  labs : ∀ z ∈ Z, AnyOwn wr A 2 47 z.2 z.1.labs.length
  lt : ∀ z ∈ Z, ∀ k, z.2.ownBlock = some k → k < B
theorem Kp.step {A B g : Nat} {vm : Value} {Z : List RecL} {w wr wx : World} (K : Kp A B g vm Z w wr) {z : RecL} (hz : z ∈ Z) (hg : wr.grownBy wx z.2.ownBlock) (hs : Shapes wr wx) : Kp A B g vm Z w wx := by
  obtain ⟨xs, hx⟩ := K.labs z hz
  refine ⟨hg.os.trans K.os, hg.tape.trans K.tape, hg.output.trans K.output, Nat.le_trans K.size hg.size, fun k hk hkg hAB => ?_, ?_, fun y hy => (K.labs y hy).shapes hs, K.lt⟩
  · rw [hg.block k (Nat.lt_of_lt_of_le hk K.size) (fun e => ?_), K.out k hk hkg hAB]
    have h1 := (hx.lt k e.symm).1
    have h2 := K.lt z hz k e.symm
    omega
  · refine K.own.kept hg ?_
    cases hv : vm.ownBlock with
    | none => exact .inl rfl
    | some j => exact .inr fun e => own_apart hx K.own (by decide) e.symm hv
theorem Kp.new {A B g : Nat} {vm : Value} {Z : List RecL} {w wr wx : World} (K : Kp A B g vm Z w wr) (hb : Below wr.heap.size wr wx) : Kp A B g vm Z w wx :=
  ⟨hb.os.trans K.os, hb.tape.trans K.tape, hb.output.trans K.output, Nat.le_trans K.size hb.size, fun k hk hkg hAB => by rw [hb.block k (Nat.lt_of_lt_of_le hk K.size), K.out k hk hkg hAB],
    owns_below K.own hb, fun y hy => (K.labs y hy).shapes (Shapes.below hb), K.lt⟩
theorem Kp.start {A B g : Nat} {vm : Value} {Z : List RecL} {w7 w w' : World} (ho : ROwn w7 A vm Z) (h7 : w7.heap.size = B) (hb : Below B w7 w) (hg : w.grownBy w' (some g)) (hgA : g < A) : Kp A B g vm Z w w' := by
  subst h7
  have h1 := ho.kept (grown_of_below hb none) (fun k hk => by cases hk)
  have h2 := h1.kept hg (fun k hk => by cases hk; exact hgA)
  exact ⟨hg.os, hg.tape, hg.output, hg.size, fun k hk hkg _ => hg.block k hk (fun e => hkg (Option.some.inj e)), h2.own, fun z hz => any_of_own (h2.labs z hz).1, fun z hz k hk => ((ho.labs z hz).1.lt k hk).2⟩
theorem Kp.rown {A B g : Nat} {vm v : Value} {Z Y : List RecL} {w wr : World} (K : Kp A B g vm Z w wr) (h : ROwn w B v Y) (hg : g < B) : ROwn wr B v Y := by
  have hk : ∀ {n size : Nat} {e : TypeId} {v : Value} {xs : List Value}, w.ownsRow B e size v n xs → wr.ownsRow B e size v n xs := fun h => own_blocks h (fun k hv => K.out k (h.lt k hv).2 (by have := (h.lt k hv).1; omega) (.inr (h.lt k hv).1))
  exact ⟨hk h.own, fun z hz => by
    have h1 := hk (h.labs z hz).1
    exact ⟨h1, LRow_own h1, (h.labs z hz).2.2⟩⟩
theorem Kp.below {A B g C : Nat} {vm : Value} {Z : List RecL} {w0 w wr : World} (K : Kp A B g vm Z w wr) (hb : Below C w0 w) (hC : C ≤ w0.heap.size) (hg : C ≤ g) (hA : C ≤ A) : Below C w0 wr :=
  ⟨K.os.trans hb.os, K.tape.trans hb.tape, K.output.trans hb.output, Nat.le_trans hb.size K.size, fun k hk => by
    have := hb.size
    rw [K.out k (by omega) (by omega) (.inl (by omega)), hb.block k hk]⟩
theorem own_shape {w : World} {B size n : Nat} {e : TypeId} {v : Value} {xs : List Value} (h : w.ownsRow B e size v n xs) : ∃ a c, v = .slice a n c ∧ n ≤ c ∧ c ≤ maxLen ∧ (0 < n → ∃ g, a = some ⟨g, 0, none⟩) := by
  rcases h.2 with ⟨rfl, h2⟩ | ⟨g, cap, cur, rfl, hB, hg, hn, hc, -, -⟩
  · obtain rfl : n = 0 := by first | exact h2 | simpa using h2
    exact ⟨none, 0, rfl, Nat.le_refl _, Nat.zero_le _, fun h => absurd h (Nat.lt_irrefl _)⟩
  · exact ⟨_, cap, rfl, hn, hc, fun _ => ⟨g, rfl⟩⟩
theorem Kp.cell {A B g gm cm i : Nat} {Z : List RecL} {w wr : World} (K : Kp A B g (.slice (some ⟨gm, 0, none⟩) Z.length cm) Z w wr) (hi : i < Z.length) : wr.cell? ⟨gm, i * 4 + 2, none⟩ = some Z[i].2 := by
  rw [K.own.cellAt (i * 4 + 2) (by omega), recsCells_get Z i hi 2 (by decide)]
  rfl
theorem any_cell {w : World} {B n gl c : Nat} {e : TypeId} (h : AnyOwn w B 2 e (.slice (some ⟨gl, 0, none⟩) n c) n) {k : Nat} (hk : k < n) : (∃ u, w.cell? ⟨gl, k * 2, none⟩ = some u) ∧ w.frozen? ⟨gl, k * 2, none⟩ = false := by
  obtain ⟨xs, h⟩ := h
  refine ⟨?_, h.frozenAt _⟩
  rw [h.cellAt (k * 2) (by omega)]
  exact ⟨xs[k * 2]'(by rw [h.1]; omega), List.getElem?_eq_getElem _⟩
end Go.Proofs.YtkgnhimepcihpaaDoor
