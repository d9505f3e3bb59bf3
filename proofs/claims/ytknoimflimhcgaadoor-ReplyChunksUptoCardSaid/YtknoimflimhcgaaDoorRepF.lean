/-
  The contract of the reference's Chunks.
-/
import Derived.Test.YtknoimflimhcgaaDoorRepE
namespace Go.Proofs.YtknoimflimhcgaaDoor
open Go.RowKit

/-- What the reading byte by byte holds in memory: the parts that are done lie below K, the one under way from K on. -/
def RMem (w : World) (B : Nat) (v pv : Value) (st : RSt) : Prop :=
  ∃ (K : Nat) (E : List Value), B ≤ K ∧ K ≤ w.heap.size ∧ w.ownsRow B 22 1 v st.acc.length E ∧ (∀ i (h : i < st.acc.length) (h' : i < E.length), Part w B E[i] st.acc[i] ∧ ∀ g, E[i].ownBlock = some g → g < K) ∧
    (st.s ≠ 0 → w.ownsRow K 5 1 pv st.part.length (Lib.byteCells st.part))
theorem RMem.parts {w : World} {B : Nat} {v pv : Value} {st : RSt} (h : RMem w B v pv st) : Parts w B v st.acc := by
  obtain ⟨K, E, _, _, h1, h2, _⟩ := h
  exact ⟨E, h1, fun i hi hi' => (h2 i hi hi').1⟩
theorem RMem.zero (w : World) : RMem w w.heap.size (.slice none 0 0) (.slice none 0 0) st0 :=
  ⟨w.heap.size, [], Nat.le_refl _, Nat.le_refl _, World.ownsRow_nil _ _ _ _, (fun i h => absurd h (Nat.not_lt_zero i)), (fun h => absurd rfl h)⟩
/-- Another state with the same parts. -/
theorem RMem.same {w : World} {B : Nat} {v pv : Value} {st st' : RSt} (h : RMem w B v pv st) (ha : st'.acc = st.acc) (hp : st'.part = st.part) (hs : st.s ≠ 0) : RMem w B v pv st' := by
  obtain ⟨K, E, h1, h2, h3, h4, h5⟩ := h
  exact ⟨K, E, h1, h2, by rw [ha]; exact h3, by rw [ha]; exact h4, fun _ => by rw [hp]; exact h5 hs⟩
/-- A new part. -/
theorem RMem.fresh {w : World} {B : Nat} {v pv : Value} {st st' : RSt} (h : RMem w B v pv st) (ha : st'.acc = st.acc) (hp : st'.part = []) : RMem w B v (.slice none 0 0) st' := by
  obtain ⟨K, E, h1, h2, h3, h4, h5⟩ := h
  exact ⟨K, E, h1, h2, by rw [ha]; exact h3, by rw [ha]; exact h4, fun _ => by rw [hp]; exact World.ownsRow_nil _ _ _ _⟩
/-- One byte more in the part. -/
theorem RMem.more {w : World} {B : Nat} {v pv : Value} {st : RSt} (h : RMem w B v pv st) (hs : st.s ≠ 0) :
    ∃ K, K ≤ w.heap.size ∧ B ≤ K ∧ w.ownsRow K 5 1 pv st.part.length (Lib.byteCells st.part) ∧ ∀ (st' : RSt) (w1 : World) (pv1 : Value) (c : UInt8) (o : Obj), st'.acc = st.acc → st'.part = st.part ++ [c] →
      (w.alloc o).grownBy w1 pv.ownBlock → w1.ownsRow K 5 1 pv1 (st.part.length + 1) (Lib.byteCells (st.part ++ [c])) → RMem w1 B v pv1 st' := by
  obtain ⟨K, E, h1, h2, h3, h4, h5⟩ := h
  have hp5 := h5 hs
  refine ⟨K, h2, h1, hp5, fun st' w1 pv1 c o ha hp hg hown => ?_⟩
  have hsz := hg.size
  simp at hsz
  refine ⟨K, E, h1, by omega, ?_, ?_, fun _ => ?_⟩
  · rw [ha]
    refine (h3.alloc o).kept hg ?_
    cases hv : v.ownBlock with
    | none => exact .inl rfl
    | some g => exact .inr (fun e => block_ne' h3 hp5 (by decide) hv e.symm)
  · rw [ha]
    intro i hi hi'
    obtain ⟨q1, q2⟩ := h4 i hi hi'
    refine ⟨World.ownsRow.kept (q1.alloc o) hg ?_, q2⟩
    cases hv : E[i].ownBlock with
    | none => exact .inl rfl
    | some g => exact .inr (fun e => by have := q2 g hv; have := (hp5.lt g e.symm).1; omega)
  · rw [hp, List.length_append, List.length_singleton]
    exact hown
/-- The part is done. -/
theorem RMem.push {w : World} {B : Nat} {v pv : Value} {st : RSt} (h : RMem w B v pv st) (hs : st.s ≠ 0) :
    ∃ E, w.ownsRow B 22 1 v st.acc.length E ∧ ∀ (st' : RSt) (w1 : World) (v1 : Value) (o : Obj), st'.acc = st.acc ++ [st.part] → st'.s = 0 → (w.alloc o).grownBy w1 v.ownBlock →
      w1.ownsRow B 22 1 v1 (st.acc.length + 1) (E ++ [pv]) → RMem w1 B v1 pv st' := by
  obtain ⟨K, E, h1, h2, h3, h4, h5⟩ := h
  have hp5 := h5 hs
  refine ⟨E, h3, fun st' w1 v1 o ha hs' hg hown => ?_⟩
  have hsz := hg.size
  simp at hsz
  have hl : E.length = st.acc.length := by have := h3.1; omega
  have keep : ∀ {x : Value} {k : Byt}, Part w B x k → Part w1 B x k := fun {x k} hx => World.ownsRow.kept (hx.alloc o) hg (by
    cases hv : v.ownBlock with
    | none => cases hx' : x.ownBlock <;> simp
    | some g => exact .inr (block_ne' h3 hx (by decide) hv))
  refine ⟨w1.heap.size, E ++ [pv], by omega, Nat.le_refl _, by rw [ha, List.length_append, List.length_singleton]; exact hown, ?_, fun h => absurd hs' h⟩
  rw [ha]
  intro i hi hi'
  by_cases c : i < st.acc.length
  · rw [List.getElem_append_left (by omega), List.getElem_append_left c]
    obtain ⟨q1, q2⟩ := h4 i c (by omega)
    exact ⟨keep q1, fun g hg' => by have := q2 g hg'; omega⟩
  · simp only [List.length_append, List.length_singleton] at hi
    obtain rfl : i = st.acc.length := by omega
    have e1 : (E ++ [pv])[st.acc.length]'hi' = pv := by simp [← hl]
    have e2 : (st.acc ++ [st.part])[st.acc.length]'(by simp) = st.part := by simp
    rw [e1, e2]
    exact ⟨keep (owns_base hp5 h1), fun g hg' => by have := (hp5.lt g hg').2; omega⟩
theorem RMem.owns {w : World} {B : Nat} {v pv : Value} {st : RSt} (h : RMem w B v pv st) (hs : st.s ≠ 0) : w.ownsRow B 5 1 pv st.part.length (Lib.byteCells st.part) := by
  obtain ⟨K, E, h1, _, _, _, h5⟩ := h
  exact owns_base (h5 hs) h1
theorem RMem.row {w : World} {B : Nat} {v pv : Value} {st : RSt} (h : RMem w B v pv st) : ∃ E, w.ownsRow B 22 1 v st.acc.length E := by
  obtain ⟨K, E, _, _, h3, _⟩ := h
  exact ⟨E, h3⟩

theorem run_step {l : Byt} {k : Nat} {st : RSt} {R : Option RSt} (hk : k < l.length) (h : runR st (l.drop k) = R) : (stepR st l[k]).bind (fun st' => runR st' (l.drop (k + 1))) = R := by
  rw [List.drop_eq_getElem_cons hk] at h
  exact h
theorem hexV_digit {c : UInt8} (h : decide ((c.toNat : Int) ≤ 57) = true) (h2 : decide ((48 : Int) ≤ (c.toNat : Int)) = true) : (c.toNat : Int) - 48 = (hexV c : Int) := by
  simp only [decide_eq_true_eq] at h h2
  unfold hexV
  split <;> omega
theorem hexV_letter {c : UInt8} (h : decide ((c.toNat : Int) ≤ 57) = false) (h2 : decide ((97 : Int) ≤ (c.toNat : Int)) = true) : (c.toNat : Int) - 97 + 10 = (hexV c : Int) := by
  simp only [decide_eq_false_iff_not] at h
  have h2 := of_decide_eq_true h2
  unfold hexV
  split <;> omega
theorem hex_tests2 {c : UInt8} (h : isHex c = true) :
    (decide ((48 : Int) ≤ (c.toNat : Int)) = true ∧ decide ((c.toNat : Int) ≤ 57) = true ∧ decide ((97 : Int) ≤ (c.toNat : Int)) = false ∧ decide ((c.toNat : Int) ≤ 102) = true ∧ (c.toNat : Int) - 48 = (hexV c : Int)) ∨
    (decide ((48 : Int) ≤ (c.toNat : Int)) = true ∧ decide ((c.toNat : Int) ≤ 57) = false ∧ decide ((97 : Int) ≤ (c.toNat : Int)) = true ∧ decide ((c.toNat : Int) ≤ 102) = true ∧ (c.toNat : Int) - 97 + 10 = (hexV c : Int)) := by
  rcases hex_tests h with ⟨h1, h2, h3, h4⟩ | ⟨h1, h2, h3, h4⟩
  · exact .inl ⟨h1, h2, h3, h4, hexV_digit h2 h1⟩
  · exact .inr ⟨h1, h2, h3, h4, hexV_letter h2 h3⟩
theorem any_tests (c : UInt8) :
    (decide ((48 : Int) ≤ (c.toNat : Int)) = true ∧ decide ((c.toNat : Int) ≤ 57) = true ∧ decide ((97 : Int) ≤ (c.toNat : Int)) = false ∧ decide ((c.toNat : Int) ≤ 102) = true) ∨
    (decide ((48 : Int) ≤ (c.toNat : Int)) = true ∧ decide ((c.toNat : Int) ≤ 57) = false ∧ decide ((97 : Int) ≤ (c.toNat : Int)) = true ∧ decide ((c.toNat : Int) ≤ 102) = true) ∨
    (decide ((48 : Int) ≤ (c.toNat : Int)) = false ∧ decide ((c.toNat : Int) ≤ 57) = true ∧ decide ((97 : Int) ≤ (c.toNat : Int)) = false ∧ decide ((c.toNat : Int) ≤ 102) = true) ∨
    (decide ((48 : Int) ≤ (c.toNat : Int)) = true ∧ decide ((c.toNat : Int) ≤ 57) = false ∧ decide ((97 : Int) ≤ (c.toNat : Int)) = false ∧ decide ((c.toNat : Int) ≤ 102) = true) ∨
    (decide ((48 : Int) ≤ (c.toNat : Int)) = true ∧ decide ((c.toNat : Int) ≤ 57) = false ∧ decide ((97 : Int) ≤ (c.toNat : Int)) = true ∧ decide ((c.toNat : Int) ≤ 102) = false) := by
  by_cases h : isHex c = true
  · rcases hex_tests h with h | h
    · exact .inl h
    · exact .inr (.inl h)
  · rcases nohex_tests h with h | h | h
    · exact .inr (.inr (.inl h))
    · exact .inr (.inr (.inr (.inl h)))
    · exact .inr (.inr (.inr (.inr h)))
theorem low_tests {c : UInt8} (h : c.toNat < 48) : decide ((48 : Int) ≤ (c.toNat : Int)) = false ∧ decide ((c.toNat : Int) ≤ 57) = true ∧ decide ((97 : Int) ≤ (c.toNat : Int)) = false ∧ decide ((c.toNat : Int) ≤ 102) = true := by
  simp only [decide_eq_true_eq, decide_eq_false_iff_not]
  omega
theorem pow_next {n v dg : Nat} (h : n < 16 ^ dg) (hv : v < 16) : 16 * n + v < 16 ^ (dg + 1) := by
  rw [Nat.pow_succ]; omega
theorem ChunksEnd.none' {R : Option RSt} {B : Nat} {w' : World} {e : Ending} (hr : R = none) (he : e = .returned (.tuple #[.slice none 0 0, .bool false, .int .i64 6])) : ChunksEnd (resR R) B w' e := by
  subst hr; exact he
end Go.Proofs.YtknoimflimhcgaaDoor
