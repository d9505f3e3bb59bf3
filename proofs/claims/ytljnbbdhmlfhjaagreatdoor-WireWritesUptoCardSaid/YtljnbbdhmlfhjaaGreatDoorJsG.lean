/-
  JSON's values in memory.
-/
import Derived.Test.YtljnbbdhmlfhjaaGreatDoorJsF
namespace Go.Proofs.YtljnbbdhmlfhjaaGreatDoor
open Go.RowKit
/-- A row that can be read, in a block of which S holds. -/
def RowS (w : World) (S : Nat → Prop) (sv : Value) (n size : Nat) (xs : List Value) : Prop := argRow w sv n size xs ∧ (0 < n → ∀ a n' c, sv = .slice (some a) n' c → S a.block)
mutual
/-- A value that stands for a plain one, all of it in blocks of which S holds. -/
def RepJ (w : World) (S : Nat → Prop) : J → Value → Prop
  | .nul, v => v = .nilIface
  | .bool b, v => v = .iface 4 (.bool b)
  | .num s, v => v = .iface 95 (.string ⟨s.toArray⟩)
  | .str s, v => v = .iface 9 (.string ⟨s.toArray⟩)
  | .arr l, v => ∃ sv vs, v = .iface 42 sv ∧ RowS w S sv l.length 1 vs ∧ RepL w S l vs
  | .obj l, v => ∃ sv vs, v = .iface 79 sv ∧ RowS w S sv l.length 2 vs ∧ RepM w S l vs
def RepL (w : World) (S : Nat → Prop) : List J → List Value → Prop
  | [], vs => vs = []
  | x :: l, vs => ∃ v vs', vs = v :: vs' ∧ RepJ w S x v ∧ RepL w S l vs'
def RepM (w : World) (S : Nat → Prop) : List (Bs × J) → List Value → Prop
  | [], vs => vs = []
  | x :: l, vs => ∃ v vs', vs = .string ⟨x.1.toArray⟩ :: v :: vs' ∧ RepE w S x v ∧ RepM w S l vs'
def RepE (w : World) (S : Nat → Prop) : Bs × J → Value → Prop
  | (_, x), v => RepJ w S x v
end
theorem cell_same {w w' : World} {b : Nat} (h : w'.heap[b]? = w.heap[b]?) (j : Nat) : w'.cell? ⟨b, j, none⟩ = w.cell? ⟨b, j, none⟩ := by
  unfold World.cell?
  simp only [h]
theorem RowS.to {w w' : World} {S S' : Nat → Prop} {sv : Value} {n size : Nat} {xs : List Value} (h : RowS w S sv n size xs) (hk : ∀ k, S k → S' k ∧ (k < w.heap.size → w'.heap[k]? = w.heap[k]?)) : RowS w' S' sv n size xs := by
  obtain ⟨⟨h1, a, cap, rfl, h2, h3, h4⟩, h5⟩ := h
  refine ⟨⟨h1, a, cap, rfl, h2, h3, fun h0 => ?_⟩, fun h0 a' n' c' e => (hk _ (h5 h0 a' n' c' e)).1⟩
  obtain ⟨b, off, rfl, hb, hc⟩ := h4 h0
  have he := (hk b (h5 h0 _ _ _ rfl)).2 hb
  refine ⟨b, off, rfl, ?_, fun j hj => ?_⟩
  · have : w'.heap[b]? = some w.heap[b] := by rw [he]; exact Array.getElem?_eq_getElem hb
    exact (Array.getElem?_eq_some_iff.1 this).1
  · rw [cell_same he]
    exact hc j hj
mutual
theorem RepJ.to {w w' : World} {S S' : Nat → Prop} (hk : ∀ k, S k → S' k ∧ (k < w.heap.size → w'.heap[k]? = w.heap[k]?)) : ∀ (j : J) (v : Value), RepJ w S j v → RepJ w' S' j v
  | .nul, _, h => h
  | .bool _, _, h => h
  | .num _, _, h => h
  | .str _, _, h => h
  | .arr l, v, h => by
    obtain ⟨sv, vs, e, h1, h2⟩ := h
    exact ⟨sv, vs, e, h1.to hk, RepL.to hk l vs h2⟩
  | .obj l, v, h => by
    obtain ⟨sv, vs, e, h1, h2⟩ := h
    exact ⟨sv, vs, e, h1.to hk, RepM.to hk l vs h2⟩
theorem RepL.to {w w' : World} {S S' : Nat → Prop} (hk : ∀ k, S k → S' k ∧ (k < w.heap.size → w'.heap[k]? = w.heap[k]?)) : ∀ (l : List J) (vs : List Value), RepL w S l vs → RepL w' S' l vs
  | [], _, h => h
  | x :: l, vs, h => by
    obtain ⟨v, vs', e, h1, h2⟩ := h
    exact ⟨v, vs', e, RepJ.to hk x v h1, RepL.to hk l vs' h2⟩
theorem RepM.to {w w' : World} {S S' : Nat → Prop} (hk : ∀ k, S k → S' k ∧ (k < w.heap.size → w'.heap[k]? = w.heap[k]?)) : ∀ (l : List (Bs × J)) (vs : List Value), RepM w S l vs → RepM w' S' l vs
  | [], _, h => h
  | (n, x) :: l, vs, h => by
    obtain ⟨v, vs', e, h1, h2⟩ := h
    exact ⟨v, vs', e, RepJ.to hk x v h1, RepM.to hk l vs' h2⟩
end
theorem rep_one {w : World} {S : Nat → Prop} {j : J} {v : Value} (h : RepJ w S j v) : v.oneCell' = true := by
  cases j with
  | nul => rw [show v = _ from h]; rfl
  | bool b => rw [show v = _ from h]; rfl
  | num s => rw [show v = _ from h]; rfl
  | str s => rw [show v = _ from h]; rfl
  | arr l =>
    obtain ⟨sv, vs, rfl, -⟩ := h
    rfl
  | obj l =>
    obtain ⟨sv, vs, rfl, -⟩ := h
    rfl
/-- null is the nil interface; all else is boxed. -/
theorem rep_kind (j : J) : j = .nul ∨ ∀ (w : World) (S : Nat → Prop) (v : Value), RepJ w S j v → ∃ T x, v = .iface T x := by
  cases j with
  | nul => exact .inl rfl
  | bool b => exact .inr fun w S v h => ⟨_, _, h⟩
  | num s => exact .inr fun w S v h => ⟨_, _, h⟩
  | str s => exact .inr fun w S v h => ⟨_, _, h⟩
  | arr l => exact .inr fun w S v h => by obtain ⟨sv, vs, rfl, -⟩ := h; exact ⟨_, _, rfl⟩
  | obj l => exact .inr fun w S v h => by obtain ⟨sv, vs, rfl, -⟩ := h; exact ⟨_, _, rfl⟩
theorem repL_len {w : World} {S : Nat → Prop} : ∀ {l : List J} {vs : List Value}, RepL w S l vs → vs.length = l.length
  | [], vs, h => by rw [show vs = [] from h]; rfl
  | x :: l, vs, h => by
    obtain ⟨v, vs', rfl, -, h2⟩ := h
    simp [repL_len h2]
theorem repM_len {w : World} {S : Nat → Prop} : ∀ {l : List (Bs × J)} {vs : List Value}, RepM w S l vs → vs.length = 2 * l.length
  | [], vs, h => by rw [show vs = [] from h]; rfl
  | x :: l, vs, h => by
    obtain ⟨v, vs', rfl, -, h2⟩ := h
    simp only [List.length_cons, repM_len h2]
    omega
theorem repL_snoc {w : World} {S : Nat → Prop} {j : J} {v : Value} (hj : RepJ w S j v) : ∀ {l : List J} {vs : List Value}, RepL w S l vs → RepL w S (l ++ [j]) (vs ++ [v])
  | [], vs, h => by
    rw [show vs = [] from h]
    exact ⟨v, [], rfl, hj, rfl⟩
  | x :: l, vs, h => by
    obtain ⟨u, vs', rfl, h1, h2⟩ := h
    exact ⟨u, vs' ++ [v], rfl, h1, repL_snoc hj h2⟩
theorem repM_snoc {w : World} {S : Nat → Prop} {n : Bs} {j : J} {v : Value} (hj : RepJ w S j v) : ∀ {l : List (Bs × J)} {vs : List Value}, RepM w S l vs → RepM w S (l ++ [(n, j)]) (vs ++ [.string ⟨n.toArray⟩, v])
  | [], vs, h => by
    rw [show vs = [] from h]
    exact ⟨v, [], rfl, hj, rfl⟩
  | x :: l, vs, h => by
    obtain ⟨u, vs', rfl, h1, h2⟩ := h
    exact ⟨u, vs' ++ [.string ⟨n.toArray⟩, v], rfl, h1, repM_snoc hj h2⟩
theorem deepL_snoc (j : J) : ∀ l : List J, deepL (l ++ [j]) = max (deepL l) (deepJ j)
  | [] => by simp [deepL]
  | x :: l => by
    simp only [List.cons_append, deepL, deepL_snoc j l]
    omega
theorem deepM_snoc (n : Bs) (j : J) : ∀ l : List (Bs × J), deepM (l ++ [(n, j)]) = max (deepM l) (deepJ j)
  | [] => by simp [deepM, deepE]
  | x :: l => by
    simp only [List.cons_append, deepM, deepM_snoc n j l]
    omega
/-- What is new since a world of that size, but for a row. -/
def Nb (lo : Nat) (w : World) (v : Value) : Nat → Prop := fun k => lo ≤ k ∧ k < w.heap.size ∧ v.ownBlock ≠ some k
def Nw (lo : Nat) (w : World) : Nat → Prop := fun k => lo ≤ k ∧ k < w.heap.size
def ValR (p : Nat) (w : World) (deep most : Nat) : Option (J × Bs) → Ending → World → Prop
  | none, e, w' => Fell p w e w'
  | some (j, r), e, w' => ∃ v, e = .returned v ∧ JS w' p r deep (max most (deep + deepJ j)) ∧ w.grownBy w' (some p) ∧ RepJ w' (Nw w.heap.size w') j v
/-- .. of an array or an object, whose depth is counted by then. -/
def ArrR (p : Nat) (w : World) (deep most : Nat) : Option (J × Bs) → Ending → World → Prop
  | none, e, w' => Fell p w e w'
  | some (j, r), e, w' => ∃ v, e = .returned v ∧ JS w' p r deep (max most (deep + (deepJ j - 1))) ∧ w.grownBy w' (some p) ∧ RepJ w' (Nw w.heap.size w') j v
/-- .. and what it answers is nil, or boxed. -/
theorem val_kind {p : Nat} {w : World} {deep most : Nat} {j : J} {r : Bs} {f : FuncId} {args : Array Value} (h : Calls Tryz.prog f args w (ValR p w deep most (some (j, r)))) :
    (Calls Tryz.prog f args w fun e w' => ∃ (_T : TypeId) (_x : Value), e = .returned .nilIface ∧ JS w' p r deep (max most (deep + deepJ j)) ∧ w.grownBy w' (some p) ∧ RepJ w' (Nw w.heap.size w') j .nilIface) ∨
      (Calls Tryz.prog f args w fun e w' => ∃ (T : TypeId) (x : Value), e = .returned (.iface T x) ∧ JS w' p r deep (max most (deep + deepJ j)) ∧ w.grownBy w' (some p) ∧ RepJ w' (Nw w.heap.size w') j (.iface T x)) := by
  rcases rep_kind j with rfl | hk
  · refine .inl (h.mono ?_)
    rintro e w' ⟨v, rfl, h1, h2, h3⟩
    have hv : v = .nilIface := h3
    subst hv
    exact ⟨0, .nilIface, rfl, h1, h2, h3⟩
  · refine .inr (h.mono ?_)
    rintro e w' ⟨v, rfl, h1, h2, h3⟩
    obtain ⟨T, x, rfl⟩ := hk _ _ _ h3
    exact ⟨T, x, rfl, h1, h2, h3⟩
def ReadsJ (val : Bs → Option (J × Bs)) (n : Nat) : Prop :=
  ∀ (p : Nat) (w : World) (s : Bs) (deep most : Nat), s.length ≤ n → s.length ≤ 1099511627776 → JS w p s deep most → deep ≤ most → deep + s.length ≤ 1099511627776 → Calls Tryz.prog 43 #[.pointer (some ⟨p, 0, none⟩)] w (ValR p w deep most (val s))
end Go.Proofs.YtljnbbdhmlfhjaaGreatDoor
