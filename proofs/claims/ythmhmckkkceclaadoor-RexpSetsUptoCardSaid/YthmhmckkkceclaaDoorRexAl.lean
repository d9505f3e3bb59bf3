/-
  Nodes and the program's parser in memory.
-/
import Derived.Test.YthmhmckkkceclaaDoorKitC
import Derived.Test.YthmhmckkkceclaaDoorRexPl
import Derived.Lib.Hide
import Derived.Test.YthmhmckkkceclaaDoorProg
import Derived.WalkKit
import Derived.WalkLawsBesides
import Derived.WalkSpells
import Derived.Outline
import Derived.Recover
import Derived.Deep.LoopGhost
import Derived.Deep.RegionLaw
import Derived.Deep.QuietTactic
import Derived.BigQuiet
import Derived.Deep.CutRange
import Derived.Test.YthmhmckkkceclaaDoorUtfAll
import Derived.StillTailTactics
namespace Go.Proofs.YthmhmckkkceclaaDoor
open Go.RowKit
abbrev NdL := Nd × Value × Value
def iCell (k : Nat) : Value := .int .i64 (k : Int)
def rCell (x : Int) : Value := .int .i32 x
def ndCells (z : NdL) : List Value := [.int .i64 z.1.kind, z.2.1, .int .i64 z.1.lo, .int .i64 z.1.hi, z.2.2]
def ndsCells (Z : List NdL) : List Value := Z.flatMap ndCells
theorem ndsCells_len (Z : List NdL) : (ndsCells Z).length = Z.length * 5 := by
  induction Z with
  | nil => rfl
  | cons x Z ih =>
    show (ndCells x ++ ndsCells Z).length = _
    rw [List.length_append, ih, List.length_cons]
    show 5 + _ = _
    omega
theorem ndsCells_append (A B : List NdL) : ndsCells (A ++ B) = ndsCells A ++ ndsCells B := List.flatMap_append
theorem ndsCells_get : ∀ (Z : List NdL) (k : Nat) (h : k < Z.length) (j : Nat), j < 5 → (ndsCells Z)[k * 5 + j]? = (ndCells Z[k])[j]?
  | x :: Z, 0, _, j, hj => by
    show (ndCells x ++ ndsCells Z)[0 * 5 + j]? = (ndCells x)[j]?
    rw [Nat.zero_mul, Nat.zero_add, List.getElem?_append_left (by exact hj)]
  | x :: Z, k + 1, h, j, hj => by
    have ih := ndsCells_get Z k (by simpa using h) j hj
    have e : ∀ j, (ndsCells (x :: Z))[j + 5]? = (ndsCells Z)[j]? := fun j => rfl
    rw [show (k + 1) * 5 + j = (k * 5 + j) + 5 from by omega, e]
    exact ih
/-- The kinds of blocks that a parser turns. -/
def Turns (T : TypeId) : Prop := T = 43 ∨ T = 54 ∨ T = 33
instance (T : TypeId) : Decidable (Turns T) := by unfold Turns; exact inferInstance
/-- What a parser's call leaves: what lies below it, and what is no parser and no row of nodes. -/
structure Mvd (p : Nat) (w w' : World) : Prop where
  low : Below p w w'
  off : ∀ k, k < w.heap.size → (∀ cs T fr, w.heap[k]? = some (.cells cs T fr) → ¬ Turns T) → w'.heap[k]? = w.heap[k]?
theorem Mvd.refl (p : Nat) (w : World) : Mvd p w w := ⟨Below.refl _ _, fun _ _ _ => rfl⟩
theorem Mvd.size {p : Nat} {w w' : World} (h : Mvd p w w') : w.heap.size ≤ w'.heap.size := h.low.size
theorem Mvd.trans {p : Nat} {w w1 w2 : World} (h1 : Mvd p w w1) (h2 : Mvd p w1 w2) : Mvd p w w2 :=
  ⟨h1.low.trans h2.low, fun k hk hT => by
    have e := h1.off k hk hT
    rw [h2.off k (Nat.lt_of_lt_of_le hk h1.size) (by rw [e]; exact hT), e]⟩
theorem Mvd.ofBelow {p : Nat} {w w' : World} (h : Below w.heap.size w w') (hp : p ≤ w.heap.size) : Mvd p w w' := ⟨h.mono hp, fun k hk _ => h.block k hk⟩
theorem Mvd.ofGrown {p : Nat} {w w' : World} {row : Option Nat} (h : w.grownBy w' row) (hp : p ≤ w.heap.size) (hr : ∀ k, row = some k → p ≤ k ∧ ∃ cs T fr, w.heap[k]? = some (.cells cs T fr) ∧ Turns T) : Mvd p w w' :=
  ⟨⟨h.os, h.tape, h.output, h.size, fun k hk => h.block k (Nat.lt_of_lt_of_le hk hp) fun e => by have := (hr k e.symm).1; omega⟩, fun k hk hT => h.block k hk fun e => by
    obtain ⟨_, cs, T, fr, h1, h2⟩ := hr k e.symm
    exact hT cs T fr h1 h2⟩
theorem own_mvd {p : Nat} {w w' : World} {B size n : Nat} {e : TypeId} {v : Value} {xs : List Value} (h : w.ownsRow B e size v n xs) (hm : Mvd p w w') (he : ¬ Turns e) : w'.ownsRow B e size v n xs := by
  refine ⟨h.1, ?_⟩
  rcases h.2 with h2 | ⟨g, cap, cur, e1, h1, h2, h3⟩
  · exact .inl h2
  · exact .inr ⟨g, cap, cur, e1, h1, by rw [hm.off g (Array.getElem?_eq_some_iff.1 h2).1 (fun cs T fr hh => by rw [h2] at hh; cases hh; exact he)]; exact h2, h3⟩
/-- A node's kids and set, of the call's own. -/
def NdAt (w : World) (B : Nat) (z : NdL) : Prop := w.ownsRow B 3 1 z.2.1 z.1.kids.length (z.1.kids.map iCell) ∧ w.ownsRow B 21 1 z.2.2 z.1.set.length (z.1.set.map rCell)
theorem NdAt.mvd {p : Nat} {w w' : World} {B : Nat} {z : NdL} (h : NdAt w B z) (hm : Mvd p w w') : NdAt w' B z := ⟨own_mvd h.1 hm (by decide), own_mvd h.2 hm (by decide)⟩
/-- Nodes of the call's own. -/
structure NOwn (w : World) (B : Nat) (v : Value) (Z : List NdL) : Prop where
  own : w.ownsRow B 33 5 v Z.length (ndsCells Z)
  parts : ∀ z ∈ Z, NdAt w B z
theorem NOwn.nil (w : World) (B : Nat) : NOwn w B (.slice none 0 0) [] := ⟨World.ownsRow_nil _ _ _ _, fun z hz => by simp at hz⟩
theorem own_keptX {w w' : World} {B size n : Nat} {e : TypeId} {v : Value} {xs : List Value} {row : Option Nat} (h : w.ownsRow B e size v n xs) (hg : w.grownBy w' row) (hr : ∀ k, row = some k → k < B) : w'.ownsRow B e size v n xs :=
  h.kept hg (by
    cases hv : v.ownBlock with
    | none => exact .inl rfl
    | some j => exact .inr fun e => by have := (h.lt j hv).1; have := hr j e.symm; omega)
theorem NOwn.kept {w w' : World} {B : Nat} {v : Value} {Z : List NdL} {row : Option Nat} (h : NOwn w B v Z) (hg : w.grownBy w' row) (hr : ∀ k, row = some k → k < B) : NOwn w' B v Z :=
  ⟨own_keptX h.own hg hr, fun z hz => ⟨own_keptX (h.parts z hz).1 hg hr, own_keptX (h.parts z hz).2 hg hr⟩⟩
theorem NOwn.keptB {w w' : World} {B : Nat} {v : Value} {Z : List NdL} (h : NOwn w B v Z) (hb : Below w.heap.size w w') : NOwn w' B v Z := h.kept (grown_of_below hb none) (fun k hk => by cases hk)
theorem NOwn.base {w : World} {A B : Nat} {v : Value} {Z : List NdL} (h : NOwn w B v Z) (hA : A ≤ B) : NOwn w A v Z := ⟨owns_base h.own hA, fun z hz => ⟨owns_base (h.parts z hz).1 hA, owns_base (h.parts z hz).2 hA⟩⟩
theorem own_apartX {w : World} {B B' size size' n n' : Nat} {e e' : TypeId} {v v' : Value} {xs xs' : List Value} (h : w.ownsRow B e size v n xs) (h' : w.ownsRow B' e' size' v' n' xs') (he : e ≠ e') {k : Nat} (hk : v.ownBlock = some k) : v'.ownBlock ≠ some k := by
  intro hk'
  rcases h.2 with ⟨rfl, _⟩ | ⟨g, cap, cur, rfl, _, hg, _⟩
  · cases hk
  · rcases h'.2 with ⟨rfl, _⟩ | ⟨g', cap', cur', rfl, _, hg', _⟩
    · cases hk'
    · have e1 : g = k := Option.some.inj hk
      have e2 : g' = k := Option.some.inj hk'
      subst e1
      subst e2
      rw [hg] at hg'
      have := Obj.cells.inj (Option.some.inj hg')
      exact he this.2.1
/-- A node more. -/
theorem NOwn.more {w w' : World} {B : Nat} {v v' : Value} {Z : List NdL} {z : NdL} (h : NOwn w B v Z) (hz : NdAt w B z) (hg : w.grownBy w' v.ownBlock)
    (ho : w'.ownsRow B 33 5 v' (Z.length + 1) (ndsCells Z ++ ndCells z)) : NOwn w' B v' (Z ++ [z]) := by
  have e1 : (Z ++ [z]).length = Z.length + 1 := by simp
  have e2 : ndsCells (Z ++ [z]) = ndsCells Z ++ ndCells z := by rw [ndsCells_append]; simp [ndsCells]
  refine ⟨by rw [e1, e2]; exact ho, fun y hy => ?_⟩
  have hy' : NdAt w B y := by
    rcases List.mem_append.1 hy with hy | hy
    · exact h.parts y hy
    · have e : y = z := by simpa using hy
      subst e
      exact hz
  exact ⟨hy'.1.kept hg (by
    cases hv : y.2.1.ownBlock with
    | none => exact .inl rfl
    | some j => exact .inr fun e => own_apartX hy'.1 h.own (by decide) hv e.symm), hy'.2.kept hg (by
    cases hv : y.2.2.ownBlock with
    | none => exact .inl rfl
    | some j => exact .inr fun e => own_apartX hy'.2 h.own (by decide) hv e.symm)⟩
/-- The program's parser: the runes to come, the nodes, how deep it is and was. -/
def parObj (sv ov : Value) (deep most : Nat) : Obj := .cells #[sv, ov, .int .i64 (deep : Int), .int .i64 (most : Int)] 43 (0, 0)
structure PSt (w : World) (p : Nat) (sv ov : Value) (s : List Int) (Z : List NdL) (deep most : Nat) : Prop where
  own : w.heap[p]? = some (parObj sv ov deep most)
  row : ∀ W, Below p w W → argRow W sv s.length 1 (s.map rCell)
  out : NOwn w (p + 1) ov Z
/-- No part of a node lies in a block of these. -/
def Free (X : Nat → Prop) (Z : List NdL) : Prop := ∀ z ∈ Z, ∀ k, z.2.1.ownBlock = some k ∨ z.2.2.ownBlock = some k → ¬ X k
theorem Free.sub {X Y : Nat → Prop} {Z : List NdL} (h : Free X Z) (hs : ∀ k, Y k → X k) : Free Y Z := fun z hz k hk hy => h z hz k hk (hs k hy)
def PS (X : Nat → Prop) (w : World) (p : Nat) (s : List Int) (L : List Nd) (deep most : Nat) : Prop := ∃ sv ov Z, PSt w p sv ov s Z deep most ∧ Z.map Prod.fst = L ∧ Free X Z
theorem PSt.lt {w : World} {p : Nat} {sv ov : Value} {s : List Int} {Z : List NdL} {deep most : Nat} (h : PSt w p sv ov s Z deep most) : p < w.heap.size := (Array.getElem?_eq_some_iff.1 h.own).1
theorem PS.lt {X : Nat → Prop} {w : World} {p : Nat} {s : List Int} {L : List Nd} {deep most : Nat} (h : PS X w p s L deep most) : p < w.heap.size := by
  obtain ⟨sv, ov, Z, h, _⟩ := h
  exact h.lt
theorem PSt.cells {w : World} {p : Nat} {sv ov : Value} {s : List Int} {Z : List NdL} {deep most : Nat} (h : PSt w p sv ov s Z deep most) :
    (w.cell? ⟨p, 0, none⟩ = some sv ∧ w.cell? ⟨p, 1, none⟩ = some ov ∧ w.cell? ⟨p, 2, none⟩ = some (.int .i64 (deep : Int)) ∧ w.cell? ⟨p, 3, none⟩ = some (.int .i64 (most : Int))) ∧
    w.frozen? ⟨p, 0, none⟩ = false ∧ w.frozen? ⟨p, 1, none⟩ = false ∧ w.frozen? ⟨p, 2, none⟩ = false ∧ w.frozen? ⟨p, 3, none⟩ = false :=
  ⟨⟨by rw [Lib.cell_of_heap h.own]; rfl, by rw [Lib.cell_of_heap h.own]; rfl, by rw [Lib.cell_of_heap h.own]; rfl, by rw [Lib.cell_of_heap h.own]; rfl⟩, Lib.frozen_of_heap h.own 0, Lib.frozen_of_heap h.own 1, Lib.frozen_of_heap h.own 2, Lib.frozen_of_heap h.own 3⟩
theorem PSt.mvdB {w w' : World} {p : Nat} {sv ov : Value} {s : List Int} {Z : List NdL} {deep most : Nat} (h : PSt w p sv ov s Z deep most) (hb : Below w.heap.size w w') : PSt w' p sv ov s Z deep most :=
  ⟨by rw [hb.block p h.lt]; exact h.own, fun W hW => h.row W ((hb.mono (Nat.le_of_lt h.lt)).trans hW), h.out.keptB hb⟩
theorem PS.mvdB {X : Nat → Prop} {w w' : World} {p : Nat} {s : List Int} {L : List Nd} {deep most : Nat} (h : PS X w p s L deep most) (hb : Below w.heap.size w w') : PS X w' p s L deep most := by
  obtain ⟨sv, ov, Z, h, hL⟩ := h
  exact ⟨sv, ov, Z, h.mvdB hb, hL⟩
theorem gset (w : World) (b j : Nat) (v : Value) : w.grownBy (w.setCell ⟨b, j, none⟩ v) (some b) :=
  ⟨rfl, rfl, rfl, by simp, fun k hk h => Below.heap_setCell _ _ _ _ (fun e => h (by rw [e]))⟩
/-- A cell of the parser turns. -/
theorem PSt.mvd_set {w : World} {p : Nat} {sv ov : Value} {s : List Int} {Z : List NdL} {deep most : Nat} (h : PSt w p sv ov s Z deep most) (j : Nat) (v : Value) : Mvd p w (w.setCell ⟨p, j, none⟩ v) :=
  Mvd.ofGrown (gset w p j v) (Nat.le_of_lt h.lt) (fun k hk => by cases hk; exact ⟨Nat.le_refl _, _, _, _, h.own, .inl rfl⟩)
theorem PSt.set {w w' : World} {p : Nat} {sv ov sv' : Value} {s s' : List Int} {Z : List NdL} {deep most deep' most' : Nat} (h : PSt w p sv ov s Z deep most) (hg : w.grownBy w' (some p)) (ho : w'.heap[p]? = some (parObj sv' ov deep' most'))
    (hr : ∀ W, Below p w' W → argRow W sv' s'.length 1 (s'.map rCell)) : PSt w' p sv' ov s' Z deep' most' :=
  ⟨ho, hr, h.out.kept hg (fun k hk => by cases hk; omega)⟩
theorem PS.sub {X Y : Nat → Prop} {w : World} {p : Nat} {s : List Int} {L : List Nd} {deep most : Nat} (h : PS X w p s L deep most) (hs : ∀ k, Y k → X k) : PS Y w p s L deep most := by
  obtain ⟨sv, ov, Z, h, hL, hf⟩ := h
  exact ⟨sv, ov, Z, h, hL, hf.sub hs⟩
/-- What panic hands on. -/
def faultV : Value := .iface 45 (.agg #[.int .i64 40])
def Fails (e : Ending) : Prop := e = .panicked [{ v := faultV, recovered := false }]
set_option maxRecDepth 100000 in
theorem par_must (p : Nat) (w : World) : Calls Tryd.prog 18 #[.pointer (some ⟨p, 0, none⟩), .bool true] w fun e w' => e = .returned (.tuple #[]) ∧ w = w' := by
  go_enter Tryd.func18, Tryd.ntmps18
  go_wp2
  go_end0
  exact ⟨rfl, rfl⟩
set_option maxRecDepth 100000 in
theorem par_mustnt (p : Nat) (w : World) : Calls Tryd.prog 18 #[.pointer (some ⟨p, 0, none⟩), .bool false] w fun e w' => Fails e ∧ w = w' := by
  go_enter Tryd.func18, Tryd.ntmps18
  go_wp2
  exact ⟨rfl, rfl, rfl⟩
end Go.Proofs.YthmhmckkkceclaaDoor
/-
  The program's parser: next, take, digit.
-/
namespace Go.Proofs.YthmhmckkkceclaaDoor
open Go.RowKit
theorem PSt.front {w : World} {p : Nat} {sv ov : Value} {c : Int} {s : List Int} {Z : List NdL} {deep most : Nat} (h : PSt w p sv ov (c :: s) Z deep most) :
    ∃ b off cap, sv = .slice (some ⟨b, off, none⟩) (s.length + 1) cap ∧ s.length + 1 ≤ cap ∧ cap ≤ maxLen ∧ w.cell? ⟨b, off, none⟩ = some (.int .i32 c) ∧
      ∀ a' c', s.length ≤ c' → c' ≤ cap → (0 < s.length → a' = some ⟨b, off + 1, none⟩) → ∀ W, Below p w W → argRow W (.slice a' s.length c') s.length 1 (s.map rCell) := by
  obtain ⟨hl, a, cap, e, h1, h2, hc⟩ := h.row w (Below.refl _ _)
  obtain ⟨b, off, rfl, hb, hcs⟩ := hc (by simp)
  have h0 := hcs 0 (by simp)
  refine ⟨b, off, cap, e, h1, h2, h0, fun a' c' g1 g2 ha W hW => ?_⟩
  have hr := h.row W hW
  rw [e] at hr
  have := argRow_drop (k := 1) (a' := a') (c' := c') hr (by simp) ⟨by simp; exact g1, g2⟩ (fun b' off' e' hlt => by
    cases e'
    rw [ha (by simp at hlt; omega)])
  simpa using this
theorem PSt.back {w : World} {p : Nat} {sv ov : Value} {Z : List NdL} {deep most : Nat} (h : PSt w p sv ov [] Z deep most) : ∃ a cap, sv = .slice a 0 cap := by
  obtain ⟨hl, a, cap, e, h1, h2, hc⟩ := h.row w (Below.refl _ _)
  exact ⟨a, cap, e⟩
/-- The front is taken. -/
theorem PSt.taken {w w' : World} {p : Nat} {ov sv' : Value} {c : Int} {s : List Int} {Z : List NdL} {deep most : Nat} {sv : Value} (h : PSt w p sv ov (c :: s) Z deep most) (e : w' = w.setCell ⟨p, 0, none⟩ sv')
    (hr : ∀ W, Below p w W → argRow W sv' s.length 1 (s.map rCell)) : PSt w' p sv' ov s Z deep most := by
  subst e
  refine h.set (gset w p 0 _) ?_ fun W hW => hr W (Below.trans (h.mvd_set 0 sv').low hW)
  rw [heap_setCell_same _ _ _ _ _ _ h.own]
  rfl
set_option maxRecDepth 100000 in
set_option maxHeartbeats 1000000 in
theorem par_next_no {X : Nat → Prop} (p : Nat) (w : World) (s : List Int) (L : List Nd) (deep most : Nat) (r : Int) (h : PS X w p s L deep most) (hn : nextP r s = none) :
    Calls Tryd.prog 25 #[.pointer (some ⟨p, 0, none⟩), .int .i32 r] w fun e w' => e = .returned (.bool false) ∧ w = w' := by
  obtain ⟨sv, ov, Z, h, -⟩ := h
  obtain ⟨⟨c0, -, -, -⟩, f0, -, -, -⟩ := h.cells
  cases s with
  | nil =>
    obtain ⟨a, cap, rfl⟩ := h.back
    clear h hn
    go_enter Tryd.func25, Tryd.ntmps25
    go_wp2
    go_ret
    exact ⟨rfl, rfl⟩
  | cons c s =>
    obtain ⟨b, off, cap, rfl, h1, h2, hc, -⟩ := h.front
    have hne : (c != r) = true := by
      simp only [nextP] at hn
      split at hn
      · cases hn
      · rename_i hh
        simpa using hh
    have hl : ((s.length + 1 : Nat) : Int) ≠ 0 := by omega
    have hl2 : (((s.length : Int) + 1) == 0) = false := by simp; omega
    clear h hn
    generalize s.length = n at *
    go_enter Tryd.func25, Tryd.ntmps25
    go_wp2
    go_ret
    exact ⟨rfl, rfl⟩
/-- The parser with the nodes that it has. -/
def PSo (ov : Value) (Z : List NdL) (w : World) (p : Nat) (s : List Int) (deep most : Nat) : Prop := ∃ sv, PSt w p sv ov s Z deep most
theorem PSo.ps {X : Nat → Prop} {ov : Value} {Z : List NdL} {w : World} {p : Nat} {s : List Int} {deep most : Nat} (h : PSo ov Z w p s deep most) (hf : Free X Z) : PS X w p s (Z.map Prod.fst) deep most := by
  obtain ⟨sv, h⟩ := h
  exact ⟨sv, ov, Z, h, rfl, hf⟩
theorem PSo.lt {ov : Value} {Z : List NdL} {w : World} {p : Nat} {s : List Int} {deep most : Nat} (h : PSo ov Z w p s deep most) : p < w.heap.size := by
  obtain ⟨sv, h⟩ := h
  exact h.lt
theorem PSo.mvd {ov : Value} {Z : List NdL} {w w' : World} {p : Nat} {s : List Int} {deep most : Nat} (h : PSo ov Z w p s deep most) (hg : w.grownBy w' (some p)) : Mvd p w w' := by
  obtain ⟨sv, h⟩ := h
  exact Mvd.ofGrown hg (Nat.le_of_lt h.lt) (fun k hk => by cases hk; exact ⟨Nat.le_refl _, _, _, _, h.own, .inl rfl⟩)
theorem PSo.keptB {ov : Value} {Z : List NdL} {w w' : World} {p : Nat} {s : List Int} {deep most : Nat} (h : PSo ov Z w p s deep most) (hb : Below w.heap.size w w') : PSo ov Z w' p s deep most := by
  obtain ⟨sv, h⟩ := h
  exact ⟨sv, h.mvdB hb⟩
/-- The state behind a rune that was taken. -/
theorem PSt.next {w w' : World} {p : Nat} {ov : Value} {c : Int} {s : List Int} {Z : List NdL} {deep most b off cap : Nat} (h : PSt w p (.slice (some ⟨b, off, none⟩) (s.length + 1) cap) ov (c :: s) Z deep most)
    (hd : ∀ a' c', s.length ≤ c' → c' ≤ cap → (0 < s.length → a' = some ⟨b, off + 1, none⟩) → ∀ W, Below p w W → argRow W (.slice a' s.length c') s.length 1 (s.map rCell))
    (a' : Option Addr) (c' : Nat) (h1 : s.length ≤ c') (h2 : c' ≤ cap) (ha : 0 < s.length → a' = some ⟨b, off + 1, none⟩) (e : w' = w.setCell ⟨p, 0, none⟩ (.slice a' s.length c')) :
    PSo ov Z w' p s deep most ∧ w.grownBy w' (some p) := by
  subst e
  exact ⟨⟨_, h.taken rfl (hd a' c' h1 h2 ha)⟩, gset w p 0 _⟩
set_option maxRecDepth 100000 in
set_option maxHeartbeats 1000000 in
theorem par_next_yesO (p : Nat) (w : World) (ov : Value) (Z : List NdL) (s : List Int) (deep most : Nat) (c : Int) (h : PSo ov Z w p (c :: s) deep most) :
    Calls Tryd.prog 25 #[.pointer (some ⟨p, 0, none⟩), .int .i32 c] w fun e w' => e = .returned (.bool true) ∧ PSo ov Z w' p s deep most ∧ w.grownBy w' (some p) := by
  obtain ⟨sv, h⟩ := h
  obtain ⟨⟨c0, -, -, -⟩, f0, -, -, -⟩ := h.cells
  obtain ⟨b, off, cap, rfl, h1, h2, hc, hd⟩ := h.front
  have hne : (c != c) = false := by simp
  have hl2 : (((s.length : Int) + 1) == 0) = false := by simp; omega
  have HN := Lib.hid (fun a' c' g1 g2 g3 w' e => h.next (w' := w') hd a' c' g1 g2 g3 e)
  unfold maxLen at h2
  clear h hd
  obtain ⟨n, hn⟩ : ∃ n, s.length = n := ⟨_, rfl⟩
  rw [hn] at HN c0 h1 hl2
  clear hn
  by_cases hcap : cap = 1
  · subst hcap
    obtain rfl : n = 0 := by omega
    go_enter Tryd.func25, Tryd.ntmps25
    go_wp2
    go_ret
    exact ⟨rfl, HN.out _ 0 (by omega) (by omega) (by omega) _ rfl⟩
  · have hcap2 : 1 < cap := by omega
    go_enter Tryd.func25, Tryd.ntmps25
    go_wp2
    go_ret
    exact ⟨rfl, HN.out _ (cap - 1) (by omega) (by omega) (fun _ => rfl) _ rfl⟩
theorem par_next_yes {X : Nat → Prop} (p : Nat) (w : World) (s : List Int) (L : List Nd) (deep most : Nat) (c : Int) (h : PS X w p (c :: s) L deep most) :
    Calls Tryd.prog 25 #[.pointer (some ⟨p, 0, none⟩), .int .i32 c] w fun e w' => e = .returned (.bool true) ∧ PS X w' p s L deep most ∧ Mvd p w w' := by
  obtain ⟨sv, ov, Z, h, rfl, hf⟩ := h
  exact (par_next_yesO p w ov Z s deep most c ⟨sv, h⟩).mono fun e w' ⟨h1, h2, h3⟩ => ⟨h1, h2.ps hf, PSo.mvd ⟨sv, h⟩ h3⟩
def Fell (p : Nat) (w : World) (e : Ending) (w' : World) : Prop := Fails e ∧ Below p w w'
theorem Fell.after {p : Nat} {w w1 w2 : World} {e : Ending} (h : Fell p w1 e w2) (hb : Below p w w1) : Fell p w e w2 := ⟨h.1, hb.trans h.2⟩
set_option maxRecDepth 100000 in
set_option maxHeartbeats 1000000 in
theorem par_take_none {X : Nat → Prop} (p : Nat) (w : World) (L : List Nd) (deep most : Nat) (h : PS X w p [] L deep most) :
    Calls Tryd.prog 40 #[.pointer (some ⟨p, 0, none⟩)] w (Fell p w) := by
  obtain ⟨sv, ov, Z, h, -⟩ := h
  obtain ⟨⟨c0, -, -, -⟩, f0, -, -, -⟩ := h.cells
  obtain ⟨a, cap, rfl⟩ := h.back
  clear h
  go_enter Tryd.func40, Tryd.ntmps40
  go_wp2_with (go_at_call 18; refine (par_mustnt p _).mono ?_; rintro e w' ⟨rfl, rfl⟩)
  exact ⟨rfl, rfl, Below.refl _ _⟩
set_option maxRecDepth 100000 in
set_option maxHeartbeats 1000000 in
theorem par_takeO (p : Nat) (w : World) (ov : Value) (Z : List NdL) (c : Int) (s : List Int) (deep most : Nat) (h : PSo ov Z w p (c :: s) deep most) :
    Calls Tryd.prog 40 #[.pointer (some ⟨p, 0, none⟩)] w fun e w' => e = .returned (.int .i32 c) ∧ PSo ov Z w' p s deep most ∧ w.grownBy w' (some p) := by
  obtain ⟨sv, h⟩ := h
  obtain ⟨⟨c0, -, -, -⟩, f0, -, -, -⟩ := h.cells
  obtain ⟨b, off, cap, rfl, h1, h2, hc, hd⟩ := h.front
  have hl2 : decide (0 < (s.length : Int) + 1) = true := decide_eq_true (by omega)
  have HN := Lib.hid (fun a' c' g1 g2 g3 w' e => h.next (w' := w') hd a' c' g1 g2 g3 e)
  unfold maxLen at h2
  clear h hd
  obtain ⟨n, hn⟩ : ∃ n, s.length = n := ⟨_, rfl⟩
  rw [hn] at HN c0 h1 hl2
  clear hn
  by_cases hcap : cap = 1
  · subst hcap
    obtain rfl : n = 0 := by omega
    go_enter Tryd.func40, Tryd.ntmps40
    go_wp2_with (go_at_call 18; refine (par_must p _).mono ?_; rintro e w' ⟨rfl, rfl⟩)
    go_ret
    exact ⟨rfl, HN.out _ 0 (by omega) (by omega) (by omega) _ rfl⟩
  · have hcap2 : 1 < cap := by omega
    go_enter Tryd.func40, Tryd.ntmps40
    go_wp2_with (go_at_call 18; refine (par_must p _).mono ?_; rintro e w' ⟨rfl, rfl⟩)
    go_ret
    exact ⟨rfl, HN.out _ (cap - 1) (by omega) (by omega) (fun _ => rfl) _ rfl⟩
theorem par_take {X : Nat → Prop} (p : Nat) (w : World) (c : Int) (s : List Int) (L : List Nd) (deep most : Nat) (h : PS X w p (c :: s) L deep most) :
    Calls Tryd.prog 40 #[.pointer (some ⟨p, 0, none⟩)] w fun e w' => e = .returned (.int .i32 c) ∧ PS X w' p s L deep most ∧ Mvd p w w' := by
  obtain ⟨sv, ov, Z, h, rfl, hf⟩ := h
  exact (par_takeO p w ov Z c s deep most ⟨sv, h⟩).mono fun e w' ⟨h1, h2, h3⟩ => ⟨h1, h2.ps hf, PSo.mvd ⟨sv, h⟩ h3⟩
/-- What a reading of a number leaves. -/
def DigEnd (X : Nat → Prop) (p : Nat) (w : World) (L : List Nd) (deep most : Nat) : Res Int → Ending → World → Prop
  | none, e, w' => Fell p w e w'
  | some (d, r), e, w' => e = .returned (.int .i64 d) ∧ PS X w' p r L deep most ∧ Mvd p w w'
set_option maxRecDepth 100000 in
set_option maxHeartbeats 1000000 in
theorem par_digit {X : Nat → Prop} (p : Nat) (w : World) (s : List Int) (L : List Nd) (deep most : Nat) (hs : Runes s) (h : PS X w p s L deep most) :
    Calls Tryd.prog 37 #[.pointer (some ⟨p, 0, none⟩)] w (DigEnd X p w L deep most (digP s)) := by
  cases s with
  | nil =>
    show Calls _ _ _ _ (Fell p w)
    have C := par_take_none p w L deep most h
    clear h hs
    go_enter Tryd.func37, Tryd.ntmps37
    go_wp2_with (go_at_call 40; refine C.mono ?_; rintro e w' ⟨rfl, hb⟩)
    exact ⟨rfl, rfl, hb⟩
  | cons c s =>
    have hc := hs c (by simp)
    have C := par_take p w c s L deep most h
    by_cases hd : 48 ≤ c ∧ c ≤ 56
    · have e : digP (c :: s) = some (c - 48, s) := by simp only [digP]; rw [if_pos hd]
      rw [e]
      show Calls _ _ _ _ fun e w' => e = .returned (.int .i64 (c - 48)) ∧ PS X w' p s L deep most ∧ Mvd p w w'
      have h1 : decide (48 ≤ c) = true := by simp [hd.1]
      have h2 : decide (c ≤ 56) = true := by simp [hd.2]
      have h3 := hd.1
      have h4 := hd.2
      clear h hs hd e
      go_enter Tryd.func37, Tryd.ntmps37
      go_wp2_with (first | (go_at_call 40; refine C.mono ?_; rintro e w' ⟨rfl, hp, hm⟩; have HP := Lib.hid hp; clear hp) | (go_at_call 18; refine (par_must p _).mono ?_; rintro e w' ⟨rfl, rfl⟩))
      go_ret
      exact ⟨rfl, HP.out, hm⟩
    · have e : digP (c :: s) = none := by simp only [digP]; rw [if_neg hd]
      rw [e]
      show Calls _ _ _ _ (Fell p w)
      by_cases h1 : 48 ≤ c
      · have h2 : decide (48 ≤ c) = true := by simp [h1]
        have h3 : decide (c ≤ 56) = false := by simp; omega
        clear h hs hd e
        go_enter Tryd.func37, Tryd.ntmps37
        go_wp2_with (first | (go_at_call 40; refine C.mono ?_; rintro e w' ⟨rfl, hp, hm⟩; have HP := Lib.hid hp; clear hp) | (go_at_call 18; refine (par_mustnt p _).mono ?_; rintro e w' ⟨rfl, rfl⟩))
        exact ⟨rfl, rfl, hm.low⟩
      · have h2 : decide (48 ≤ c) = false := by simp; omega
        clear h hs hd e
        go_enter Tryd.func37, Tryd.ntmps37
        go_wp2_with (first | (go_at_call 40; refine C.mono ?_; rintro e w' ⟨rfl, hp, hm⟩; have HP := Lib.hid hp; clear hp) | (go_at_call 18; refine (par_mustnt p _).mono ?_; rintro e w' ⟨rfl, rfl⟩))
        exact ⟨rfl, rfl, hm.low⟩
theorem quiet_add_same {P : Program} {f : FuncId} {args : Array Value} {w : World} {a n : Nat} {v : Value}
    (h : Calls P f args (w.drewN (a + n)) fun e w' => e = .returned v ∧ w' = w.drewN (a + n)) :
    Calls P f args (w.drewN (a + n)) fun e w'' => e = .returned v ∧ ∃ m, w'' = w.drewN (a + m) :=
  h.mono fun _ _ ⟨he, hm⟩ => ⟨he, n, hm⟩
theorem below_dN {B : Nat} {w w' : World} (h : Below B w w') (n : Nat) : Below B w (w'.drewN n) := ⟨h.os, h.tape, h.output, h.size, h.block⟩
end Go.Proofs.YthmhmckkkceclaaDoor
/-
  The program's parser: node, many.
-/
namespace Go.Proofs.YthmhmckkkceclaaDoor
open Go.RowKit
theorem ENd : ElemT Tryd.prog 23 33 (.agg #[.int .i64 0, .slice none 0 0, .int .i64 0, .int .i64 0, .slice none 0 0]) 5 72 := ⟨Tryd.underlying23, by kernel_rfl, rfl, by decide⟩
theorem NdAt.keptB {w w' : World} {B : Nat} {z : NdL} (h : NdAt w B z) (hb : Below w.heap.size w w') : NdAt w' B z := ⟨owns_below h.1 hb, owns_below h.2 hb⟩
theorem cellX {w : World} {g : Nat} {cur : Array Value} {e : TypeId} {j : Nat} {v : Value} (hg : w.heap[g]? = some (.cells cur e (0, 0))) (h : cur[j]? = some v) : w.cell? ⟨g, j, none⟩ = some v := by
  rw [Lib.cell_of_heap hg]
  exact h
theorem belowA' {B : Nat} {w w' : World} {o : Obj} (h : Below B w w') (hB : B ≤ w'.heap.size) : Below B w (w'.alloc o) := h.alloc hB o
/-- The state behind a node more. -/
theorem PSt.noded {X : Nat → Prop} {w w1 w2 w' : World} {p : Nat} {sv ov ov' : Value} {s : List Int} {Z : List NdL} {z : NdL} {deep most : Nat} (h : PSt w p sv ov s Z deep most) (hz : NdAt w (p + 1) z) (hf : Free X Z) (hzf : ∀ k, z.2.1.ownBlock = some k ∨ z.2.2.ownBlock = some k → ¬ X k) (hb : Below w.heap.size w w1)
    (ho : w2.ownsRow (p + 1) 33 5 ov' (Z.length + 1) (ndsCells Z ++ ndCells z)) (hg : w1.grownBy w2 ov.ownBlock) (e : w' = w2.setCell ⟨p, 1, none⟩ ov') :
    PS X w' p s (Z.map Prod.fst ++ [z.1]) deep most ∧ Mvd p w w' := by
  subst e
  have h1 := h.mvdB hb
  have hpl := h1.lt
  have hne : ov.ownBlock ≠ some p := fun e => by have := (h1.out.own.lt p e).1; omega
  have hm1 : Mvd p w1 w2 := Mvd.ofGrown hg (Nat.le_of_lt hpl) fun k hk => by
    rcases h1.out.own.2 with ⟨rfl, _⟩ | ⟨g, cap, cur, rfl, hB, hgg, _⟩
    · cases hk
    · have : g = k := Option.some.inj hk
      subst this
      exact ⟨by omega, _, _, _, hgg, .inr (.inr rfl)⟩
  have hown2 : w2.heap[p]? = some (parObj sv ov deep most) := by rw [hg.block p hpl (fun e => hne e.symm)]; exact h1.own
  have hm2 : Mvd p w2 (w2.setCell ⟨p, 1, none⟩ ov') := Mvd.ofGrown (gset w2 p 1 ov') (by have := hg.size; omega) (fun k hk => by cases hk; exact ⟨Nat.le_refl _, _, _, _, hown2, .inl rfl⟩)
  refine ⟨⟨sv, ov', Z ++ [z], ⟨?_, fun W hW => h1.row W ((hm1.low.trans hm2.low).trans hW), ?_⟩, by simp, fun y hy k hk => by
    rcases List.mem_append.1 hy with hy | hy
    · exact hf y hy k hk
    · rw [List.mem_singleton.1 hy] at hk
      exact hzf k hk⟩, ((Mvd.ofBelow hb (Nat.le_of_lt h.lt)).trans hm1).trans hm2⟩
  · rw [heap_setCell_same _ _ _ _ _ _ hown2]
    rfl
  · have := h1.out.more (hz.keptB hb) hg ho
    exact this.kept (gset w2 p 1 ov') (fun k hk => by cases hk; omega)
theorem PSt.grown {w w1 w2 : World} {p : Nat} {sv ov : Value} {s : List Int} {Z : List NdL} {deep most : Nat} (h : PSt w p sv ov s Z deep most) (hb : Below w.heap.size w w1) (hg : w1.grownBy w2 ov.ownBlock) :
    w2.cell? ⟨p, 1, none⟩ = some ov ∧ w2.frozen? ⟨p, 1, none⟩ = false := by
  have h1 := h.mvdB hb
  have hne : ov.ownBlock ≠ some p := fun e => by have := (h1.out.own.lt p e).1; omega
  have hown2 : w2.heap[p]? = some (parObj sv ov deep most) := by rw [hg.block p h1.lt (fun e => hne e.symm)]; exact h1.own
  exact ⟨by rw [Lib.cell_of_heap hown2]; rfl, Lib.frozen_of_heap hown2 1⟩
set_option maxRecDepth 100000 in
set_option maxHeartbeats 4000000 in
theorem par_node {X : Nat → Prop} (p : Nat) (w : World) (s : List Int) (L : List Nd) (deep most : Nat) (h : PS X w p s L deep most) (n : Nd) (kv tv : Value) (hz : NdAt w (p + 1) (n, kv, tv)) (hzf : ∀ k, kv.ownBlock = some k ∨ tv.ownBlock = some k → ¬ X k) (hL : L.length ≤ 100000) :
    Calls Tryd.prog 33 #[.pointer (some ⟨p, 0, none⟩), .agg #[.int .i64 n.kind, kv, .int .i64 n.lo, .int .i64 n.hi, tv]] w fun e w' => e = .returned (.int .i64 (L.length : Int)) ∧ PS X w' p s (L ++ [n]) deep most ∧ Mvd p w w' := by
  obtain ⟨sv, ov, Z, h, rfl, hf⟩ := h
  have hzl : (Z.map Prod.fst).length = Z.length := List.length_map _
  rw [hzl] at hL ⊢
  have hpl := h.lt
  obtain ⟨⟨-, c1, -, -⟩, -, f1, -, -⟩ := h.cells
  have hcell : ∀ W, Below w.heap.size w W → W.cell? ⟨p, 1, none⟩ = some ov ∧ W.frozen? ⟨p, 1, none⟩ = false := fun W hW => ⟨(h.mvdB hW).cells.1.2.1, (h.mvdB hW).cells.2.2.1⟩
  have HOWN := Lib.hid (fun W (hW : Below w.heap.size w W) => (h.out.keptB hW).own)
  have HGR := Lib.hid (fun w1 w2 (hb : Below w.heap.size w w1) hg => h.grown (w1 := w1) (w2 := w2) hb hg)
  have HEND := Lib.hid (fun w1 w2 w' ov' hb ho hg e => h.noded (w1 := w1) (w2 := w2) (w' := w') (ov' := ov') hz hf hzf hb ho hg e)
  obtain ⟨oa, oc, rfl⟩ := owns_slice h.out.own
  obtain ⟨ka, kc, rfl⟩ : ∃ a c, kv = .slice a n.kids.length c := owns_slice hz.1
  obtain ⟨ta, tc, rfl⟩ : ∃ a c, tv = .slice a n.set.length c := owns_slice hz.2
  clear h hz hzl hf hzf
  obtain ⟨m, hm⟩ : ∃ m, Z.length = m := ⟨_, rfl⟩
  rw [hm] at HOWN HGR HEND c1 hL hcell ⊢
  clear hm
  go_enter Tryd.func33, Tryd.ntmps33
  go_upto_region 1 with fail
  have hb1 := belowA' (o := .cells #[.int .i64 n.kind, .slice ka n.kids.length kc, .int .i64 n.lo, .int .i64 n.hi, .slice ta n.set.length tc] 33) (Below.refl w.heap.size w) (Nat.le_refl _)
  have hx := heap_alloc_new w (.cells #[.int .i64 n.kind, .slice ka n.kids.length kc, .int .i64 n.lo, .int .i64 n.hi, .slice ta n.set.length tc] 33)
  have e0 := cellX hx (j := 0) rfl
  have e1 := cellX hx (j := 1) rfl
  have e2 := cellX hx (j := 2) rfl
  have e3 := cellX hx (j := 3) rfl
  have e4 := cellX hx (j := 4) rfl
  have hsz : w.heap.size < (w.alloc (.cells #[.int .i64 n.kind, .slice ka n.kids.length kc, .int .i64 n.lo, .int .i64 n.hi, .slice ta n.set.length tc] 33)).heap.size := by simp
  clear hx
  generalize w.alloc (.cells #[.int .i64 n.kind, .slice ka n.kids.length kc, .int .i64 n.lo, .int .i64 n.hi, .slice ta n.set.length tc] 33) = wx at *
  have hcx := hcell wx hb1
  obtain ⟨hcx1, hcx2⟩ := hcx
  obtain ⟨hcy1, hcy2⟩ := hcell _ (belowA' (o := .cells #[.int .i64 n.kind, .slice ka n.kids.length kc, .int .i64 n.lo, .int .i64 n.hi, .slice ta n.set.length tc] 33) hb1 hb1.size)
  clear hcell
  go_region_law (go_loud (refine step_append_src rfl (.tmp 9) (.tmp 11) _ _ (by rfl) (p + 1) ENd _ m (ndsCells Z) rfl (by exact HOWN.out _ (by (repeat (first | assumption | with_reducible exact Below.refl _ _ | (with_reducible refine belowA' ?_ (by have := hb1.size; simp; omega)) | with_reducible refine Below.drew ?_)); done)) _ 1 [.int .i64 n.kind, .slice ka n.kids.length kc, .int .i64 n.lo, .int .i64 n.hi, .slice ta n.set.length tc] rfl (by first | exact src_last (cs := #[.int .i64 n.kind, .slice ka n.kids.length kc, .int .i64 n.lo, .int .i64 n.hi, .slice ta n.set.length tc]) Tryd.underlying23 1 1 5 rfl rfl (by simp [Value.oneCell']) | (exact src_new (cs := #[.int .i64 n.kind, .slice ka n.kids.length kc, .int .i64 n.lo, .int .i64 n.hi, .slice ta n.set.length tc]) (t := 33) (fr := (0, 0)) Tryd.underlying23 1 1 5 (by exact heap_alloc_new wx _) rfl (by simp [Value.oneCell']))) (by unfold maxLen; omega) (by omega) (by have := hb1.size; simp; omega) ?_; intro v9 w9 hown9 hgr9 _ _; obtain ⟨va, vc, rfl⟩ := owns_slice hown9; obtain ⟨y1, y2⟩ := HGR.out _ _ (by (repeat (first | assumption | with_reducible exact Below.refl _ _ | (with_reducible refine belowA' ?_ (by have := hb1.size; simp; omega)) | with_reducible refine Below.drew ?_)); done) hgr9))
  all_goals
    go_wp2
    go_ret
    exact ⟨by first | rfl | simp, HEND.out _ _ _ _ (by (repeat (first | assumption | with_reducible exact Below.refl _ _ | (with_reducible refine belowA' ?_ (by have := hb1.size; simp; omega)) | with_reducible refine Below.drew ?_)); done) hown9 hgr9 rfl⟩
set_option maxRecDepth 100000 in
set_option maxHeartbeats 1000000 in
theorem par_many_one (p : Nat) (w : World) (B : Nat) (kind : Int) (v : Value) (k : Nat) (hv : w.ownsRow B 3 1 v 1 [iCell k]) :
    Calls Tryd.prog 26 #[.pointer (some ⟨p, 0, none⟩), .int .i64 kind, v] w fun e w' => e = .returned (iCell k) ∧ w = w' := by
  obtain ⟨g, c, rfl, hB, hgl, hc⟩ : ∃ g c, v = .slice (some ⟨g, 0, none⟩) 1 c ∧ B ≤ g ∧ g < w.heap.size ∧ w.cell? ⟨g, 0, none⟩ = some (iCell k) := by
    rcases hv.2 with ⟨_, h⟩ | ⟨g, cap, cur, rfl, hB, hg, h1, h2, h3, h4⟩
    · cases h
    · refine ⟨g, cap, rfl, hB, (Array.getElem?_eq_some_iff.1 hg).1, ?_⟩
      have := hv.cells (g := g) rfl 0 (iCell k) rfl
      rw [Go.WideShapes.add_plain] at this
      exact this
  unfold iCell at *
  clear hv
  go_enter Tryd.func26, Tryd.ntmps26
  go_wp2
  go_ret
  exact ⟨rfl, rfl⟩
set_option maxRecDepth 100000 in
set_option maxHeartbeats 1000000 in
theorem par_many {X : Nat → Prop} (p : Nat) (w : World) (s : List Int) (L : List Nd) (deep most : Nat) (h : PS X w p s L deep most) (kind : Int) (v : Value) (ks : List Nat) (hk : ks.length ≠ 1) (hv : w.ownsRow (p + 1) 3 1 v ks.length (ks.map iCell)) (hvf : ∀ k, v.ownBlock = some k → ¬ X k) (hL : L.length ≤ 100000) :
    Calls Tryd.prog 26 #[.pointer (some ⟨p, 0, none⟩), .int .i64 kind, v] w fun e w' => e = .returned (.int .i64 (L.length : Int)) ∧ PS X w' p s (L ++ [⟨kind, ks, 0, 0, []⟩]) deep most ∧ Mvd p w w' := by
  have C := par_node p w s L deep most h ⟨kind, ks, 0, 0, []⟩ v (.slice none 0 0) ⟨hv, World.ownsRow_nil _ _ _ _⟩ (fun k hk => hk.elim (hvf k) (fun h => by cases h)) hL
  obtain ⟨a, c, rfl⟩ := owns_slice hv
  have hk' : ((ks.length : Int) == 1) = false := by simp; omega
  clear h hv hk hvf
  obtain ⟨n, hn⟩ : ∃ n, ks.length = n := ⟨_, rfl⟩
  rw [hn] at C hk' ⊢
  clear hn
  simp only at C
  go_enter Tryd.func26, Tryd.ntmps26
  go_wp2_with (go_at_call 33; refine C.mono ?_; rintro e w' ⟨rfl, hp, hm⟩; have HP := Lib.hid hp; clear hp)
  go_ret
  exact ⟨rfl, HP.out, hm⟩
end Go.Proofs.YthmhmckkkceclaaDoor
/-
  Classes, plainly: some of one read.
-/
namespace Go.Proofs.YthmhmckkkceclaaDoor
open Go.RowKit
/-- Runes of a text that is valid. -/
def Scal (s : List Int) : Prop := ∀ c ∈ s, ∃ r : Nat, scalar r ∧ c = (r : Int)
theorem Scal.runes {s : List Int} (h : Scal s) : Runes s := fun c hc => by
  obtain ⟨r, hr, rfl⟩ := h c hc
  unfold scalar at hr
  omega
theorem Scal.suf {s r : List Int} (hs : Scal s) (h : r <:+ s) : Scal r := fun c hc => hs c (h.mem hc)
theorem Scal.tail {c : Int} {s : List Int} (hs : Scal (c :: s)) : Scal s := fun x hx => hs x (by simp [hx])
def specialT : ByteArray := ⟨#[92, 40, 41, 91, 93, 123, 125, 42, 43, 63, 124, 46, 94, 36]⟩
def specialT2 : ByteArray := ⟨#[92, 40, 41, 91, 93, 123, 125, 42, 43, 63, 124, 46, 94, 36, 45]⟩
def memberT : ByteArray := ⟨#[91, 93, 94, 45]⟩
theorem still_of_quiet {P : Program} {ops : Array Oper} {w1 : World} {Q : Act → Prop} : ∀ (l : List Oper) (a : Act), wpQuiet P ops (fun w' => w' = w1) Q l a → wpStill P ops w1 Q l a
  | [], _, h => h
  | o :: l, a, h => by
    unfold wpQuiet at h
    unfold wpStill
    split at h
    · rename_i hw
      rw [if_pos hw]
      obtain ⟨v, hv, hn⟩ := h
      have h1 := hv w1 rfl
      unfold Oper.quietAt at h1
      unfold Oper.still
      have h2 := still_of_quiet l _ hn
      generalize (execOp a.eval o).run P w1 = r at h1
      cases r with
      | halt x w' => exact h1.elim
      | ok nx w' =>
        cases nx with
        | value u =>
          obtain ⟨e1, e2⟩ := h1
          subst e2
          exact ⟨e1, h2⟩
        | skip =>
          obtain ⟨e1, e2⟩ := h1
          subst e2
          exact ⟨e1, h2⟩
        | enter f args =>
          obtain ⟨e1, hc⟩ := h1
          subst e1
          exact ⟨rfl, v, hc, h2⟩
        | _ => exact h1.elim
    · rename_i hw
      rw [if_neg hw]
      exact still_of_quiet l _ h
/-- A region that reads, whatever the order, ahead of a tail in one order. -/
theorem wp_region_quiet_tail {P : Program} {id : Nat} {Q : Exit → Act → World → Prop} {a : Act} {w : World} {l : List Oper} (n : Nat) (hm : P.follows .mixedOrders = true) (hB : Region.lexTailB .any l.toArray n = true)
    (h : wpQuiet P l.toArray (fun w' => w' = w.drew) (fun a' => wpList P l.toArray Q (l.drop n) a' w.drew) (l.take n) a) : (Code.region id l.toArray true).wp P Q a w :=
  wp_region_still_tail n hm hB (still_of_quiet _ _ h)
/-- A class, some of it read. -/
def clsAt (b : Bool) (k : Nat) (acc r : List Int) : Res (List Int) :=
  match (if b then nextP 93 r else none) with
  | some r1 => some (acc, r1)
  | none =>
    match clsL k r with
    | none => none
    | some (t, r2) => some (acc ++ t, r2)
theorem clsAt_start (k : Nat) (r : List Int) : clsAt false k [] r = clsL k r := by
  unfold clsAt
  simp only [Bool.false_eq_true, if_false]
  cases clsL k r with
  | none => rfl
  | some x => rfl
theorem clsAt_done {k : Nat} {acc r r1 : List Int} (h : nextP 93 r = some r1) : clsAt true k acc r = some (acc, r1) := by
  unfold clsAt
  rw [if_pos rfl, h]
theorem clsL_succ (k : Nat) (s : List Int) : clsL (k + 1) s = match rngP s with
    | none => none
    | some (m, r) => match nextP 93 r with
      | some r1 => some (m, r1)
      | none => match clsL k r with
        | none => none
        | some (t, r2) => some (m ++ t, r2) := rfl
theorem clsAt_body {b : Bool} {k : Nat} {acc r : List Int} (h : b = true → nextP 93 r = none) : clsAt b (k + 1) acc r = match rngP r with
    | none => none
    | some (m, r1) => clsAt true k (acc ++ m) r1 := by
  have e : (if b then nextP 93 r else none) = none := by
    cases b
    · rfl
    · exact h rfl
  unfold clsAt
  rw [e]
  simp only
  rw [clsL_succ]
  cases rngP r with
  | none => rfl
  | some x =>
    obtain ⟨m, r1⟩ := x
    simp only [if_pos]
    cases nextP 93 r1 with
    | some r2 => rfl
    | none =>
      simp only
      cases clsL k r1 with
      | none => rfl
      | some y => simp
theorem esc_len {s t r : List Int} (h : escP s = some (t, r)) : t.length ≤ 8 := by
  cases s with
  | nil => cases h
  | cons c s =>
    simp only [escP] at h
    repeat' split at h
    all_goals first | (cases h; done) | (cases h; first | decide | (show 2 ≤ 8; decide))
theorem mem_len {s t r : List Int} (h : memP s = some (t, r)) : t.length ≤ 8 := by
  cases s with
  | nil => cases h
  | cons c s =>
    simp only [memP] at h
    repeat' split at h
    · exact esc_len h
    · cases h
    · cases h
      show 2 ≤ 8
      decide
theorem span_some {m t u : List Int} (h : spanP m t = some u) : ∃ a b, m = [a, a] ∧ t = [b, b] ∧ a ≤ b ∧ u = [a, b] := by
  unfold spanP at h
  split at h
  · cases h
  · rename_i a ea
    split at h
    · cases h
    · rename_i b eb
      split at h
      · rename_i hab
        cases h
        have key : ∀ (l : List Int) (x : Int), oneOf l = some x → l = [x, x] := by
          intro l x hl
          match l, hl with
          | [y, z], hl =>
            have hl' : (if y = z then some y else none) = some x := hl
            split at hl'
            · rename_i e
              cases hl'
              rw [e]
            · cases hl'
        exact ⟨a, b, key _ _ ea, key _ _ eb, hab, rfl⟩
      · cases h
theorem span_none {m t : List Int} (h : spanP m t = none) : m.length ≠ 2 ∨ ∃ m0 m1, m = [m0, m1] ∧ (t.length ≠ 2 ∨ ∃ t0 t1, t = [t0, t1] ∧ (m0 ≠ m1 ∨ (m0 = m1 ∧ (t0 ≠ t1 ∨ (t0 = t1 ∧ t0 < m0))))) := by
  match m, t, h with
  | [m0, m1], [t0, t1], h =>
    refine .inr ⟨m0, m1, rfl, .inr ⟨t0, t1, rfl, ?_⟩⟩
    by_cases h1 : m0 = m1
    · refine .inr ⟨h1, ?_⟩
      by_cases h2 : t0 = t1
      · refine .inr ⟨h2, ?_⟩
        unfold spanP at h
        simp [oneOf, h1, h2] at h
        omega
      · exact .inl h2
    · exact .inl h1
  | [], _, _ => exact .inl (by decide)
  | [_], _, _ => exact .inl (by show 1 ≠ 2; decide)
  | _ :: _ :: _ :: _, _, _ => exact .inl (by simp)
  | [m0, m1], [], _ => exact .inr ⟨m0, m1, rfl, .inl (by decide)⟩
  | [m0, m1], [_], _ => exact .inr ⟨m0, m1, rfl, .inl (by show 1 ≠ 2; decide)⟩
  | [m0, m1], _ :: _ :: _ :: _, _ => exact .inr ⟨m0, m1, rfl, .inl (by simp)⟩
def clsF (no : Bool) : Res (List Int) → Res Frag
  | none => none
  | some (t, r) => some (leaf 2 (cleanP t no), r)
theorem setF_cls (no : Bool) (s : List Int) : setF (clsN no s) = clsF no (clsL (s.length + 1) s) := by
  unfold clsN
  cases clsL (s.length + 1) s <;> rfl
theorem others_clean2 {Q : List Pr} (hQ : Prs Q) : ∃ P, cleanP (flat Q) false = flat P ∧ Prs P ∧ othL 0 [] (flat P) = cleanP (flat Q) true := by
  obtain ⟨P, e, h1, h2⟩ := clean_canon hQ false
  obtain ⟨P', e', h1', h2'⟩ := clean_canon hQ true
  obtain ⟨A, e1, h3, _, h4⟩ := oth_canon P [] 0 h1 Canon.nil (by omega) (fun p hp => (h1.prs p hp).1) (by simp) (fun p hp => .inl rfl)
  have e2 : othL 0 [] (flat P) = flat A := e1
  refine ⟨P, e, h1.prs, ?_⟩
  rw [e', e2, canon_unique h3 h1' fun x h5 h6 => ?_]
  rw [h4 x h5 h6, h2 x h5 h6, h2' x h5 h6, Bool.bne_true, Bool.bne_false]
theorem joinP_len (out : List Int) (a b : Int) : (joinP out a b).length ≤ out.length + 2 := by
  unfold joinP
  split
  · rw [List.length_append, List.length_dropLast]
    simp
    omega
  · simp
theorem cleanL_len (set : List Int) (no : Bool) : ∀ (l out : List Int), (cleanL set no out l).length ≤ out.length + 2 * l.length
  | [], out => by unfold cleanL; omega
  | [a], out => by unfold cleanL; simp
  | a :: b :: l, out => by
    unfold cleanL
    have h1 := cleanL_len set no (b :: l) (if a = b ∨ hasS set a = no then out else joinP out a b)
    have h2 := joinP_len out a b
    have h3 : (if a = b ∨ hasS set a = no then out else joinP out a b).length ≤ out.length + 2 := by split <;> omega
    simp only [List.length_cons] at *
    omega
theorem cuts_len (Q : List Pr) : (cutsOf (flat Q)).length = 2 * Q.length := by
  induction Q with
  | nil => rfl
  | cons q Q ih =>
    rw [flat_cons]
    unfold cutsOf
    rw [List.length_cons, List.length_cons, ih, List.length_cons]
    omega
theorem cleanP_len (Q : List Pr) (no : Bool) : (cleanP (flat Q) no).length ≤ 4 * Q.length + 4 := by
  have h1 := cleanL_len (flat Q) no (sortI (0 :: 1114112 :: cutsOf (flat Q))) []
  have h2 := (sortI_perm (0 :: 1114112 :: cutsOf (flat Q))).length_eq
  have h3 := cuts_len Q
  unfold cleanP
  simp only [List.length_cons, List.length_nil] at *
  omega
end Go.Proofs.YthmhmckkkceclaaDoor
