/-
  The document's parser: its states with nodes apart; what a reading of a part leaves.
-/
import Derived.Test.YthmhmckkkceclaaDoorRexMl
import Derived.Test.YthmhmckkkceclaaDoorRexAl
import Derived.Test.YthmhmckkkceclaaDoorRexCm
namespace Go.Proofs.YthmhmckkkceclaaDoor
open Go.RowKit
/-- The document's parser ahead of runes, or no pattern. -/
def QE (S : List Int) (sv ov : Value) (Z : List NdL) (w : World) (p : Nat) (o : Option (List Int)) (deep most : Nat) : Prop := match o with
  | some r => QG S sv ov Z w p r deep most
  | none => QB S sv ov Z w p deep
theorem QE.st {S : List Int} {sv ov : Value} {Z : List NdL} {w : World} {p : Nat} {o : Option (List Int)} {deep most : Nat} (h : QE S sv ov Z w p o deep most) : ∃ a m, QSt w p sv ov S a Z deep m o.isNone := by
  cases o with
  | none =>
    obtain ⟨a, m, _, h⟩ := h
    exact ⟨a, m, h⟩
  | some r =>
    obtain ⟨a, _, _, h⟩ := h
    exact ⟨a, _, h⟩
theorem QE.lt {S : List Int} {sv ov : Value} {Z : List NdL} {w : World} {p : Nat} {o : Option (List Int)} {deep most : Nat} (h : QE S sv ov Z w p o deep most) : p < w.heap.size := by
  obtain ⟨_, _, h⟩ := h.st
  exact h.lt
theorem QE.bad {S : List Int} {sv ov : Value} {Z : List NdL} {w : World} {p : Nat} {o : Option (List Int)} {deep most : Nat} (h : QE S sv ov Z w p o deep most) : w.cell? ⟨p, 5, none⟩ = some (.bool o.isNone) ∧ w.frozen? ⟨p, 5, none⟩ = false := by
  obtain ⟨_, _, h⟩ := h.st
  exact ⟨h.cells.1.2.2.2.2.2, h.cells.2 5⟩
theorem QE.keptB {S : List Int} {sv ov : Value} {Z : List NdL} {w w' : World} {p : Nat} {o : Option (List Int)} {deep most : Nat} (h : QE S sv ov Z w p o deep most) (hb : Below w.heap.size w w') : QE S sv ov Z w' p o deep most := by
  cases o with
  | none => exact QB.keptB h hb
  | some r => exact QG.keptB h hb
theorem QE.mvd {S : List Int} {sv ov : Value} {Z : List NdL} {w w' : World} {p : Nat} {o : Option (List Int)} {deep most : Nat} (h : QE S sv ov Z w p o deep most) (hg : w.grownBy w' (some p)) : Mvd p w w' := by
  obtain ⟨_, _, h⟩ := h.st
  exact h.mvd hg
/-- It is spoilt. -/
theorem QE.spoil {S : List Int} {sv ov : Value} {Z : List NdL} {w : World} {p : Nat} {o : Option (List Int)} {deep most : Nat} (h : QE S sv ov Z w p o deep most) : QE S sv ov Z (w.setCell ⟨p, 5, none⟩ (.bool true)) p none deep most ∧ w.grownBy (w.setCell ⟨p, 5, none⟩ (.bool true)) (some p) := by
  refine ⟨?_, gset _ _ _ _⟩
  cases o with
  | none =>
    obtain ⟨a, m, h1, h2⟩ := h
    exact ⟨a, m, h1, h2.setBad true⟩
  | some r =>
    obtain ⟨a, h1, h2, h3⟩ := h
    exact ⟨a, most, by omega, h3.setBad true⟩
/-- A row of the call's own grows beside the parser. -/
theorem QSt.app {S : List Int} {sv ov : Value} {Z : List NdL} {w wr w9 : World} {p : Nat} {a0 d0 m0 at' deep most : Nat} {b0 bad : Bool} {row : Option Nat} (h0 : QSt w p sv ov S a0 Z d0 m0 b0) (h : QSt wr p sv ov S at' Z deep most bad) (hg : w.grownBy wr (some p)) (h9 : wr.grownBy w9 row) (hr : ∀ k, row = some k → w.heap.size ≤ k) :
    QSt w9 p sv ov S at' Z deep most bad ∧ w.grownBy w9 (some p) := by
  have hg9 : w.grownBy w9 (some p) := ⟨by rw [h9.os, hg.os], by rw [h9.tape, hg.tape], by rw [h9.output, hg.output], Nat.le_trans hg.size h9.size, fun k hk hne => by
    rw [h9.block k (Nat.lt_of_lt_of_le hk hg.size) (fun e => by have := hr k e.symm; omega), hg.block k hk hne]⟩
  have hpl := h0.lt
  refine ⟨⟨?_, fun W hW => h.row W (Below.trans ⟨h9.os, h9.tape, h9.output, h9.size, fun k hk => h9.block k (Nat.lt_trans hk h.lt) (fun e => by have := hr k e.symm; omega)⟩ hW), h0.out.kept hg9 (fun k hk => by cases hk; omega)⟩, hg9⟩
  rw [h9.block p h.lt (fun e => by have := hr p e.symm; omega)]
  exact h.own
theorem QE.app {S : List Int} {sv ov : Value} {Z : List NdL} {w wr w9 : World} {p : Nat} {o0 o : Option (List Int)} {deep0 most0 deep most : Nat} {row : Option Nat} (h0 : QE S sv ov Z w p o0 deep0 most0) (h : QE S sv ov Z wr p o deep most) (hg : w.grownBy wr (some p)) (h9 : wr.grownBy w9 row) (hr : ∀ k, row = some k → w.heap.size ≤ k) :
    QE S sv ov Z w9 p o deep most ∧ w.grownBy w9 (some p) := by
  obtain ⟨_, _, h0⟩ := h0.st
  cases o with
  | none =>
    obtain ⟨a, m, h1, h2⟩ := h
    obtain ⟨g1, g2⟩ := h0.app h2 hg h9 hr
    exact ⟨⟨a, m, h1, g1⟩, g2⟩
  | some r =>
    obtain ⟨a, h1, h2, h3⟩ := h
    obtain ⟨g1, g2⟩ := h0.app h3 hg h9 hr
    exact ⟨⟨a, h1, h2, g1⟩, g2⟩
def headO : Option (List Int) → Int
  | none => -1
  | some r => headZ r
theorem re_peek (p : Nat) (w : World) (S : List Int) (sv ov : Value) (Z : List NdL) (o : Option (List Int)) (deep most : Nat) (hS : S.length ≤ 1000) (h : QE S sv ov Z w p o deep most) :
    Calls Tryd.prog 34 #[.pointer (some ⟨p, 0, none⟩)] w fun e w' => e = .returned (.int .i32 (headO o)) ∧ Below w.heap.size w w' := by
  cases o with
  | none => exact ref_peek_bad p w S sv ov Z deep h
  | some r => exact ref_peek p w S sv ov Z r deep most hS h
/-- Whether a rune comes next. -/
def IsR (c : Int) (o : Option (List Int)) (b : Bool) (o' : Option (List Int)) : Prop :=
  (b = true ∧ ∃ r, o = some (c :: r) ∧ o' = some r) ∨ (b = false ∧ o' = o ∧ ∀ r, o = some r → nextP c r = none)
theorem re_is (p : Nat) (w : World) (S : List Int) (sv ov : Value) (Z : List NdL) (o : Option (List Int)) (deep most : Nat) (hS : S.length ≤ 1000) (c : Int) (hc : 0 ≤ c) (h : QE S sv ov Z w p o deep most) :
    ∃ b o', IsR c o b o' ∧ Calls Tryd.prog 28 #[.pointer (some ⟨p, 0, none⟩), .int .i32 c] w fun e w' => e = .returned (.bool b) ∧ QE S sv ov Z w' p o' deep most ∧ w.grownBy w' (some p) := by
  cases o with
  | none =>
    refine ⟨false, none, .inr ⟨rfl, rfl, fun r h => by cases h⟩, (ref_is_bad p w S sv ov Z deep c hc h).mono ?_⟩
    rintro e w' ⟨h1, h2⟩
    exact ⟨h1, QE.keptB (o := none) (most := most) h h2, grown_of_below h2 _⟩
  | some r =>
    cases hn : nextP c r with
    | none =>
      refine ⟨false, some r, .inr ⟨rfl, rfl, fun r' h => by cases h; exact hn⟩, (ref_is_no p w S sv ov Z r deep most hS c hc hn h).mono ?_⟩
      rintro e w' ⟨h1, h2⟩
      exact ⟨h1, QE.keptB (o := some r) (most := most) h h2, grown_of_below h2 _⟩
    | some r1 =>
      obtain rfl := next_ends hn
      exact ⟨true, some r1, .inl ⟨rfl, r1, rfl, rfl⟩, ref_is_yes p w S sv ov Z c r1 deep most hS h⟩
/-- What a member is. -/
def MemR (r T : List Int) (o' : Option (List Int)) : Prop :=
  (∃ r', memP r = some (T, r') ∧ o' = some r') ∨ (memP r = none ∧ o' = none ∧ ∃ z, T = [z, z])
theorem MemR.none_of {r T : List Int} {o' : Option (List Int)} (h : MemR r T o') (hn : memP r = none) : o' = none := by
  rcases h with ⟨r', h1, _⟩ | ⟨_, h2, _⟩
  · rw [hn] at h1
    cases h1
  · exact h2
theorem mem_two {s t r : List Int} (h : memP s = some (t, r)) : 2 ≤ t.length := by
  cases s with
  | nil => cases h
  | cons c s =>
    simp only [memP] at h
    repeat' split at h
    · cases s with
      | nil => cases h
      | cons c s =>
        simp only [escP] at h
        repeat' split at h
        all_goals first | (cases h; done) | (cases h; first | decide | (show 2 ≤ 2; decide))
    · cases h
    · cases h
      show 2 ≤ 2
      decide
theorem MemR.len {r T : List Int} {o' : Option (List Int)} (h : MemR r T o') : 2 ≤ T.length ∧ T.length ≤ 8 := by
  rcases h with ⟨r', h1, _⟩ | ⟨_, _, z, rfl⟩
  · exact ⟨mem_two h1, mem_len h1⟩
  · exact ⟨by simp, by simp⟩
theorem re_member (p : Nat) (w : World) (S : List Int) (sv ov : Value) (Z : List NdL) (s : List Int) (deep most : Nat) (hS : S.length ≤ 1000) (hs : Scal s) (h : QG S sv ov Z w p s deep most) :
    Calls Tryd.prog 51 #[.pointer (some ⟨p, 0, none⟩)] w fun e w' => ∃ v T o', e = .returned v ∧ MemR s T o' ∧ w'.ownsRow w.heap.size 21 1 v T.length (T.map rCell) ∧ QE S sv ov Z w' p o' deep most ∧ w.grownBy w' (some p) := by
  have C := ref_member p w S sv ov Z s deep most hS hs h
  cases hm : memP s with
  | none =>
    rw [hm] at C
    refine C.mono ?_
    rintro e w' ⟨v, z, h1, h2, h3, h4⟩
    exact ⟨v, [z, z], none, h1, .inr ⟨hm, rfl, z, rfl⟩, h2, h3, h4⟩
  | some x =>
    obtain ⟨t, r⟩ := x
    rw [hm] at C
    refine C.mono ?_
    rintro e w' ⟨v, h1, h2, h3, h4⟩
    exact ⟨v, t, some r, h1, .inl ⟨r, hm, rfl⟩, h2, h3, h4⟩
/-- A class, some of it read, or no pattern. -/
def ClI (s1 : List Int) (XX : Res (List Int)) (b : Bool) (gk : Nat) (acc : List Int) : Option (List Int) → Prop
  | some r => r <:+ s1 ∧ clsAt b gk acc r = XX ∧ r.length + 1 ≤ gk ∧ acc.length + 8 * r.length ≤ 8 * s1.length
  | none => XX = none ∧ b = true ∧ acc.length ≤ 8 * s1.length + 16
theorem ClI.bound {s1 : List Int} {XX : Res (List Int)} {b : Bool} {gk : Nat} {acc : List Int} {o : Option (List Int)} (h : ClI s1 XX b gk acc o) : acc.length ≤ 8 * s1.length + 16 := by
  cases o with
  | none => exact h.2.2
  | some r =>
    obtain ⟨_, _, _, h⟩ := h
    omega
/-- A member more. -/
theorem cl_next {s1 : List Int} {XX : Res (List Int)} {b : Bool} {k : Nat} {acc r T : List Int} {o1 : Option (List Int)} (h : ClI s1 XX b (k + 1) acc (some r)) (hb : b = true → nextP 93 r = none) (hm : MemR r T o1) (hn : ∀ r1, o1 = some r1 → nextP 45 r1 = none) : ClI s1 XX true k (acc ++ T) o1 := by
  obtain ⟨h1, h2, h3, h4⟩ := h
  rw [clsAt_body hb] at h2
  have hl := hm.len
  have hrl := h1.length_le
  rcases hm with ⟨r', e1, rfl⟩ | ⟨e1, rfl, z, rfl⟩
  · obtain ⟨e2, e3⟩ := mem_ends r _ _ e1
    unfold rngP at h2
    rw [e1] at h2
    simp only at h2
    rw [hn _ rfl] at h2
    exact ⟨e2.trans h1, h2, by omega, by rw [List.length_append]; omega⟩
  · unfold rngP at h2
    rw [e1] at h2
    exact ⟨h2.symm, rfl, by rw [List.length_append]; omega⟩
/-- Two members with - between them. -/
theorem cl_span {s1 : List Int} {XX : Res (List Int)} {b V : Bool} {k : Nat} {acc r r2 m T : List Int} {x y : Int} {o3 : Option (List Int)} (h : ClI s1 XX b (k + 1) acc (some r)) (hb : b = true → nextP 93 r = none) (hm : MemR r m (some (45 :: r2))) (ht : MemR r2 T o3)
    (hV : (V = true ∧ spanP m T = none) ∨ (V = false ∧ spanP m T = some [x, y])) : ClI s1 XX true k (acc ++ [x, y]) (if V then none else o3) := by
  obtain ⟨h1, h2, h3, h4⟩ := h
  rw [clsAt_body hb] at h2
  have hrl := h1.length_le
  rcases hm with ⟨r', e1, e⟩ | ⟨_, e, _⟩
  · cases e
    obtain ⟨e2, e3⟩ := mem_ends r _ _ e1
    simp only [List.length_cons] at e3
    have hrng : rngP r = match memP r2 with
        | none => none
        | some (t, r3) => match spanP m t with
          | none => none
          | some u => some (u, r3) := by
      unfold rngP
      rw [e1]
      rfl
    rw [hrng] at h2
    have hacc : (acc ++ [x, y]).length ≤ 8 * s1.length + 16 := by
      rw [List.length_append]
      simp
      omega
    rcases ht with ⟨r3, e4, rfl⟩ | ⟨e4, rfl, z, rfl⟩
    · obtain ⟨e5, e6⟩ := mem_ends r2 _ _ e4
      rw [e4] at h2
      simp only at h2
      rcases hV with ⟨rfl, hV⟩ | ⟨rfl, hV⟩
      · rw [hV] at h2
        exact ⟨h2.symm, rfl, hacc⟩
      · rw [hV] at h2
        exact ⟨e5.trans ((List.suffix_cons 45 r2).trans (e2.trans h1)), h2, by omega, by rw [List.length_append]; simp only [List.length_cons, List.length_nil]; omega⟩
    · rw [e4] at h2
      have : (if V then none else (none : Option (List Int))) = none := by cases V <;> rfl
      rw [this]
      exact ⟨h2.symm, rfl, hacc⟩
  · cases e
/-! ### Nodes apart -/
def RG (X : Nat → Prop) (S : List Int) (w : World) (p : Nat) (s : List Int) (L : List Nd) (deep most : Nat) : Prop := ∃ sv ov Z, QG S sv ov Z w p s deep most ∧ Z.map Prod.fst = L ∧ Free X Z
def RB (X : Nat → Prop) (S : List Int) (w : World) (p N deep : Nat) : Prop := ∃ sv ov Z, QB S sv ov Z w p deep ∧ Z.length ≤ N ∧ Free X Z
theorem RG.lt {X : Nat → Prop} {S : List Int} {w : World} {p : Nat} {s : List Int} {L : List Nd} {deep most : Nat} (h : RG X S w p s L deep most) : p < w.heap.size := by
  obtain ⟨_, _, _, h, _⟩ := h
  exact h.lt
theorem RB.lt {X : Nat → Prop} {S : List Int} {w : World} {p N deep : Nat} (h : RB X S w p N deep) : p < w.heap.size := by
  obtain ⟨_, _, _, h, _⟩ := h
  exact h.lt
theorem RG.keptB {X : Nat → Prop} {S : List Int} {w w' : World} {p : Nat} {s : List Int} {L : List Nd} {deep most : Nat} (h : RG X S w p s L deep most) (hb : Below w.heap.size w w') : RG X S w' p s L deep most := by
  obtain ⟨sv, ov, Z, h, hL⟩ := h
  exact ⟨sv, ov, Z, h.keptB hb, hL⟩
theorem RB.keptB {X : Nat → Prop} {S : List Int} {w w' : World} {p N deep : Nat} (h : RB X S w p N deep) (hb : Below w.heap.size w w') : RB X S w' p N deep := by
  obtain ⟨sv, ov, Z, h, hL⟩ := h
  exact ⟨sv, ov, Z, h.keptB hb, hL⟩
theorem RG.sub {X Y : Nat → Prop} {S : List Int} {w : World} {p : Nat} {s : List Int} {L : List Nd} {deep most : Nat} (h : RG X S w p s L deep most) (hs : ∀ k, Y k → X k) : RG Y S w p s L deep most := by
  obtain ⟨sv, ov, Z, h, hL, hf⟩ := h
  exact ⟨sv, ov, Z, h, hL, hf.sub hs⟩
theorem RB.sub {X Y : Nat → Prop} {S : List Int} {w : World} {p N deep : Nat} (h : RB X S w p N deep) (hs : ∀ k, Y k → X k) : RB Y S w p N deep := by
  obtain ⟨sv, ov, Z, h, hL, hf⟩ := h
  exact ⟨sv, ov, Z, h, hL, hf.sub hs⟩
theorem RB.up {X : Nat → Prop} {S : List Int} {w : World} {p N M deep : Nat} (h : RB X S w p N deep) (hs : N ≤ M) : RB X S w p M deep := by
  obtain ⟨sv, ov, Z, h, hL, hf⟩ := h
  exact ⟨sv, ov, Z, h, Nat.le_trans hL hs, hf⟩
/-- What a reading of a part leaves. -/
def RfEnd (X : Nat → Prop) (S : List Int) (p : Nat) (w : World) (L : List Nd) (deep most N : Nat) : Res Frag → Ending → World → Prop
  | none, e, w' => ∃ k : Nat, e = .returned (.int .i64 (k : Int)) ∧ RB X S w' p N deep ∧ Mvd p w w'
  | some (f, r), e, w' => e = .returned (.int .i64 ((L.length + f.nodes.length - 1 : Nat) : Int)) ∧ RG X S w' p r (L ++ mv L.length f.nodes) deep (max most (deep + f.deep)) ∧ Mvd p w w'
theorem RfEnd.from {X : Nat → Prop} {S : List Int} {p : Nat} {w w1 : World} {L : List Nd} {deep most N : Nat} {x : Res Frag} {e : Ending} {w' : World} (h : RfEnd X S p w1 L deep most N x e w') (hm : Mvd p w w1) : RfEnd X S p w L deep most N x e w' := by
  cases x with
  | none =>
    obtain ⟨k, h1, h2, h3⟩ := h
    exact ⟨k, h1, h2, hm.trans h3⟩
  | some x =>
    obtain ⟨h1, h2, h3⟩ := h
    exact ⟨h1, h2, hm.trans h3⟩
theorem RfEnd.up {X : Nat → Prop} {S : List Int} {p : Nat} {w : World} {L : List Nd} {deep most N M : Nat} {x : Res Frag} {e : Ending} {w' : World} (h : RfEnd X S p w L deep most N x e w') (hm : N ≤ M) : RfEnd X S p w L deep most M x e w' := by
  cases x with
  | none =>
    obtain ⟨k, h1, h2, h3⟩ := h
    exact ⟨k, h1, h2.up hm, h3⟩
  | some x => exact h
theorem RfEnd.int {X : Nat → Prop} {S : List Int} {p : Nat} {w : World} {L : List Nd} {deep most N : Nat} {x : Res Frag} {e : Ending} {w' : World} (h : RfEnd X S p w L deep most N x e w') : ∃ k : Nat, e = .returned (.int .i64 (k : Int)) := by
  cases x with
  | none =>
    obtain ⟨k, h1, _⟩ := h
    exact ⟨k, h1⟩
  | some x =>
    obtain ⟨h1, _⟩ := h
    exact ⟨_, h1⟩
theorem rf_leaf {X : Nat → Prop} {S : List Int} {p : Nat} {w w' : World} {L : List Nd} {deep most N : Nat} {kind : Int} {set r : List Int} (hdm : deep ≤ most) (h : RG X S w' p r (L ++ [⟨kind, [], 0, 0, set⟩]) deep most) (hm : Mvd p w w') :
    RfEnd X S p w L deep most N (some (leaf kind set, r)) (.returned (.int .i64 (L.length : Int))) w' :=
  ⟨rfl, by rw [show max most (deep + (leaf kind set).deep) = most from by show max most (deep + 0) = most; omega]; exact h, hm⟩
theorem Free.snoc {X : Nat → Prop} {Z : List NdL} {z : NdL} (h : Free X Z) (hz : ∀ k, z.2.1.ownBlock = some k ∨ z.2.2.ownBlock = some k → ¬ X k) : Free X (Z ++ [z]) := fun y hy => by
  rcases List.mem_append.1 hy with hy | hy
  · exact h y hy
  · have e : y = z := by simpa using hy
    subst e
    exact hz
/-- A node more in a pattern so far. -/
theorem rg_node {X : Nat → Prop} (S : List Int) (p : Nat) (w : World) (s : List Int) (L : List Nd) (deep most : Nat) (h : RG X S w p s L deep most) (n : Nd) (kv tv : Value) (hz : NdAt w (p + 1) (n, kv, tv)) (hzf : ∀ k, kv.ownBlock = some k ∨ tv.ownBlock = some k → ¬ X k) (hL : L.length ≤ 100000) :
    Calls Tryd.prog 30 #[.pointer (some ⟨p, 0, none⟩), .agg #[.int .i64 n.kind, kv, .int .i64 n.lo, .int .i64 n.hi, tv]] w fun e w' => e = .returned (.int .i64 (L.length : Int)) ∧ RG X S w' p s (L ++ [n]) deep most ∧ Mvd p w w' := by
  obtain ⟨sv, ov, Z, ⟨a, h1, h2, h⟩, rfl, hf⟩ := h
  refine (ref_node p w sv ov S a Z deep most false h n kv tv hz (by simpa using hL)).mono ?_
  rintro e w' ⟨rfl, ov', h3, h4⟩
  exact ⟨by simp, ⟨sv, ov', _, ⟨a, h1, h2, h3⟩, by simp, hf.snoc hzf⟩, h4⟩
theorem rb_node {X : Nat → Prop} (S : List Int) (p : Nat) (w : World) (N deep : Nat) (h : RB X S w p N deep) (n : Nd) (kv tv : Value) (hz : NdAt w (p + 1) (n, kv, tv)) (hzf : ∀ k, kv.ownBlock = some k ∨ tv.ownBlock = some k → ¬ X k) (hL : N ≤ 100000) :
    Calls Tryd.prog 30 #[.pointer (some ⟨p, 0, none⟩), .agg #[.int .i64 n.kind, kv, .int .i64 n.lo, .int .i64 n.hi, tv]] w fun e w' => ∃ k : Nat, e = .returned (.int .i64 (k : Int)) ∧ RB X S w' p (N + 1) deep ∧ Mvd p w w' := by
  obtain ⟨sv, ov, Z, ⟨a, m, h1, h⟩, hN, hf⟩ := h
  refine (ref_node p w sv ov S a Z deep m true h n kv tv hz (by omega)).mono ?_
  rintro e w' ⟨rfl, ov', h3, h4⟩
  exact ⟨_, rfl, ⟨sv, ov', _, ⟨a, m, h1, h3⟩, by simp; omega, hf.snoc hzf⟩, h4⟩
theorem rf_node {X : Nat → Prop} {S : List Int} {p : Nat} {w w' : World} {L : List Nd} {deep most N : Nat} (kind : Int) (set r : List Int) (hdm : deep ≤ most) (hl : L.length ≤ 100000) (h : RG X S w p r L deep most) (hm : Mvd p w' w) (tv : Value) (ht : w.ownsRow (p + 1) 21 1 tv set.length (set.map rCell)) (hzf : ∀ k, tv.ownBlock = some k → ¬ X k) :
    Calls Tryd.prog 30 #[.pointer (some ⟨p, 0, none⟩), .agg #[.int .i64 kind, .slice none 0 0, .int .i64 0, .int .i64 0, tv]] w (RfEnd X S p w' L deep most N (some (leaf kind set, r))) :=
  (rg_node S p w r L deep most h ⟨kind, [], 0, 0, set⟩ (.slice none 0 0) tv ⟨World.ownsRow_nil _ _ _ _, ht⟩ (fun k hk => hk.elim (fun h => by cases h) (hzf k)) hl).mono fun e w2 ⟨h1, h2, h3⟩ => by
    subst h1
    exact rf_leaf hdm h2 (hm.trans h3)
end Go.Proofs.YthmhmckkkceclaaDoor
/-
  The document's parser: class.
-/
namespace Go.Proofs.YthmhmckkkceclaaDoor
open Go.RowKit
theorem flat_range : ∀ (Q : List Pr), Prs Q → ∀ x ∈ flat Q, 0 ≤ x ∧ x ≤ 1114111
  | [], _, x, hx => by simp [flat] at hx
  | q :: Q, h, x, hx => by
    have h1 := h q (by simp)
    rw [flat_cons] at hx
    rcases List.mem_cons.1 hx with rfl | hx
    · omega
    rcases List.mem_cons.1 hx with rfl | hx
    · omega
    exact flat_range Q (fun p hp => h p (by simp [hp])) x hx
theorem cell_grown {w w' : World} {row : Option Nat} (hg : w.grownBy w' row) {b j : Nat} {v : Value} (h : w.cell? ⟨b, j, none⟩ = some v) (hb : b < w.heap.size) (hne : some b ≠ row) : w'.cell? ⟨b, j, none⟩ = some v := by
  unfold World.cell? at *
  rw [hg.block b hb hne]
  exact h
/-- A class's loop asks whether it goes on. -/
def TestR (b : Bool) (o : Option (List Int)) (B : Bool) (o' : Option (List Int)) : Prop := (b = false ∧ B = true ∧ o' = o) ∨ (b = true ∧ IsR 93 o (!B) o')
theorem none_runs {S : List Int} {sv ov : Value} {Z : List NdL} {X : Nat → Prop} {w w' : World} {p deep most : Nat} {L : List Nd} {Y : Res Frag} (k : Nat) (hY : Y = none) (hZL : Z.map Prod.fst = L) (hf : Free X Z) (h : QE S sv ov Z w' p none deep most) (hm : Mvd p w w') : RfEnd X S p w L deep most L.length Y (.returned (.int .i64 (k : Int))) w' := by
  subst hY
  exact ⟨k, rfl, ⟨sv, ov, Z, h, by rw [← hZL]; simp, hf⟩, hm⟩
set_option maxRecDepth 100000 in
set_option maxHeartbeats 40000000 in
theorem ref_class {X : Nat → Prop} (S : List Int) (hS : S.length ≤ 1000) (p : Nat) (w : World) (s : List Int) (L : List Nd) (deep most : Nat) (hs : Scal s) (hsl : s.length ≤ 128) (hdm : deep ≤ most) (hL : L.length ≤ 2000) (hX : ∀ k, X k → k < w.heap.size) (h : RG X S w p s L deep most) :
    Calls Tryd.prog 44 #[.pointer (some ⟨p, 0, none⟩)] w (RfEnd X S p w L deep most L.length (setF (clsP s))) := by
  obtain ⟨sv, ov, Z, h, hZL, hfz⟩ := h
  have h : QE S sv ov Z w p (some s) deep most := h
  obtain ⟨no, s1, CN, hcls, hsuf⟩ : ∃ no s1, (Calls Tryd.prog 28 #[.pointer (some ⟨p, 0, none⟩), .int .i32 94] w fun e w' => e = .returned (.bool no) ∧ QE S sv ov Z w' p (some s1) deep most ∧ w.grownBy w' (some p)) ∧ clsP s = clsN no s1 ∧ s1 <:+ s := by
    obtain ⟨b, o', hb, hc⟩ := re_is p w S sv ov Z (some s) deep most hS 94 (by decide) h
    rcases hb with ⟨rfl, r, e, rfl⟩ | ⟨rfl, rfl, hn⟩
    · cases e
      exact ⟨true, r, hc, by unfold clsP; rw [show nextP 94 (94 :: r) = some r from rfl], List.suffix_cons _ _⟩
    · exact ⟨false, s, hc, by unfold clsP; rw [hn s rfl], List.suffix_refl _⟩
  rw [hcls]
  have hs1 := hs.suf hsuf
  have hsl1 : s1.length ≤ 128 := Nat.le_trans hsuf.length_le hsl
  rw [setF_cls]
  obtain ⟨XX, hX1⟩ : ∃ XX, clsL (s1.length + 1) s1 = XX := ⟨_, rfl⟩
  rw [hX1]
  have HX := Lib.hid hX1
  have HS := Lib.hid hs1
  obtain ⟨Y, hY⟩ : ∃ Y, clsF no XX = Y := ⟨_, rfl⟩
  rw [hY]
  have HY := Lib.hid hY
  have H0 := Lib.hid h
  have HZL := Lib.hid hZL
  have HFZ := Lib.hid hfz
  have HXO := Lib.hid hX
  have hpw := h.lt
  clear hcls hsuf hs h hs1 hsl hY hZL hfz hX hX1
  go_enter Tryd.func44, Tryd.ntmps44
  go_upto_region 4 with (go_at_call 28; refine CN.mono ?_; rintro e w1 ⟨rfl, hp, hm⟩; have HP := Lib.hid hp; clear hp)
  go_loopg [4, 5, 6, 7] (s1.length + 1) (fun gk set so mm tt wr => ∃ (acc : List Int) (b : Bool) (o : Option (List Int)), so = .bool (!b) ∧ wr.ownsRow w.heap.size 21 1 set acc.length (acc.map rCell) ∧ QE S sv ov Z wr p o deep most ∧ w.grownBy wr (some p) ∧ ClI s1 XX b gk acc o)
  case atStart => exact ⟨[], false, some s1, rfl, World.ownsRow_nil _ _ _ _, HP.out, hm, List.suffix_refl _, by rw [clsAt_start]; exact HX.out, by omega, by simp⟩
  case round =>
    obtain ⟨acc, b, o, rfl, hown, hq, hmv, hI⟩ := hrel
    have hplt := hq.lt
    have HI := Lib.hid hI
    have HOWN := Lib.hid hown
    have HQ := Lib.hid hq
    have HMV := Lib.hid hmv
    obtain ⟨sa, sc, rfl⟩ := owns_slice hown
    obtain ⟨B, o1, hB, C93⟩ : ∃ B o1, TestR b o B o1 ∧ (b = true → Calls Tryd.prog 28 #[.pointer (some ⟨p, 0, none⟩), .int .i32 93] wr fun e w' => e = .returned (.bool (!B)) ∧ QE S sv ov Z w' p o1 deep most ∧ wr.grownBy w' (some p)) := by
      cases b with
      | false => exact ⟨true, o, .inl ⟨rfl, rfl, rfl⟩, fun h => by cases h⟩
      | true =>
        obtain ⟨b', o', hb, hc⟩ := re_is p wr S sv ov Z o deep most hS 93 (by decide) hq
        exact ⟨!b', o', .inr ⟨rfl, by rw [Bool.not_not]; exact hb⟩, fun _ => by rw [Bool.not_not]; exact hc⟩
    have HB := Lib.hid hB
    have HC := Lib.hid C93
    clear hI hown hq hmv hB C93 CN
    go_upto_region 4 with fail
    go_cut [15] from 10 to 15 (fun vv wx => vv = .bool B ∧ QE S sv ov Z wx p o1 deep most ∧ wr.grownBy wx (some p))
    case first =>
      cases b with
      | false =>
        rcases HB.out with ⟨_, hBt, ho1⟩ | ⟨hh, _⟩
        · subst hBt
          subst ho1
          go_wp2_with fail
          go_meet
          exact ⟨rfl, HQ.out, World.grownBy.refl _ _⟩
        · cases hh
      | true =>
        have C := HC.out rfl
        go_wp2_with (go_at_call 28; refine C.mono ?_; rintro e w2 ⟨rfl, hq2, hg2⟩; have H2 := Lib.hid (And.intro hq2 hg2); clear hq2 hg2)
        go_meet
        exact ⟨by cases B <;> rfl, H2.out⟩
    case rest =>
      obtain ⟨rfl, hq1, hg1⟩ := hcut
      have H1 := Lib.hid (And.intro hq1 hg1)
      have hmc := (HMV.out.trans hg1)
      have HMC := Lib.hid hmc
      have HOC := Lib.hid (own_keptX HOWN.out hg1 (fun k hk => by cases hk; exact hpw))
      have hbd := hq1.bad
      clear hq1 hg1 hmc HC HOWN HQ
      cases B with
      | false =>
        rcases HB.out with ⟨_, h, _⟩ | ⟨rfl, hB⟩
        · cases h
        rcases hB with ⟨_, r1, rfl, rfl⟩ | ⟨h, _⟩
        · obtain ⟨hsf, hat, -, hal⟩ := HI.out
          rw [clsAt_done (show nextP 93 (93 :: r1) = some r1 from rfl)] at hat
          obtain ⟨Q, hQe, hQ, -⟩ := cls_pairs _ HS.out.runes _ _ (HX.out.trans hat.symm)
          have hYX : Y = some (leaf 2 (cleanP acc no), r1) := by rw [← HY.out, ← hat]; rfl
          obtain ⟨CC, hCC⟩ : ∃ CC, cleanP acc no = CC := ⟨_, rfl⟩
          have CK := ref_Clean acc no _ wc (argRow_owns HOC.out) (by omega) (by rw [hQe]; exact flat_range Q hQ)
          rw [hCC] at CK hYX
          have HYX := Lib.hid hYX
          obtain ⟨hq1, -⟩ := H1.out
          have HQ1 := Lib.hid (show QG S sv ov Z wc p r1 deep most from hq1)
          have hplc := hq1.lt
          have HRF := Lib.hid (fun (W : World) (tv : Value) (hb : Below wc.heap.size wc W) (ht : W.ownsRow wc.heap.size 21 1 tv CC.length (CC.map rCell)) =>
            rf_node (X := X) (S := S) (p := p) (w := W) (w' := w) (L := L) (deep := deep) (most := most) (N := L.length) 2 CC r1 hdm (by omega) ⟨sv, ov, Z, HQ1.out.keptB hb, HZL.out, HFZ.out⟩ ((QE.mvd H0.out HMC.out).trans (Mvd.ofBelow hb (Nat.le_of_lt hplc))) tv (owns_base ht hplc) (fun k hk hx => by have := (ht.lt k hk).1; have := HXO.out k hx; have := HMC.out.size; omega))
          clear hat hal hsf hQe hQ hYX hCC HI HX HS HY hq1 H1 hbd HOC HB
          clear Q
          go_wp2_with (first | (go_at_call 52; refine CK.mono ?_; rintro e w3 ⟨v3, rfl, hown3, hb3⟩; obtain ⟨va, vc, rfl⟩ := owns_slice hown3; have CN3 := HRF.out _ _ hb3 hown3; clear hown3) | (go_at_call 30; refine CN3.mono ?_; rintro e w2 h2; obtain ⟨rfl, hh⟩ := And.intro h2.1 h2; have H2 := Lib.hid hh; clear h2 hh))
          go_ret
          rw [HYX.out]
          exact H2.out
        · cases h
      | true =>
        have ho1 : o1 = o := by
          rcases HB.out with ⟨_, _, h⟩ | ⟨_, h⟩
          · exact h
          · rcases h with ⟨h, _⟩ | ⟨_, h, _⟩
            · cases h
            · exact h
        subst ho1
        have hbn : b = true → ∀ r, o1 = some r → nextP 93 r = none := fun hb => by
          rcases HB.out with ⟨h, _⟩ | ⟨_, h⟩
          · rw [h] at hb
            cases hb
          · rcases h with ⟨h, _⟩ | ⟨_, _, h⟩
            · cases h
            · exact h
        have HBN := Lib.hid hbn
        clear HB hbn
        obtain ⟨hbd1, hbd2⟩ := hbd
        have HSP := Lib.hid (H1.out.1.spoil)
        cases o1 with
        | none =>
          have hYn : Y = none := by rw [← HY.out, HI.out.1]; rfl
          have HYN := Lib.hid hYn
          clear hYn
          go_wp2_with fail
          go_ret
          exact none_runs 0 HYN.out HZL.out HFZ.out HSP.out.1 (QE.mvd H0.out (HMC.out.trans HSP.out.2))
        | some r =>
          have CP := re_peek p wc S sv ov Z (some r) deep most hS H1.out.1
          cases r with
          | nil =>
            have hYn : Y = none := by
              obtain ⟨hsf, hat, hgk, hal⟩ := HI.out
              obtain ⟨k, rfl⟩ : ∃ k, gk = k + 1 := ⟨gk - 1, by omega⟩
              rw [clsAt_body (fun h => HBN.out h [] rfl)] at hat
              rw [← HY.out, ← hat]
              rfl
            have HYN := Lib.hid hYn
            clear hYn
            rw [show headO (some []) = -1 from rfl] at CP
            have HKB := Lib.hid (fun W (hb : Below wc.heap.size wc W) => H1.out.1.keptB hb)
            go_wp2_with (go_at_call 34; refine CP.mono ?_; rintro e w3 ⟨rfl, hb3⟩; obtain ⟨x1, x2⟩ := (HKB.out _ hb3).bad)
            go_ret
            have hsp := (HKB.out _ hb3).spoil
            exact none_runs 0 HYN.out HZL.out HFZ.out hsp.1 (QE.mvd H0.out ((HMC.out.trans (grown_of_below hb3 _)).trans hsp.2))
          | cons c r =>
            have hsc : Scal (c :: r) := HS.out.suf HI.out.1
            have hc0 : ((c : Int) == -1) = false := by
              have := hsc.runes c (by simp)
              simp
              omega
            rw [show headO (some (c :: r)) = c from rfl] at CP
            go_upto_region 9 with (go_at_call 34; refine CP.mono ?_; rintro e w3 ⟨rfl, hb3⟩)
            have HQ3 := Lib.hid (H1.out.1.keptB hb3)
            have CM := re_member p w3 S sv ov Z (c :: r) deep most hS hsc HQ3.out
            have HG3 := Lib.hid (HMC.out.trans (grown_of_below hb3 (some p)))
            have HO3 := Lib.hid (own_keptX HOC.out (grown_of_below hb3 (some p)) (fun k hk => by cases hk; exact hpw))
            obtain ⟨k, rfl⟩ : ∃ k, gk = k + 1 := ⟨gk - 1, by have := HI.out.2.2.1; omega⟩
            have HI3 := Lib.hid HI.out
            generalize c :: r = cr at *
            clear CP hb3 hsc hc0 HSP H1 HOC HMC HI hbd1 hbd2 HMV hplt
            go_upto_region 10 with (go_at_call 51; refine CM.mono ?_; rintro e w4 ⟨v4, m, o4, rfl, hmr, hown4, hq4, hg4⟩; have H4 := Lib.hid (And.intro hmr (And.intro hown4 (And.intro hq4 hg4))); obtain ⟨ma, mc, rfl⟩ := owns_slice hown4; clear hmr hown4 hq4 hg4)
            clear CM
            obtain ⟨b5, o5, hb5, C45⟩ := re_is p w4 S sv ov Z o4 deep most hS 45 (by decide) H4.out.2.2.1
            have HB5 := Lib.hid hb5
            clear hb5
            have hml := H4.out.1.len
            have hab := HI3.out.bound
            have hsz3 := HG3.out.size
            have hsz4 := H4.out.2.2.2.size
            cases b5 with
            | false =>
              go_upto_region 15 with (go_at_call 28; refine C45.mono ?_; rintro e w5 ⟨rfl, hq5, hg5⟩; have H5 := Lib.hid (And.intro hq5 hg5); clear hq5 hg5)
              have hsz5 := H5.out.2.size
              have HO5 := Lib.hid (own_keptX (own_keptX HO3.out H4.out.2.2.2 (fun k hk => by cases hk; exact hpw)) H5.out.2 (fun k hk => by cases hk; exact hpw))
              have HM5 := Lib.hid (own_keptX H4.out.2.1 H5.out.2 (fun k hk => by cases hk; omega))
              clear C45
              go_wp2_with (at_builtin; go_loud (refine wpList_append_src rfl _ _ _ _ rfl w.heap.size ERi _ acc.length (acc.map rCell) rfl HO5.out _ m.length (m.map rCell) rfl (by exact src_arg Tryd.underlying31 (argRow_owns HM5.out) (by simp [rCell, Value.oneCell'])) (by unfold maxLen; omega) (by omega) (by omega) ?_); intro v9 w9 hown9 hgr9 _ _; have H9 := Lib.hid (And.intro hown9 hgr9); clear hown9 hgr9)
              go_roundg k
              case measure => omega
              case rel =>
                obtain ⟨hown9, hgr9⟩ := H9.out
                obtain ⟨g1, g2⟩ := QE.app H0.out H5.out.1 ((HG3.out.trans H4.out.2.2.2).trans H5.out.2) hgr9 (fun g hg => (HO5.out.lt g hg).1)
                rcases HB5.out with ⟨h, _⟩ | ⟨_, rfl, hn⟩
                · cases h
                · exact ⟨acc ++ m, true, o5, rfl, by rw [List.length_append, List.map_append]; exact hown9, g1, g2, cl_next HI3.out (fun h => HBN.out h _ rfl) H4.out.1 hn⟩
            | true =>
              go_upto_region 11 with (go_at_call 28; refine C45.mono ?_; rintro e w5 ⟨rfl, hq5, hg5⟩; have H5 := Lib.hid (And.intro hq5 hg5); clear hq5 hg5)
              obtain ⟨r2, rfl, rfl⟩ : ∃ r2, o4 = some (45 :: r2) ∧ o5 = some r2 := by
                rcases HB5.out with ⟨_, r2, h1, h2⟩ | ⟨h, _⟩
                · exact ⟨r2, h1, h2⟩
                · cases h
              have hsc2 : Scal r2 := by
                rcases H4.out.1 with ⟨r', h1, h2⟩ | ⟨_, h, _⟩
                · cases h2
                  exact ((HS.out.suf HI3.out.1).suf (mem_ends _ _ _ h1).1).tail
                · cases h
              have CM2 := re_member p w5 S sv ov Z r2 deep most hS hsc2 H5.out.1
              clear C45 hsc2 HB5
              go_upto_region 12 with (go_at_call 51; refine CM2.mono ?_; rintro e w6 ⟨v6, t, o6, rfl, hmr, hown6, hq6, hg6⟩; have H6 := Lib.hid (And.intro hmr (And.intro hown6 (And.intro hq6 hg6))); obtain ⟨ta, tc, rfl⟩ := owns_slice hown6; clear hmr hown6 hq6 hg6)
              clear CM2
              have htl := H6.out.1.len
              have hsz5 := H5.out.2.size
              have hsz6 := H6.out.2.2.2.size
              have HM6 := Lib.hid (own_keptX (own_keptX H4.out.2.1 H5.out.2 (fun k hk => by cases hk; omega)) H6.out.2.2.2 (fun k hk => by cases hk; omega))
              have HT6 := Lib.hid H6.out.2.1
              obtain ⟨mg, mcc, hmsl, -, hmgl, -, -, -, hmcell⟩ := owns_some HM6.out (by omega)
              obtain ⟨tg, tcc, htsl, -, htgl, -, -, -, htcell⟩ := owns_some HT6.out (by omega)
              cases hmsl
              cases htsl
              obtain ⟨mx, m', rfl⟩ : ∃ x m', m = x :: m' := by
                cases m with
                | nil => simp at hml
                | cons x m' => exact ⟨x, m', rfl⟩
              obtain ⟨ty, t', rfl⟩ : ∃ x m', t = x :: m' := by
                cases t with
                | nil => simp at htl
                | cons x m' => exact ⟨x, m', rfl⟩
              have HMC := Lib.hid hmcell
              have HTC := Lib.hid htcell
              have q0 := HMC.out 0 (by simp)
              have q2 := HTC.out 0 (by simp)
              simp only [List.map_cons, List.getElem_cons_zero, rCell] at q0 q2
              obtain ⟨V, hV⟩ : ∃ V, (spanP (mx :: m') (ty :: t')).isNone = V := ⟨_, rfl⟩
              have HV := Lib.hid hV
              obtain ⟨mn, hmn⟩ : ∃ n, (mx :: m').length = n := ⟨_, rfl⟩
              obtain ⟨tn, htn⟩ : ∃ n, (ty :: t').length = n := ⟨_, rfl⟩
              rw [hmn] at hml ⊢
              rw [htn] at htl ⊢
              have HMN := Lib.hid hmn
              have HTN := Lib.hid htn
              clear hmcell htcell hV hmn htn
              go_cut [68] from 34 to 68 (fun vv wx => vv = .bool V ∧ Below w6.heap.size w6 wx)
              case first =>
                cases hsp : spanP (mx :: m') (ty :: t') with
                | some u =>
                  have hVf : V = false := by rw [← HV.out, hsp]; rfl
                  obtain ⟨x, y, e1, e2, hxy, -⟩ := span_some hsp
                  cases e1
                  cases e2
                  obtain rfl : 2 = mn := HMN.out
                  obtain rfl : 2 = tn := HTN.out
                  have q1 := HMC.out 1 (by simp)
                  have q3 := HTC.out 1 (by simp)
                  simp only [List.map_cons, List.map_nil, List.getElem_cons_zero, List.getElem_cons_succ, rCell] at q1 q3
                  subst hVf
                  have hd : decide (ty < mx) = false := decide_eq_false (by omega)
                  clear hsp HMN HTN HMC HTC HV hxy
                  go_quiet (fail)
                  go_wp2_with fail
                  go_meet
                  exact ⟨rfl, by first | exact below_dN (Below.refl _ _) _ | exact (Below.refl _ _).drew | exact Below.refl _ _⟩
                | none =>
                  have hVt : V = true := by rw [← HV.out, hsp]; rfl
                  subst hVt
                  have hno := span_none hsp
                  clear hsp HV
                  rcases hno with h1 | ⟨m0, m1, e1, h2⟩
                  · rw [HMN.out] at h1
                    have hd : ((mn : Int) != 2) = true := by simp; omega
                    clear h1 HMN HTN HMC HTC
                    go_quiet (fail)
                    go_wp2_with fail
                    go_meet
                    exact ⟨rfl, by first | exact below_dN (Below.refl _ _) _ | exact (Below.refl _ _).drew | exact Below.refl _ _⟩
                  · cases e1
                    obtain rfl : 2 = mn := HMN.out
                    have q1 := HMC.out 1 (by simp)
                    simp only [List.map_cons, List.map_nil, List.getElem_cons_zero, List.getElem_cons_succ, rCell] at q1
                    rcases h2 with h2 | ⟨t0, t1, e2, h3⟩
                    · rw [HTN.out] at h2
                      have hd : ((tn : Int) != 2) = true := by simp; omega
                      clear h2 HMN HTN HMC HTC
                      go_quiet (fail)
                      go_wp2_with fail
                      go_meet
                      exact ⟨rfl, by first | exact below_dN (Below.refl _ _) _ | exact (Below.refl _ _).drew | exact Below.refl _ _⟩
                    · cases e2
                      obtain rfl : 2 = tn := HTN.out
                      have q3 := HTC.out 1 (by simp)
                      simp only [List.map_cons, List.map_nil, List.getElem_cons_zero, List.getElem_cons_succ, rCell] at q3
                      clear HMN HTN HMC HTC
                      rcases h3 with h3 | ⟨rfl, h4⟩
                      · have hd : (mx != m1) = true := by simpa using h3
                        clear h3
                        go_quiet (fail)
                        go_wp2_with fail
                        go_meet
                        exact ⟨rfl, by first | exact below_dN (Below.refl _ _) _ | exact (Below.refl _ _).drew | exact Below.refl _ _⟩
                      · rcases h4 with h4 | ⟨rfl, h5⟩
                        · have hd : (ty != t1) = true := by simpa using h4
                          clear h4
                          go_quiet (fail)
                          go_wp2_with fail
                          go_meet
                          exact ⟨rfl, by first | exact below_dN (Below.refl _ _) _ | exact (Below.refl _ _).drew | exact Below.refl _ _⟩
                        · have hd : decide (ty < mx) = true := decide_eq_true h5
                          clear h5
                          go_quiet (fail)
                          go_wp2_with fail
                          go_meet
                          exact ⟨rfl, by first | exact below_dN (Below.refl _ _) _ | exact (Below.refl _ _).drew | exact Below.refl _ _⟩
              case rest =>
                obtain ⟨rfl, hbc⟩ := hcut
                have hsz7 := hbc.size
                have hq7 := H6.out.2.2.1.keptB hbc
                obtain ⟨x5, y5⟩ := hq7.bad
                have HSP := Lib.hid hq7.spoil
                have HQ7 := Lib.hid hq7
                have x0 := (hbc.cell (p := ⟨mg, 0, none⟩) hmgl).trans q0
                have x2 := (hbc.cell (p := ⟨tg, 0, none⟩) htgl).trans q2
                have HO7 := Lib.hid (own_keptX (own_keptX (own_keptX (own_keptX HO3.out H4.out.2.2.2 (fun k hk => by cases hk; exact hpw)) H5.out.2 (fun k hk => by cases hk; exact hpw)) H6.out.2.2.2 (fun k hk => by cases hk; exact hpw)) (grown_of_below hbc (some p)) (fun k hk => by cases hk; exact hpw))
                have HG7 := Lib.hid ((((HG3.out.trans H4.out.2.2.2).trans H5.out.2).trans H6.out.2.2.2).trans (grown_of_below hbc (some p)))
                have hCS : ∃ o7, o7 = (if V then none else o6) ∧ ClI s1 XX true k (acc ++ [mx, ty]) o7 := ⟨_, rfl, cl_span HI3.out (fun h => HBN.out h _ rfl) H4.out.1 H6.out.1 (by
                  cases hsp : spanP (mx :: m') (ty :: t') with
                  | none => exact .inl ⟨by rw [← HV.out, hsp]; rfl, rfl⟩
                  | some u =>
                    obtain ⟨x, y, e1, e2, -, rfl⟩ := span_some hsp
                    cases e1
                    cases e2
                    exact .inr ⟨by rw [← HV.out, hsp]; rfl, rfl⟩)⟩
                obtain ⟨o7, ho7, hcl⟩ := hCS
                have HCL := Lib.hid hcl
                have hmpos : (0 : Int) < (mn : Int) := by omega
                have htpos : (0 : Int) < (tn : Int) := by omega
                have hpm : p < mg := by have := (HM6.out.lt mg rfl).1; omega
                have hpt : p < tg := by have := (HT6.out.lt tg rfl).1; omega
                have hmgl7 : mg < wc.heap.size := by omega
                have htgl7 : tg < wc.heap.size := by omega
                have hpw7 : p < wc.heap.size := by omega
                clear q0 q2 hq7 hcl hbc HMN HTN HMC HTC HV H4 H5 H6 HM6 HT6 HG3 HO3 HI3
                obtain ⟨wd, hwd⟩ : ∃ wd, (if V then wc.setCell ⟨p, 5, none⟩ (.bool true) else wc) = wd := ⟨_, rfl⟩
                have hd : QE S sv ov Z wd p o7 deep most ∧ wc.grownBy wd (some p) := by
                  rw [ho7, ← hwd]
                  cases V
                  · exact ⟨HQ7.out, World.grownBy.refl _ _⟩
                  · exact HSP.out
                have HD := Lib.hid hd
                have z0 := cell_grown hd.2 x0 hmgl7 (by intro e; have := Option.some.inj e; omega)
                have z2 := cell_grown hd.2 x2 htgl7 (by intro e; have := Option.some.inj e; omega)
                have HOD := Lib.hid (own_keptX HO7.out hd.2 (fun k hk => by cases hk; exact hpw))
                have HGD := Lib.hid (HG7.out.trans hd.2)
                have hszd := hd.2.size
                clear hd ho7 HO7 HG7 HSP HQ7 x0 x2
                cases V
                case' false =>
                  replace hwd : wc = wd := hwd
                  have HWD := Lib.hid hwd
                  clear hwd
                  go_upto_region 14 with fail
                  rw [HWD.out]
                  clear HWD
                case' true =>
                  replace hwd : wc.setCell ⟨p, 5, none⟩ (.bool true) = wd := hwd
                  have HWD := Lib.hid hwd
                  clear hwd
                  go_upto_region 14 with fail
                  rw [HWD.out]
                  clear HWD
                all_goals
                  clear x5 y5
                  refine wp_region_quiet_tail 6 (by kernel_rfl) (by kernel_rfl) ?_
                  simp only [List.take_succ_cons, List.take_zero, List.drop_succ_cons, List.drop_zero]
                  repeat (go_big_quiet_step (fail))
                  refine wpQuiet_nil ?_
                  change wpList _ _ _ _ _ wd.drew
                  obtain ⟨we, hwe⟩ : ∃ we, wd.drew = we := ⟨_, rfl⟩
                  rw [hwe]
                  have hbe : Below wd.heap.size wd we := by rw [← hwe]; exact (Below.refl _ _).drew
                  clear hwe z0 z2
                  have hsze := hbe.size
                  go_wp2_with (at_builtin; go_loud (refine wpList_append_src rfl _ _ _ _ rfl w.heap.size ERi _ acc.length (acc.map rCell) rfl (owns_below HOD.out (by (repeat (first | assumption | with_reducible exact Below.refl _ _ | (with_reducible refine belowA' ?_ (by first | omega | (simp; done) | (simp; omega))) | with_reducible refine Below.drew ?_ | with_reducible refine below_dN ?_ _)); done)) _ 2 [.int .i32 mx, .int .i32 ty] rfl (by exact src_last (cs := #[.int .i32 mx, .int .i32 ty]) Tryd.underlying31 2 2 1 (by simp) rfl (by simp [Value.oneCell'])) (by unfold maxLen; omega) (by omega) (by first | omega | (simp; omega)) ?_); intro v9 w9 hown9 hgr9 _ _; have H9 := Lib.hid (And.intro hown9 hgr9); clear hown9 hgr9)
                  go_roundg k
                  case measure => omega
                  case rel =>
                    obtain ⟨hown9, hgr9⟩ := H9.out
                    obtain ⟨g1, g2⟩ := QE.app H0.out (HD.out.1.keptB (by (repeat (first | assumption | with_reducible exact Below.refl _ _ | (with_reducible refine belowA' ?_ (by first | omega | (simp; done) | (simp; omega))) | with_reducible refine Below.drew ?_ | with_reducible refine below_dN ?_ _)); done)) (HGD.out.trans (grown_of_below (show Below wd.heap.size wd _ from (by (repeat (first | assumption | with_reducible exact Below.refl _ _ | (with_reducible refine belowA' ?_ (by first | omega | (simp; done) | (simp; omega))) | with_reducible refine Below.drew ?_ | with_reducible refine below_dN ?_ _)); done)) _)) hgr9 (fun g hg => (HOD.out.lt g hg).1)
                    exact ⟨acc ++ [mx, ty], true, o7, rfl, by rw [List.length_append, List.map_append]; exact hown9, g1, g2, HCL.out⟩
end Go.Proofs.YthmhmckkkceclaaDoor
/-
  The document's parser, nodes apart: its steps.
-/
namespace Go.Proofs.YthmhmckkkceclaaDoor
open Go.RowKit
theorem Mvd.b {p : Nat} {w w' : World} (h : Below w.heap.size w w') (hp : p < w.heap.size) : Mvd p w w' := Mvd.ofBelow h (Nat.le_of_lt hp)
theorem rg_peek {X : Nat → Prop} {S : List Int} (hS : S.length ≤ 1000) (p : Nat) (w : World) (s : List Int) (L : List Nd) (deep most : Nat) (h : RG X S w p s L deep most) :
    Calls Tryd.prog 34 #[.pointer (some ⟨p, 0, none⟩)] w fun e w' => e = .returned (.int .i32 (headZ s)) ∧ Below w.heap.size w w' := by
  obtain ⟨sv, ov, Z, h, _⟩ := h
  exact ref_peek p w S sv ov Z s deep most hS h
theorem rb_peek {X : Nat → Prop} {S : List Int} (p : Nat) (w : World) (N deep : Nat) (h : RB X S w p N deep) :
    Calls Tryd.prog 34 #[.pointer (some ⟨p, 0, none⟩)] w fun e w' => e = .returned (.int .i32 (-1)) ∧ Below w.heap.size w w' := by
  obtain ⟨sv, ov, Z, h, _⟩ := h
  exact ref_peek_bad p w S sv ov Z deep h
theorem rg_is_no {X : Nat → Prop} {S : List Int} (hS : S.length ≤ 1000) (p : Nat) (w : World) (s : List Int) (L : List Nd) (deep most : Nat) (c : Int) (hc : 0 ≤ c) (hn : nextP c s = none) (h : RG X S w p s L deep most) :
    Calls Tryd.prog 28 #[.pointer (some ⟨p, 0, none⟩), .int .i32 c] w fun e w' => e = .returned (.bool false) ∧ RG X S w' p s L deep most ∧ Mvd p w w' := by
  have hp := h.lt
  obtain ⟨sv, ov, Z, h, hL⟩ := h
  refine (ref_is_no p w S sv ov Z s deep most hS c hc hn h).mono ?_
  rintro e w' ⟨h1, h2⟩
  exact ⟨h1, ⟨sv, ov, Z, h.keptB h2, hL⟩, Mvd.b h2 hp⟩
theorem rg_is_yes {X : Nat → Prop} {S : List Int} (hS : S.length ≤ 1000) (p : Nat) (w : World) (c : Int) (s : List Int) (L : List Nd) (deep most : Nat) (h : RG X S w p (c :: s) L deep most) :
    Calls Tryd.prog 28 #[.pointer (some ⟨p, 0, none⟩), .int .i32 c] w fun e w' => e = .returned (.bool true) ∧ RG X S w' p s L deep most ∧ Mvd p w w' := by
  obtain ⟨sv, ov, Z, h, hL⟩ := h
  refine (ref_is_yes p w S sv ov Z c s deep most hS h).mono ?_
  rintro e w' ⟨h1, h2, h3⟩
  exact ⟨h1, ⟨sv, ov, Z, h2, hL⟩, h.mvd h3⟩
theorem rb_is {X : Nat → Prop} {S : List Int} (p : Nat) (w : World) (N deep : Nat) (c : Int) (hc : 0 ≤ c) (h : RB X S w p N deep) :
    Calls Tryd.prog 28 #[.pointer (some ⟨p, 0, none⟩), .int .i32 c] w fun e w' => e = .returned (.bool false) ∧ RB X S w' p N deep ∧ Mvd p w w' := by
  have hp := h.lt
  obtain ⟨sv, ov, Z, h, hL⟩ := h
  refine (ref_is_bad p w S sv ov Z deep c hc h).mono ?_
  rintro e w' ⟨h1, h2⟩
  exact ⟨h1, ⟨sv, ov, Z, h.keptB h2, hL⟩, Mvd.b h2 hp⟩
/-- A rune is passed. -/
theorem RG.step {X : Nat → Prop} {S : List Int} {w w1 : World} {p : Nat} {c : Int} {s : List Int} {L : List Nd} {deep most : Nat} (h : RG X S w p (c :: s) L deep most) (hb : Below w.heap.size w w1) : ∃ at' : Nat, at' < S.length ∧ w1.cell? ⟨p, 1, none⟩ = some (.int .i64 (at' : Int)) ∧ w1.frozen? ⟨p, 1, none⟩ = false ∧
    ∀ w2, w2 = w1.setCell ⟨p, 1, none⟩ (.int .i64 ((at' : Int) + 1)) → RG X S w2 p s L deep most ∧ Mvd p w w2 := by
  obtain ⟨sv, ov, Z, h, hL⟩ := h
  obtain ⟨a, h1, h2, h3, h4⟩ := h.step hb
  refine ⟨a, h1, h2, h3, fun w2 e => ?_⟩
  obtain ⟨h5, h6⟩ := h4 w2 e
  exact ⟨⟨sv, ov, Z, h5, hL⟩, h.mvd h6⟩
theorem RG.over {X : Nat → Prop} {S : List Int} {w w1 : World} {p : Nat} {L : List Nd} {deep most : Nat} (h : RG X S w p [] L deep most) (hb : Below w.heap.size w w1) : ∃ at' : Nat, at' = S.length ∧ w1.cell? ⟨p, 1, none⟩ = some (.int .i64 (at' : Int)) ∧ w1.frozen? ⟨p, 1, none⟩ = false ∧
    w1.cell? ⟨p, 5, none⟩ = some (.bool false) ∧ w1.frozen? ⟨p, 5, none⟩ = false ∧
    ∀ w3, w3 = (w1.setCell ⟨p, 1, none⟩ (.int .i64 ((at' : Int) + 1))).setCell ⟨p, 5, none⟩ (.bool true) → RB X S w3 p L.length deep ∧ Mvd p w w3 := by
  obtain ⟨sv, ov, Z, h, rfl, hf⟩ := h
  obtain ⟨a, h1, h2, h3, h4, h5, h6⟩ := h.over hb
  refine ⟨a, h1, h2, h3, h4, h5, fun w3 e => ?_⟩
  obtain ⟨h7, h8⟩ := h6 w3 e
  exact ⟨⟨sv, ov, Z, h7, by simp, hf⟩, h.mvd h8⟩
/-- It is spoilt. -/
theorem RG.spoil {X : Nat → Prop} {S : List Int} {w : World} {p : Nat} {s : List Int} {L : List Nd} {deep most : Nat} (h : RG X S w p s L deep most) : w.cell? ⟨p, 5, none⟩ = some (.bool false) ∧ w.frozen? ⟨p, 5, none⟩ = false ∧
    RB X S (w.setCell ⟨p, 5, none⟩ (.bool true)) p L.length deep ∧ Mvd p w (w.setCell ⟨p, 5, none⟩ (.bool true)) := by
  obtain ⟨sv, ov, Z, h, rfl, hf⟩ := h
  have h : QE S sv ov Z w p (some s) deep most := h
  exact ⟨h.bad.1, h.bad.2, ⟨sv, ov, Z, h.spoil.1, by simp, hf⟩, h.mvd h.spoil.2⟩
theorem RB.spoil {X : Nat → Prop} {S : List Int} {w : World} {p N deep : Nat} (h : RB X S w p N deep) : w.cell? ⟨p, 5, none⟩ = some (.bool true) ∧ w.frozen? ⟨p, 5, none⟩ = false ∧
    RB X S (w.setCell ⟨p, 5, none⟩ (.bool true)) p N deep ∧ Mvd p w (w.setCell ⟨p, 5, none⟩ (.bool true)) := by
  obtain ⟨sv, ov, Z, h, hN, hf⟩ := h
  have h : QE S sv ov Z w p none deep 0 := h
  exact ⟨h.bad.1, h.bad.2, ⟨sv, ov, Z, h.spoil.1, hN, hf⟩, h.mvd h.spoil.2⟩
/-- Its depth. -/
theorem RG.deep {X : Nat → Prop} {S : List Int} {w : World} {p : Nat} {s : List Int} {L : List Nd} {deep most : Nat} (h : RG X S w p s L deep most) : w.cell? ⟨p, 3, none⟩ = some (.int .i64 (deep : Int)) ∧ w.frozen? ⟨p, 3, none⟩ = false ∧
    ∀ d : Nat, RG X S (w.setCell ⟨p, 3, none⟩ (.int .i64 (d : Int))) p s L d most ∧ Mvd p w (w.setCell ⟨p, 3, none⟩ (.int .i64 (d : Int))) := by
  obtain ⟨sv, ov, Z, ⟨a, h1, h2, h⟩, rfl, hf⟩ := h
  exact ⟨h.cells.1.2.2.2.1, h.cells.2 3, fun d => ⟨⟨sv, ov, Z, ⟨a, h1, h2, h.setDeep d⟩, rfl, hf⟩, h.mvd (gset _ _ _ _)⟩⟩
theorem RB.deep {X : Nat → Prop} {S : List Int} {w : World} {p N deep : Nat} (h : RB X S w p N deep) : w.cell? ⟨p, 3, none⟩ = some (.int .i64 (deep : Int)) ∧ w.frozen? ⟨p, 3, none⟩ = false ∧
    ∀ d : Nat, RB X S (w.setCell ⟨p, 3, none⟩ (.int .i64 (d : Int))) p N d ∧ Mvd p w (w.setCell ⟨p, 3, none⟩ (.int .i64 (d : Int))) := by
  obtain ⟨sv, ov, Z, ⟨a, m, h1, h⟩, hN, hf⟩ := h
  exact ⟨h.cells.1.2.2.2.1, h.cells.2 3, fun d => ⟨⟨sv, ov, Z, ⟨a, m, h1, h.setDeep d⟩, hN, hf⟩, h.mvd (gset _ _ _ _)⟩⟩
theorem RG.most {X : Nat → Prop} {S : List Int} {w : World} {p : Nat} {s : List Int} {L : List Nd} {deep most : Nat} (h : RG X S w p s L deep most) : w.cell? ⟨p, 4, none⟩ = some (.int .i64 (most : Int)) ∧ w.frozen? ⟨p, 4, none⟩ = false ∧
    ∀ d : Nat, RG X S (w.setCell ⟨p, 4, none⟩ (.int .i64 (d : Int))) p s L deep d ∧ Mvd p w (w.setCell ⟨p, 4, none⟩ (.int .i64 (d : Int))) := by
  obtain ⟨sv, ov, Z, ⟨a, h1, h2, h⟩, rfl, hf⟩ := h
  exact ⟨h.cells.1.2.2.2.2.1, h.cells.2 4, fun d => ⟨⟨sv, ov, Z, ⟨a, h1, h2, h.setMost d⟩, rfl, hf⟩, h.mvd (gset _ _ _ _)⟩⟩
/-- What a reading of pairs leaves. -/
def RunR (X : Nat → Prop) (S : List Int) (p : Nat) (w : World) (L : List Nd) (deep most : Nat) : Res (List Int) → Ending → World → Prop
  | none, e, w' => ∃ v z, e = .returned v ∧ w'.ownsRow w.heap.size 21 1 v 2 [rCell z, rCell z] ∧ RB X S w' p L.length deep ∧ Mvd p w w'
  | some (t, r), e, w' => ∃ v, e = .returned v ∧ w'.ownsRow w.heap.size 21 1 v t.length (t.map rCell) ∧ RG X S w' p r L deep most ∧ Mvd p w w'
theorem rg_escape {X : Nat → Prop} {S : List Int} (hS : S.length ≤ 1000) (p : Nat) (w : World) (s : List Int) (L : List Nd) (deep most : Nat) (hs : Scal s) (h : RG X S w p s L deep most) :
    Calls Tryd.prog 45 #[.pointer (some ⟨p, 0, none⟩)] w (RunR X S p w L deep most (escP s)) := by
  obtain ⟨sv, ov, Z, h, rfl, hf⟩ := h
  have C := ref_escape p w S sv ov Z s deep most hS hs h
  cases he : escP s with
  | none =>
    rw [he] at C
    refine C.mono ?_
    rintro e w' ⟨v, z, h1, h2, h3, h4⟩
    exact ⟨v, z, h1, h2, ⟨sv, ov, Z, h3, by simp, hf⟩, h.mvd h4⟩
  | some x =>
    obtain ⟨t, r⟩ := x
    rw [he] at C
    refine C.mono ?_
    rintro e w' ⟨v, h1, h2, h3, h4⟩
    exact ⟨v, h1, h2, ⟨sv, ov, Z, h3, rfl, hf⟩, h.mvd h4⟩
/-- What a number leaves. -/
def DigR (X : Nat → Prop) (S : List Int) (p : Nat) (w : World) (L : List Nd) (deep most : Nat) : Res Int → Ending → World → Prop
  | none, e, w' => e = .returned (.int .i64 0) ∧ RB X S w' p L.length deep ∧ Mvd p w w'
  | some (d, r), e, w' => e = .returned (.int .i64 d) ∧ RG X S w' p r L deep most ∧ Mvd p w w'
theorem rg_digit {X : Nat → Prop} {S : List Int} (hS : S.length ≤ 1000) (p : Nat) (w : World) (s : List Int) (L : List Nd) (deep most : Nat) (h : RG X S w p s L deep most) :
    Calls Tryd.prog 39 #[.pointer (some ⟨p, 0, none⟩)] w (DigR X S p w L deep most (digP s)) := by
  obtain ⟨sv, ov, Z, h, rfl, hf⟩ := h
  have C := ref_digit p w S sv ov Z s deep most hS h
  cases he : digP s with
  | none =>
    rw [he] at C
    refine C.mono ?_
    rintro e w' ⟨h1, h2, h3⟩
    exact ⟨h1, ⟨sv, ov, Z, h2, by simp, hf⟩, h.mvd h3⟩
  | some x =>
    obtain ⟨t, r⟩ := x
    rw [he] at C
    refine C.mono ?_
    rintro e w' ⟨h1, h2, h3⟩
    exact ⟨h1, ⟨sv, ov, Z, h2, rfl, hf⟩, h.mvd h3⟩
/-- What is asked of a call ahead of the runes s. -/
structure AskR (X : Nat → Prop) (S : List Int) (p : Nat) (w : World) (s : List Int) (L : List Nd) (deep most : Nat) : Prop where
  scal : Scal s
  len : s.length ≤ 128
  slen : S.length ≤ 1000
  old : ∀ k, X k → k < w.heap.size
  dm : deep ≤ most
  ds : deep + s.length ≤ 1000
  ls : L.length + 4 * s.length ≤ 1000
  rg : RG X S w p s L deep most
/-- A function's contract ahead of runes shorter than n; c: the nodes more of what is no pattern. -/
def DoesR (F : FuncId) (n c : Nat) (x : List Int → Res Frag) : Prop := ∀ X S p w s L deep most, s.length ≤ n → AskR X S p w s L deep most → Calls Tryd.prog F #[.pointer (some ⟨p, 0, none⟩)] w (RfEnd X S p w L deep most (L.length + 4 * s.length + c) (x s))
/-- A node more where it is no pattern. -/
theorem rb_leaf {X : Nat → Prop} {S : List Int} {p : Nat} {w w' : World} {L : List Nd} {deep most N M : Nat} (kind : Int) (set : List Int) (h : RB X S w p M deep) (hM : M + 1 ≤ N) (hN : N ≤ 100000) (hm : Mvd p w' w) (tv : Value) (ht : w.ownsRow (p + 1) 21 1 tv set.length (set.map rCell)) (hzf : ∀ k, tv.ownBlock = some k → ¬ X k) :
    Calls Tryd.prog 30 #[.pointer (some ⟨p, 0, none⟩), .agg #[.int .i64 kind, .slice none 0 0, .int .i64 0, .int .i64 0, tv]] w (RfEnd X S p w' L deep most N none) :=
  (rb_node S p w M deep h ⟨kind, [], 0, 0, set⟩ (.slice none 0 0) tv ⟨World.ownsRow_nil _ _ _ _, ht⟩ (fun k hk => hk.elim (fun h => by cases h) (hzf k)) (by omega)).mono fun e w2 ⟨k, h1, h2, h3⟩ => ⟨k, h1, h2.up hM, hm.trans h3⟩
end Go.Proofs.YthmhmckkkceclaaDoor
/-
  The document's parser: atom.
-/
namespace Go.Proofs.YthmhmckkkceclaaDoor
open Go.RowKit
theorem AskR.next {X : Nat → Prop} {S : List Int} {p : Nat} {w w' : World} {c : Int} {s : List Int} {L : List Nd} {deep most : Nat} (h : AskR X S p w (c :: s) L deep most) (h' : RG X S w' p s L deep most) (hs : w.heap.size ≤ w'.heap.size) : AskR X S p w' s L deep most :=
  ⟨h.scal.tail, by have := h.len; simp only [List.length_cons] at this; omega, h.slen, fun k hk => Nat.lt_of_lt_of_le (h.old k hk) hs, h.dm, by have := h.ds; simp only [List.length_cons] at this; omega, by have := h.ls; simp only [List.length_cons] at this; omega, h'⟩
set_option maxRecDepth 100000 in
set_option maxHeartbeats 10000000 in
theorem ref_atom_par (n : Nat) (alt : List Int → Res Frag) (hpart : ∀ s f r, alt s = some (f, r) → Part 1 s f r) (IH : DoesR 21 n 4 alt) (X : Nat → Prop) (S : List Int) (p : Nat) (w : World) (s : List Int) (L : List Nd) (deep most : Nat) (hn : s.length ≤ n) (h : AskR X S p w (40 :: s) L deep most) :
    Calls Tryd.prog 38 #[.pointer (some ⟨p, 0, none⟩)] w (RfEnd X S p w L deep most (L.length + 4 * (s.length + 1) + 1) (parP alt s)) := by
  have C := rg_peek h.slen p w _ L deep most h.rg
  rw [show headZ (40 :: s) = 40 from rfl] at C
  have HS := Lib.hid (fun w1 hb => h.rg.step (w1 := w1) hb)
  have hSl := h.slen
  have hds := h.ds
  have hls := h.ls
  have hdm := h.dm
  have hlen := h.len
  have HOLD := Lib.hid h.old
  simp only [List.length_cons] at hds hls hlen
  have HSC := Lib.hid h.scal.tail
  have CA := Lib.hid (fun W m (hs : w.heap.size ≤ W.heap.size) (hW : RG X S W p s L (deep + 1) m) (hm : deep + 1 ≤ m) => IH X S p W s L (deep + 1) m hn ⟨HSC.out, by omega, hSl, fun k hk => Nat.lt_of_lt_of_le (HOLD.out k hk) hs, hm, by omega, by omega, hW⟩)
  obtain ⟨Y, hY⟩ : ∃ Y, parP alt s = Y := ⟨_, rfl⟩
  rw [hY]
  have HY := Lib.hid hY
  clear h hY hn IH
  obtain ⟨NN, hNN⟩ : ∃ NN, L.length + 4 * (s.length + 1) + 1 = NN := ⟨_, rfl⟩
  have HNN := Lib.hid hNN
  rw [hNN]
  clear hNN
  go_enter Tryd.func38, Tryd.ntmps38
  go_upto_region 5 with (go_at_call 34; refine C.mono ?_; rintro e w1 ⟨rfl, hb⟩; obtain ⟨at', hlt, x1, x2, hst⟩ := HS.out w1 hb; have HST := Lib.hid hst; clear hst)
  obtain ⟨w2, hw2⟩ : ∃ w2, w1.setCell ⟨p, 1, none⟩ (.int .i64 ((at' : Int) + 1)) = w2 := ⟨_, rfl⟩
  have H2 := Lib.hid (HST.out _ hw2.symm)
  rw [hw2]
  clear hw2 x1 x2 HST HS hlt hb C
  obtain ⟨d1, d2, d3⟩ := H2.out.1.deep
  have H3 := Lib.hid (d3 (deep + 1))
  clear d3
  have hcast : ((deep + 1 : Nat) : Int) = (deep : Int) + 1 := by omega
  rw [hcast] at H3
  go_upto_region 6 with fail
  obtain ⟨w3, hw3⟩ : ∃ w3, w2.setCell ⟨p, 3, none⟩ (.int .i64 ((deep : Int) + 1)) = w3 := ⟨_, rfl⟩
  rw [hw3] at H3 ⊢
  clear hw3 d1 d2
  obtain ⟨e1, e2, -⟩ := H3.out.1.deep
  obtain ⟨m1, m2, -⟩ := H3.out.1.most
  rw [hcast] at e1
  have HM3 := Lib.hid (H2.out.2.trans H3.out.2)
  go_cut [32] from 24 to 32 (fun vv wx => vv = .bool (decide (most < deep + 1)) ∧ Below w3.heap.size w3 wx)
  case first =>
    go_quiet (fail)
    go_wp2_with fail
    go_meet
    refine ⟨?_, below_dN (Below.refl _ _) _⟩
    congr 1
    by_cases hh : most < deep + 1
    · rw [decide_eq_true hh]
      exact decide_eq_true (by omega)
    · rw [decide_eq_false hh]
      exact decide_eq_false (by omega)
  case rest =>
    obtain ⟨rfl, hbc⟩ := hcut
    have hg4 := H3.out.1.keptB hbc
    have hm4 := HM3.out.trans (Mvd.b hbc H3.out.1.lt)
    obtain ⟨a1, a2, -⟩ := hg4.deep
    obtain ⟨b1, b2, b3⟩ := hg4.most
    rw [hcast] at a1
    have H4 := Lib.hid (And.intro hg4 hm4)
    have H5 := Lib.hid (b3 (max most (deep + 1)))
    clear hg4 hm4 b3 e1 e2 m1 m2 hbc
    obtain ⟨w5, hw5⟩ : ∃ w5, (if most < deep + 1 then wc.setCell ⟨p, 4, none⟩ (.int .i64 ((deep : Int) + 1)) else wc) = w5 := ⟨_, rfl⟩
    have h6 : RG X S w5 p s L (deep + 1) (max most (deep + 1)) ∧ Mvd p w w5 := by
      rw [← hw5]
      by_cases hh : most < deep + 1
      · rw [if_pos hh]
        have h5 := H5.out
        rw [show max most (deep + 1) = deep + 1 by omega, hcast] at h5
        rw [show max most (deep + 1) = deep + 1 by omega]
        exact ⟨h5.1, H4.out.2.trans h5.2⟩
      · rw [if_neg hh, show max most (deep + 1) = most by omega]
        exact H4.out
    have H6 := Lib.hid h6
    have CA6 := CA.out w5 _ h6.2.size h6.1 (by omega)
    clear h6 H5 H4 H3 H2 HM3 CA
    by_cases hh : most < deep + 1
    case' pos =>
      rw [if_pos hh] at hw5
      rw [decide_eq_true hh]
      have HW5 := Lib.hid hw5
      clear hw5 hh
      go_upto_region 8 with fail
      rw [HW5.out]
      clear HW5
    case' neg =>
      rw [if_neg hh] at hw5
      rw [decide_eq_false hh]
      have HW5 := Lib.hid hw5
      clear hw5 hh
      go_upto_region 8 with fail
      rw [HW5.out]
      clear HW5
    all_goals
      clear a1 a2 b1 b2
      cases halt : alt s with
      | none =>
        have hYn : Y = none := by
          rw [← HY.out]
          unfold parP
          rw [halt]
        rw [halt] at CA6
        have HYN := Lib.hid hYn
        clear hYn halt
        go_upto_region 9 with (go_at_call 21; refine CA6.mono ?_; rintro e w7 ⟨q, rfl, hb7, hm7⟩; have H7 := Lib.hid (And.intro hb7 hm7); clear hb7 hm7)
        have CI := rb_is p w7 _ _ 41 (by decide) H7.out.1
        go_upto_region 10 with (go_at_call 28; refine CI.mono ?_; rintro e w8 ⟨rfl, hb8, hm8⟩; have H8 := Lib.hid (And.intro hb8 hm8); clear hb8 hm8)
        clear CI CA6
        obtain ⟨s1, s2, s3, s4⟩ := H8.out.1.spoil
        have H9 := Lib.hid (And.intro s3 s4)
        clear s3 s4
        go_upto_region 11 with fail
        obtain ⟨w9, hw9⟩ : ∃ w9, w8.setCell ⟨p, 5, none⟩ (.bool true) = w9 := ⟨_, rfl⟩
        rw [hw9] at H9 ⊢
        clear hw9 s1 s2
        obtain ⟨t1, t2, t3⟩ := H9.out.1.deep
        have HT := Lib.hid (t3 deep)
        rw [hcast] at t1
        clear t3
        go_wp2_with fail
        go_ret
        have ht := HT.out
        rw [HYN.out]
        refine ⟨q, rfl, ?_, (H6.out.2.trans H7.out.2).trans (H8.out.2.trans (H9.out.2.trans ?_))⟩
        · exact RB.up (by first | exact ht.1 | (simpa using ht.1)) (by have := HNN.out; omega)
        · first | exact ht.2 | (simpa using ht.2)
      | some x =>
        obtain ⟨f, r1⟩ := x
        have hpt := hpart _ _ _ halt
        have hfew := hpt.few
        rw [halt] at CA6
        have HA := Lib.hid halt
        clear halt hpt
        obtain ⟨q, hq⟩ : ∃ q, L.length + f.nodes.length - 1 = q := ⟨_, rfl⟩
        have CA7 : Calls Tryd.prog 21 #[.pointer (some ⟨p, 0, none⟩)] w5 fun e w' => e = .returned (.int .i64 (q : Int)) ∧ RG X S w' p r1 (L ++ mv L.length f.nodes) (deep + 1) (max (max most (deep + 1)) (deep + 1 + f.deep)) ∧ Mvd p w5 w' := by
          rw [← hq]
          exact CA6
        have HQ := Lib.hid hq
        clear CA6 hq
        go_upto_region 9 with (go_at_call 21; refine CA7.mono ?_; rintro e w7 ⟨rfl, hb7, hm7⟩; have H7 := Lib.hid (And.intro hb7 hm7); clear hb7 hm7)
        clear CA7
        cases hn : nextP 41 r1 with
        | none =>
          have hYn : Y = none := by
            rw [← HY.out]
            unfold parP
            rw [HA.out]
            simp only
            rw [hn]
          have HYN := Lib.hid hYn
          have CI := rg_is_no hSl p w7 r1 _ _ _ 41 (by decide) hn H7.out.1
          clear hYn hn
          go_upto_region 10 with (go_at_call 28; refine CI.mono ?_; rintro e w8 ⟨rfl, hb8, hm8⟩; have H8 := Lib.hid (And.intro hb8 hm8); clear hb8 hm8)
          clear CI
          obtain ⟨s1, s2, s3, s4⟩ := H8.out.1.spoil
          have H9 := Lib.hid (And.intro s3 s4)
          clear s3 s4
          go_upto_region 11 with fail
          obtain ⟨w9, hw9⟩ : ∃ w9, w8.setCell ⟨p, 5, none⟩ (.bool true) = w9 := ⟨_, rfl⟩
          rw [hw9] at H9 ⊢
          clear hw9 s1 s2
          obtain ⟨t1, t2, t3⟩ := H9.out.1.deep
          have HT := Lib.hid (t3 deep)
          rw [hcast] at t1
          clear t3
          go_wp2_with fail
          go_ret
          have ht := HT.out
          rw [HYN.out]
          refine ⟨q, rfl, ?_, (H6.out.2.trans H7.out.2).trans (H8.out.2.trans (H9.out.2.trans ?_))⟩
          · exact RB.up (by first | exact ht.1 | (simpa using ht.1)) (by have := HNN.out; rw [List.length_append, mv_length]; omega)
          · first | exact ht.2 | (simpa using ht.2)
        | some r2 =>
          have hYn : Y = some (upF f, r2) := by
            rw [← HY.out]
            unfold parP
            rw [HA.out]
            simp only
            rw [hn]
          have HYN := Lib.hid hYn
          have hr := next_ends hn
          subst hr
          have CI := rg_is_yes hSl p w7 41 r2 _ _ _ H7.out.1
          clear hYn hn
          go_upto_region 11 with (go_at_call 28; refine CI.mono ?_; rintro e w8 ⟨rfl, hb8, hm8⟩; have H8 := Lib.hid (And.intro hb8 hm8); clear hb8 hm8)
          clear CI
          obtain ⟨t1, t2, t3⟩ := H8.out.1.deep
          have HT := Lib.hid (t3 deep)
          rw [hcast] at t1
          clear t3
          go_wp2_with fail
          go_ret
          have ht := HT.out
          rw [HYN.out]
          refine ⟨by rw [← HQ.out]; rfl, ?_, (H6.out.2.trans H7.out.2).trans (H8.out.2.trans ?_)⟩
          · rw [show max most (deep + (upF f).deep) = max (max most (deep + 1)) (deep + 1 + f.deep) from by show max most (deep + (f.deep + 1)) = _; omega]
            first | exact ht.1 | (simpa using ht.1)
          · first | exact ht.2 | (simpa using ht.2)
end Go.Proofs.YthmhmckkkceclaaDoor
/-
  The document's parser: atom, whole.
-/
namespace Go.Proofs.YthmhmckkkceclaaDoor
open Go.RowKit
def specialT3 : ByteArray := ⟨#[41, 93, 123, 125, 42, 43, 63, 124]⟩
theorem own_free {w : World} {X : Nat → Prop} {B : Nat} {e : TypeId} {size n : Nat} {v : Value} {xs : List Value} {w0 : World} (h : w.ownsRow B e size v n xs) (hB : w0.heap.size ≤ B) (hX : ∀ k, X k → k < w0.heap.size) : ∀ k, v.ownBlock = some k → ¬ X k := fun k hk hx => by
  have := (h.lt k hk).1
  have := hX k hx
  omega
set_option maxRecDepth 100000 in
set_option maxHeartbeats 10000000 in
theorem ref_atom_nil (X : Nat → Prop) (S : List Int) (p : Nat) (w : World) (L : List Nd) (deep most : Nat) (h : AskR X S p w [] L deep most) :
    Calls Tryd.prog 38 #[.pointer (some ⟨p, 0, none⟩)] w (RfEnd X S p w L deep most (L.length + 1) none) := by
  have HOLD := Lib.hid h.old
  have hS := h.slen
  have C := rg_peek hS p w [] L deep most h.rg
  have HO := Lib.hid (fun w1 hb => h.rg.over (w1 := w1) hb)
  have hls := h.ls
  rw [show headZ [] = -1 from rfl] at C
  clear h
  go_enter Tryd.func38, Tryd.ntmps38
  go_upto_region 25 with (go_at_call 34; refine C.mono ?_; rintro e w1 ⟨rfl, hb⟩; obtain ⟨at', hat, x1, x2, x3, x4, hst⟩ := HO.out w1 hb; have HST := Lib.hid hst; have hat2 : at' ≤ 1000 := (by omega); clear hst hat)
  obtain ⟨w3, hw3⟩ : ∃ w3, (w1.setCell ⟨p, 1, none⟩ (.int .i64 ((at' : Int) + 1))).setCell ⟨p, 5, none⟩ (.bool true) = w3 := ⟨_, rfl⟩
  have H3 := Lib.hid (HST.out _ hw3.symm)
  rw [hw3]
  clear hw3 x1 x2 x3 x4 HST HO C hb
  have hb2 := belowA' (o := .cells #[.int .i32 (-1), .int .i32 (-1)] 21) (Below.refl w3.heap.size w3) (Nat.le_refl _)
  have ho := owns_new w3 #[.int .i32 (-1), .int .i32 (-1)] 21 2 (by simp) (by unfold maxLen; omega)
  have CN := rb_leaf (L := L) (most := most) (N := L.length + 1) 2 [-1, -1] (H3.out.1.keptB hb2) (Nat.le_refl _) (by have := hls; omega) (H3.out.2.trans (Mvd.b hb2 H3.out.1.lt)) _ (owns_base ho H3.out.1.lt) (own_free ho H3.out.2.size HOLD.out)
  clear ho
  go_wp2_with (go_at_call 30; refine CN.mono ?_; rintro e w2 h2; obtain ⟨k2, e2⟩ := h2.int; subst e2; have H2 := Lib.hid h2; clear h2)
  go_ret
  exact H2.out
set_option maxRecDepth 100000 in
set_option maxHeartbeats 10000000 in
theorem ref_atom (n : Nat) (alt : List Int → Res Frag) (hpart : ∀ s f r, alt s = some (f, r) → Part 1 s f r) (IH : DoesR 21 n 4 alt) : DoesR 38 (n + 1) 1 (atomP alt) := by
  intro X S p w s L deep most hn h
  have HOLD := Lib.hid h.old
  have hS := h.slen
  have C := rg_peek hS p w s L deep most h.rg
  cases s with
  | nil =>
    exact ref_atom_nil X S p w L deep most h
  | cons c s =>
    rw [show headZ (c :: s) = c from rfl] at C
    simp only [List.length_cons] at hn ⊢
    by_cases h40 : c = 40
    · subst h40
      exact ref_atom_par n alt hpart IH X S p w s L deep most (by omega) h
    have g40 : (c == 40) = false := by simpa using h40
    have HS := Lib.hid (fun w1 hb => h.rg.step (w1 := w1) hb)
    have hst := h.scal.tail
    have hc0 : 0 ≤ c := (h.scal.runes c (by simp)).1
    have hneg : decide (c < 0) = false := decide_eq_false (by omega)
    have hdm := h.dm
    have hls := h.ls
    have hlen := h.len
    simp only [List.length_cons] at hls hlen
    have e1 : atomP alt (c :: s) = if c = 91 then setF (clsP s) else if c = 46 then some (leaf 2 [0, 9, 11, 1114111], s) else if c = 94 then some (leaf 6 [], s) else if c = 36 then some (leaf 7 [], s)
        else if c = 92 then setF (escP s) else if c ∈ special then none else some (leaf 2 [c, c], s) := by
      simp only [atomP, if_neg h40]
    rw [e1]
    clear h e1 IH hn hc0
    obtain ⟨NN, hNN⟩ : ∃ NN, L.length + 4 * (s.length + 1) + 1 = NN := ⟨_, rfl⟩
    have hNN1 : L.length + 1 ≤ NN := by omega
    have hNN2 : NN ≤ 100000 := by omega
    rw [hNN]
    clear hNN
    by_cases h91 : c = 91
    · subst h91
      rw [if_pos rfl]
      have CC := Lib.hid (fun W (hs : w.heap.size ≤ W.heap.size) hW => ref_class S hS p W s L deep most hst (by omega) hdm (by omega) (fun k hk => Nat.lt_of_lt_of_le (HOLD.out k hk) hs) hW)
      obtain ⟨Y, hY⟩ : ∃ Y, setF (clsP s) = Y := ⟨_, rfl⟩
      rw [hY] at CC ⊢
      clear hY hneg
      go_enter Tryd.func38, Tryd.ntmps38
      go_upto_region 14 with (go_at_call 34; refine C.mono ?_; rintro e w1 ⟨rfl, hb⟩; obtain ⟨at', hlt, x1, x2, hst⟩ := HS.out w1 hb; have HST := Lib.hid hst; clear hst)
      obtain ⟨w3, hw3⟩ : ∃ w3, w1.setCell ⟨p, 1, none⟩ (.int .i64 ((at' : Int) + 1)) = w3 := ⟨_, rfl⟩
      have H3 := Lib.hid (HST.out _ hw3.symm)
      rw [hw3]
      clear hw3 x1 x2 HST HS C hb hlt
      have CC1 := CC.out _ H3.out.2.size H3.out.1
      go_wp2_with (go_at_call 44; refine CC1.mono ?_; rintro e w2 h2; obtain ⟨k2, e2⟩ := h2.int; subst e2; have H2 := Lib.hid h2; clear h2)
      go_ret
      exact (H2.out.from H3.out.2).up (by omega)
    rw [if_neg h91]
    have g91 : (c == 91) = false := by simpa using h91
    by_cases h46 : c = 46
    · subst h46
      rw [if_pos rfl]
      clear g40 g91 h40 h91 hneg
      go_enter Tryd.func38, Tryd.ntmps38
      go_upto_region 16 with (go_at_call 34; refine C.mono ?_; rintro e w1 ⟨rfl, hb⟩; obtain ⟨at', hlt, x1, x2, hst⟩ := HS.out w1 hb; have HST := Lib.hid hst; clear hst)
      obtain ⟨w3, hw3⟩ : ∃ w3, w1.setCell ⟨p, 1, none⟩ (.int .i64 ((at' : Int) + 1)) = w3 := ⟨_, rfl⟩
      have H3 := Lib.hid (HST.out _ hw3.symm)
      rw [hw3]
      clear hw3 x1 x2 HST HS C hb hlt
      have hb2 := belowA' (o := .cells #[.int .i32 0, .int .i32 9, .int .i32 11, .int .i32 1114111] 21) (Below.refl w3.heap.size w3) (Nat.le_refl _)
      have ho := owns_new w3 #[.int .i32 0, .int .i32 9, .int .i32 11, .int .i32 1114111] 21 4 (by simp) (by unfold maxLen; omega)
      have CN := rf_node (N := NN) 2 [0, 9, 11, 1114111] s hdm (by omega) (H3.out.1.keptB hb2) (H3.out.2.trans (Mvd.b hb2 H3.out.1.lt)) _ (owns_base ho H3.out.1.lt) (own_free ho H3.out.2.size HOLD.out)
      clear ho
      go_wp2_with (go_at_call 30; refine CN.mono ?_; rintro e w2 h2; obtain ⟨k2, e2⟩ := h2.int; subst e2; have H2 := Lib.hid h2; clear h2)
      go_ret
      exact H2.out
    rw [if_neg h46]
    have g46 : (c == 46) = false := by simpa using h46
    by_cases h94 : c = 94
    · subst h94
      rw [if_pos rfl]
      clear g40 g91 g46 h40 h91 h46 hneg
      go_enter Tryd.func38, Tryd.ntmps38
      go_upto_region 18 with (go_at_call 34; refine C.mono ?_; rintro e w1 ⟨rfl, hb⟩; obtain ⟨at', hlt, x1, x2, hst⟩ := HS.out w1 hb; have HST := Lib.hid hst; clear hst)
      obtain ⟨w3, hw3⟩ : ∃ w3, w1.setCell ⟨p, 1, none⟩ (.int .i64 ((at' : Int) + 1)) = w3 := ⟨_, rfl⟩
      have H3 := Lib.hid (HST.out _ hw3.symm)
      rw [hw3]
      clear hw3 x1 x2 HST HS C hb hlt
      have CN := rf_node (N := NN) 6 [] s hdm (by omega) H3.out.1 H3.out.2 (.slice none 0 0) (World.ownsRow_nil _ _ _ _) (fun k hk => by cases hk)
      go_wp2_with (go_at_call 30; refine CN.mono ?_; rintro e w2 h2; obtain ⟨k2, e2⟩ := h2.int; subst e2; have H2 := Lib.hid h2; clear h2)
      go_ret
      exact H2.out
    rw [if_neg h94]
    have g94 : (c == 94) = false := by simpa using h94
    by_cases h36 : c = 36
    · subst h36
      rw [if_pos rfl]
      clear g40 g91 g46 g94 h40 h91 h46 h94 hneg
      go_enter Tryd.func38, Tryd.ntmps38
      go_upto_region 20 with (go_at_call 34; refine C.mono ?_; rintro e w1 ⟨rfl, hb⟩; obtain ⟨at', hlt, x1, x2, hst⟩ := HS.out w1 hb; have HST := Lib.hid hst; clear hst)
      obtain ⟨w3, hw3⟩ : ∃ w3, w1.setCell ⟨p, 1, none⟩ (.int .i64 ((at' : Int) + 1)) = w3 := ⟨_, rfl⟩
      have H3 := Lib.hid (HST.out _ hw3.symm)
      rw [hw3]
      clear hw3 x1 x2 HST HS C hb hlt
      have CN := rf_node (N := NN) 7 [] s hdm (by omega) H3.out.1 H3.out.2 (.slice none 0 0) (World.ownsRow_nil _ _ _ _) (fun k hk => by cases hk)
      go_wp2_with (go_at_call 30; refine CN.mono ?_; rintro e w2 h2; obtain ⟨k2, e2⟩ := h2.int; subst e2; have H2 := Lib.hid h2; clear h2)
      go_ret
      exact H2.out
    rw [if_neg h36]
    have g36 : (c == 36) = false := by simpa using h36
    by_cases h92 : c = 92
    · subst h92
      rw [if_pos rfl]
      have CE := Lib.hid (fun W hW => rg_escape (X := X) hS p W s L deep most hst hW)
      obtain ⟨XX, hX⟩ : ∃ XX, escP s = XX := ⟨_, rfl⟩
      rw [hX] at CE ⊢
      clear g40 g91 g46 g94 g36 hX h40 h91 h46 h94 h36 hneg
      go_enter Tryd.func38, Tryd.ntmps38
      go_upto_region 22 with (go_at_call 34; refine C.mono ?_; rintro e w1 ⟨rfl, hb⟩; obtain ⟨at', hlt, x1, x2, hst⟩ := HS.out w1 hb; have HST := Lib.hid hst; clear hst)
      obtain ⟨w3, hw3⟩ : ∃ w3, w1.setCell ⟨p, 1, none⟩ (.int .i64 ((at' : Int) + 1)) = w3 := ⟨_, rfl⟩
      have H3 := Lib.hid (HST.out _ hw3.symm)
      rw [hw3]
      clear hw3 x1 x2 HST HS C hb hlt
      have CE1 := CE.out _ H3.out.1
      cases XX with
      | none =>
        have HN := Lib.hid (fun W tv z (hp : RB X S W p L.length deep) (hm : Mvd p w W) ho hz => rb_leaf (w' := w) (L := L) (most := most) (N := NN) 2 [z, z] hp (by omega) (by omega) hm tv ho hz)
        go_wp2_with (first | (go_at_call 45; refine CE1.mono ?_; rintro e w4 ⟨v4, z, rfl, ho4, hp4, hm4⟩; obtain ⟨va, vc, rfl⟩ := owns_slice ho4; have CN := HN.out _ _ z hp4 (H3.out.2.trans hm4) (owns_base ho4 H3.out.1.lt) (own_free ho4 H3.out.2.size HOLD.out); clear ho4 hp4 hm4) | (go_at_call 30; refine CN.mono ?_; rintro e w2 h2; obtain ⟨k2, e2⟩ := h2.int; subst e2; have H2 := Lib.hid h2; clear h2))
        go_ret
        exact H2.out
      | some x =>
        obtain ⟨u, r1⟩ := x
        have HN := Lib.hid (fun W tv (hp : RG X S W p r1 L deep most) (hm : Mvd p w W) ho hz => rf_node (w' := w) (N := NN) 2 u r1 hdm (by omega) hp hm tv ho hz)
        go_wp2_with (first | (go_at_call 45; refine CE1.mono ?_; rintro e w4 ⟨v4, rfl, ho4, hp4, hm4⟩; obtain ⟨va, vc, rfl⟩ := owns_slice ho4; have CN := HN.out _ _ hp4 (H3.out.2.trans hm4) (owns_base ho4 H3.out.1.lt) (own_free ho4 H3.out.2.size HOLD.out); clear ho4 hp4 hm4) | (go_at_call 30; refine CN.mono ?_; rintro e w2 h2; obtain ⟨k2, e2⟩ := h2.int; subst e2; have H2 := Lib.hid h2; clear h2))
        go_ret
        exact H2.out
    rw [if_neg h92]
    have g92 : (c == 92) = false := by simpa using h92
    have CI := fun W => ref_in c specialT3 W (by decide)
    rw [show specialT3.data.toList.map (fun b => (b.toNat : Int)) = [41, 93, 123, 125, 42, 43, 63, 124] from by decide] at CI
    unfold specialT3 at CI
    have HC := Lib.hid CI
    have hsp : c ∈ special ↔ c ∈ ([41, 93, 123, 125, 42, 43, 63, 124] : List Int) := by
      unfold special
      simp only [List.mem_cons, List.not_mem_nil, or_false]
      omega
    clear CI h40 h91 h46 h94 h36 h92
    by_cases hm : c ∈ ([41, 93, 123, 125, 42, 43, 63, 124] : List Int)
    · rw [if_pos (hsp.2 hm)]
      rw [decide_eq_true hm] at HC
      clear hm hsp
      go_enter Tryd.func38, Tryd.ntmps38
      go_upto_region 24 with (first | (go_at_call 34; refine C.mono ?_; rintro e w1 ⟨rfl, hb⟩; obtain ⟨at', hlt, x1, x2, hst⟩ := HS.out w1 hb; have HST := Lib.hid hst; clear hst) | (go_at_call 46; refine (HC.out _).mono ?_; rintro e w2 ⟨rfl, rfl⟩))
      obtain ⟨w3, hw3⟩ : ∃ w3, w1.setCell ⟨p, 1, none⟩ (.int .i64 ((at' : Int) + 1)) = w3 := ⟨_, rfl⟩
      have H3 := Lib.hid (HST.out _ hw3.symm)
      rw [hw3]
      clear hw3 x1 x2 HST HS C hb hlt HC
      obtain ⟨y1, y2, y3, y4⟩ := H3.out.1.spoil
      have H4 := Lib.hid (And.intro y3 (H3.out.2.trans y4))
      clear y3 y4
      go_upto_region 25 with fail
      obtain ⟨w4, hw4⟩ : ∃ w4, w3.setCell ⟨p, 5, none⟩ (.bool true) = w4 := ⟨_, rfl⟩
      rw [hw4] at H4 ⊢
      clear hw4 y1 y2
      have hb2 := belowA' (o := .cells #[.int .i32 c, .int .i32 c] 21) (Below.refl w4.heap.size w4) (Nat.le_refl _)
      have ho := owns_new w4 #[.int .i32 c, .int .i32 c] 21 2 (by simp) (by unfold maxLen; omega)
      have CN := rb_leaf (L := L) (most := most) (N := NN) 2 [c, c] (H4.out.1.keptB hb2) hNN1 hNN2 (H4.out.2.trans (Mvd.b hb2 H4.out.1.lt)) _ (owns_base ho H4.out.1.lt) (own_free ho H4.out.2.size HOLD.out)
      clear ho
      go_wp2_with (go_at_call 30; refine CN.mono ?_; rintro e w2 h2; obtain ⟨k2, e2⟩ := h2.int; subst e2; have H2 := Lib.hid h2; clear h2)
      go_ret
      exact H2.out
    · rw [if_neg (fun h => hm (hsp.1 h))]
      rw [decide_eq_false hm] at HC
      clear hm hsp
      go_enter Tryd.func38, Tryd.ntmps38
      go_upto_region 25 with (first | (go_at_call 34; refine C.mono ?_; rintro e w1 ⟨rfl, hb⟩; obtain ⟨at', hlt, x1, x2, hst⟩ := HS.out w1 hb; have HST := Lib.hid hst; clear hst) | (go_at_call 46; refine (HC.out _).mono ?_; rintro e w2 ⟨rfl, rfl⟩))
      obtain ⟨w3, hw3⟩ : ∃ w3, w1.setCell ⟨p, 1, none⟩ (.int .i64 ((at' : Int) + 1)) = w3 := ⟨_, rfl⟩
      have H3 := Lib.hid (HST.out _ hw3.symm)
      rw [hw3]
      clear hw3 x1 x2 HST HS C hb hlt HC
      have hb2 := belowA' (o := .cells #[.int .i32 c, .int .i32 c] 21) (Below.refl w3.heap.size w3) (Nat.le_refl _)
      have ho := owns_new w3 #[.int .i32 c, .int .i32 c] 21 2 (by simp) (by unfold maxLen; omega)
      have CN := rf_node (N := NN) 2 [c, c] s hdm (by omega) (H3.out.1.keptB hb2) (H3.out.2.trans (Mvd.b hb2 H3.out.1.lt)) _ (owns_base ho H3.out.1.lt) (own_free ho H3.out.2.size HOLD.out)
      clear ho
      go_wp2_with (go_at_call 30; refine CN.mono ?_; rintro e w2 h2; obtain ⟨k2, e2⟩ := h2.int; subst e2; have H2 := Lib.hid h2; clear h2)
      go_ret
      exact H2.out
end Go.Proofs.YthmhmckkkceclaaDoor
