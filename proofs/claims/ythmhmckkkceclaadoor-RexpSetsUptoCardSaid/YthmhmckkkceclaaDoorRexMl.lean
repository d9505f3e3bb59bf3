/-
  The document's parser in memory; peek, is, in, digit.
-/
import Derived.Test.YthmhmckkkceclaaDoorRexAl
namespace Go.Proofs.YthmhmckkkceclaaDoor
open Go.RowKit
def refObj (sv ov : Value) (at' deep most : Int) (bad : Bool) : Obj := .cells #[sv, .int .i64 at', ov, .int .i64 deep, .int .i64 most, .bool bad] 54 (0, 0)
/-- The document's parser: all its runes, the place, the nodes. -/
structure QSt (w : World) (p : Nat) (sv ov : Value) (S : List Int) (at' : Nat) (Z : List NdL) (deep most : Nat) (bad : Bool) : Prop where
  own : w.heap[p]? = some (refObj sv ov at' deep most bad)
  row : ∀ W, Below p w W → argRow W sv S.length 1 (S.map rCell)
  out : NOwn w (p + 1) ov Z
/-- .. ahead of the runes s: it is a pattern so far. -/
def QG (S : List Int) (sv ov : Value) (Z : List NdL) (w : World) (p : Nat) (s : List Int) (deep most : Nat) : Prop := ∃ at', at' + s.length = S.length ∧ S.drop at' = s ∧ QSt w p sv ov S at' Z deep most false
/-- It is no pattern. -/
def QB (S : List Int) (sv ov : Value) (Z : List NdL) (w : World) (p : Nat) (deep : Nat) : Prop := ∃ at' most, at' ≤ S.length + 1 ∧ QSt w p sv ov S at' Z deep most true
theorem QSt.lt {w : World} {p : Nat} {sv ov : Value} {S : List Int} {at' : Nat} {Z : List NdL} {deep most : Nat} {bad : Bool} (h : QSt w p sv ov S at' Z deep most bad) : p < w.heap.size := (Array.getElem?_eq_some_iff.1 h.own).1
theorem QSt.cells {w : World} {p : Nat} {sv ov : Value} {S : List Int} {at' : Nat} {Z : List NdL} {deep most : Nat} {bad : Bool} (h : QSt w p sv ov S at' Z deep most bad) :
    (w.cell? ⟨p, 0, none⟩ = some sv ∧ w.cell? ⟨p, 1, none⟩ = some (.int .i64 (at' : Int)) ∧ w.cell? ⟨p, 2, none⟩ = some ov ∧ w.cell? ⟨p, 3, none⟩ = some (.int .i64 (deep : Int)) ∧ w.cell? ⟨p, 4, none⟩ = some (.int .i64 (most : Int)) ∧ w.cell? ⟨p, 5, none⟩ = some (.bool bad)) ∧
    ∀ j, w.frozen? ⟨p, j, none⟩ = false :=
  ⟨⟨by rw [Lib.cell_of_heap h.own]; rfl, by rw [Lib.cell_of_heap h.own]; rfl, by rw [Lib.cell_of_heap h.own]; rfl, by rw [Lib.cell_of_heap h.own]; rfl, by rw [Lib.cell_of_heap h.own]; rfl, by rw [Lib.cell_of_heap h.own]; rfl⟩, fun j => Lib.frozen_of_heap h.own j⟩
theorem QSt.keptB {w w' : World} {p : Nat} {sv ov : Value} {S : List Int} {at' : Nat} {Z : List NdL} {deep most : Nat} {bad : Bool} (h : QSt w p sv ov S at' Z deep most bad) (hb : Below w.heap.size w w') : QSt w' p sv ov S at' Z deep most bad :=
  ⟨by rw [hb.block p h.lt]; exact h.own, fun W hW => h.row W ((hb.mono (Nat.le_of_lt h.lt)).trans hW), h.out.keptB hb⟩
theorem QSt.mvd {w w' : World} {p : Nat} {sv ov : Value} {S : List Int} {at' : Nat} {Z : List NdL} {deep most : Nat} {bad : Bool} (h : QSt w p sv ov S at' Z deep most bad) (hg : w.grownBy w' (some p)) : Mvd p w w' :=
  Mvd.ofGrown hg (Nat.le_of_lt h.lt) (fun k hk => by cases hk; exact ⟨Nat.le_refl _, _, _, _, h.own, .inr (.inl rfl)⟩)
/-- One of its cells turns. -/
theorem QSt.set {w w' : World} {p : Nat} {sv ov : Value} {S : List Int} {at' at2 : Nat} {Z : List NdL} {deep most deep2 most2 : Nat} {bad bad2 : Bool} (h : QSt w p sv ov S at' Z deep most bad) (hg : w.grownBy w' (some p)) (ho : w'.heap[p]? = some (refObj sv ov at2 deep2 most2 bad2)) :
    QSt w' p sv ov S at2 Z deep2 most2 bad2 :=
  ⟨ho, fun W hW => h.row W ((h.mvd hg).low.trans hW), h.out.kept hg (fun k hk => by cases hk; omega)⟩
theorem QSt.setAt {w : World} {p : Nat} {sv ov : Value} {S : List Int} {at' : Nat} {Z : List NdL} {deep most : Nat} {bad : Bool} (h : QSt w p sv ov S at' Z deep most bad) (n : Nat) : QSt (w.setCell ⟨p, 1, none⟩ (.int .i64 (n : Int))) p sv ov S n Z deep most bad :=
  h.set (gset w p 1 _) (by rw [heap_setCell_same _ _ _ _ _ _ h.own]; rfl)
theorem QSt.setDeep {w : World} {p : Nat} {sv ov : Value} {S : List Int} {at' : Nat} {Z : List NdL} {deep most : Nat} {bad : Bool} (h : QSt w p sv ov S at' Z deep most bad) (n : Nat) : QSt (w.setCell ⟨p, 3, none⟩ (.int .i64 (n : Int))) p sv ov S at' Z n most bad :=
  h.set (gset w p 3 _) (by rw [heap_setCell_same _ _ _ _ _ _ h.own]; rfl)
theorem QSt.setMost {w : World} {p : Nat} {sv ov : Value} {S : List Int} {at' : Nat} {Z : List NdL} {deep most : Nat} {bad : Bool} (h : QSt w p sv ov S at' Z deep most bad) (n : Nat) : QSt (w.setCell ⟨p, 4, none⟩ (.int .i64 (n : Int))) p sv ov S at' Z deep n bad :=
  h.set (gset w p 4 _) (by rw [heap_setCell_same _ _ _ _ _ _ h.own]; rfl)
theorem QSt.setBad {w : World} {p : Nat} {sv ov : Value} {S : List Int} {at' : Nat} {Z : List NdL} {deep most : Nat} {bad : Bool} (h : QSt w p sv ov S at' Z deep most bad) (b : Bool) : QSt (w.setCell ⟨p, 5, none⟩ (.bool b)) p sv ov S at' Z deep most b :=
  h.set (gset w p 5 _) (by rw [heap_setCell_same _ _ _ _ _ _ h.own]; rfl)
theorem QG.lt {S : List Int} {sv ov : Value} {Z : List NdL} {w : World} {p : Nat} {s : List Int} {deep most : Nat} (h : QG S sv ov Z w p s deep most) : p < w.heap.size := by
  obtain ⟨_, _, _, h⟩ := h
  exact h.lt
theorem QB.lt {S : List Int} {sv ov : Value} {Z : List NdL} {w : World} {p : Nat} {deep : Nat} (h : QB S sv ov Z w p deep) : p < w.heap.size := by
  obtain ⟨_, _, _, h⟩ := h
  exact h.lt
theorem QG.keptB {S : List Int} {sv ov : Value} {Z : List NdL} {w w' : World} {p : Nat} {s : List Int} {deep most : Nat} (h : QG S sv ov Z w p s deep most) (hb : Below w.heap.size w w') : QG S sv ov Z w' p s deep most := by
  obtain ⟨a, h1, h2, h⟩ := h
  exact ⟨a, h1, h2, h.keptB hb⟩
theorem QB.keptB {S : List Int} {sv ov : Value} {Z : List NdL} {w w' : World} {p : Nat} {deep : Nat} (h : QB S sv ov Z w p deep) (hb : Below w.heap.size w w') : QB S sv ov Z w' p deep := by
  obtain ⟨a, m, h1, h⟩ := h
  exact ⟨a, m, h1, h.keptB hb⟩
theorem QG.mvd {S : List Int} {sv ov : Value} {Z : List NdL} {w w' : World} {p : Nat} {s : List Int} {deep most : Nat} (h : QG S sv ov Z w p s deep most) (hg : w.grownBy w' (some p)) : Mvd p w w' := by
  obtain ⟨_, _, _, h⟩ := h
  exact h.mvd hg
theorem QB.mvd {S : List Int} {sv ov : Value} {Z : List NdL} {w w' : World} {p : Nat} {deep : Nat} (h : QB S sv ov Z w p deep) (hg : w.grownBy w' (some p)) : Mvd p w w' := by
  obtain ⟨_, _, _, h⟩ := h
  exact h.mvd hg
/-- It has the runes at hand. -/
theorem QSt.at {w : World} {p : Nat} {sv ov : Value} {S : List Int} {at' : Nat} {Z : List NdL} {deep most : Nat} {bad : Bool} (h : QSt w p sv ov S at' Z deep most bad) : ∃ a c, sv = .slice a S.length c ∧ c ≤ maxLen ∧ S.length ≤ c ∧ ∀ k (hk : k < S.length), ∃ b off, a = some ⟨b, off, none⟩ ∧ ∀ W, Below w.heap.size w W → W.cell? ⟨b, off + k, none⟩ = some (.int .i32 S[k]) := by
  obtain ⟨_, a, c, e, h1, h2, hc⟩ := h.row w (Below.refl _ _)
  refine ⟨a, c, e, h2, h1, fun k hk => ?_⟩
  obtain ⟨b, off, ha, hb, hcs⟩ := hc (by omega)
  refine ⟨b, off, ha, fun W hW => ?_⟩
  have := hcs k (by simpa using hk)
  rw [List.getElem_map] at this
  rw [hW.cell (p := ⟨b, off + k, none⟩) hb]
  exact this
/-- The next rune, -1 at the end. -/
def headZ : List Int → Int
  | [] => -1
  | c :: _ => c
set_option maxRecDepth 100000 in
set_option maxHeartbeats 4000000 in
theorem ref_peek_bad (p : Nat) (w : World) (S : List Int) (sv ov : Value) (Z : List NdL) (deep : Nat) (h : QB S sv ov Z w p deep) :
    Calls Tryd.prog 34 #[.pointer (some ⟨p, 0, none⟩)] w fun e w' => e = .returned (.int .i32 (-1)) ∧ Below w.heap.size w w' := by
  obtain ⟨at', most, -, h⟩ := h
  obtain ⟨⟨c0, c1, c2, c3, c4, c5⟩, -⟩ := h.cells
  clear h c0 c1 c2 c3 c4
  go_enter Tryd.func34, Tryd.ntmps34
  go_upto_region 1 with fail
  go_quiet (fail)
  go_wp2
  go_ret
  exact ⟨rfl, below_dN (Below.refl _ _) _⟩
set_option maxRecDepth 100000 in
set_option maxHeartbeats 4000000 in
theorem ref_peek (p : Nat) (w : World) (S : List Int) (sv ov : Value) (Z : List NdL) (s : List Int) (deep most : Nat) (_hS : S.length ≤ 1000) (h : QG S sv ov Z w p s deep most) :
    Calls Tryd.prog 34 #[.pointer (some ⟨p, 0, none⟩)] w fun e w' => e = .returned (.int .i32 (headZ s)) ∧ Below w.heap.size w w' := by
  obtain ⟨at', hat, hdr, h⟩ := h
  obtain ⟨⟨c0, c1, c2, c3, c4, c5⟩, -⟩ := h.cells
  obtain ⟨a, c, rfl, hcm, hcl, hcell⟩ := h.at
  have HC := Lib.hid hcell
  unfold maxLen at hcm
  clear h c2 c3 c4 hcell
  cases s with
  | nil =>
    simp only [List.length_nil, Nat.add_zero] at hat
    have hge : decide ((S.length : Int) ≤ (at' : Int)) = true := decide_eq_true (by omega)
    have hge2 : (S.length : Int) ≤ (at' : Int) := by omega
    clear hdr hat HC
    generalize S.length = n at *
    go_enter Tryd.func34, Tryd.ntmps34
    go_upto_region 1 with fail
    go_quiet (fail)
    go_wp2
    go_ret
    exact ⟨rfl, below_dN (Below.refl _ _) _⟩
  | cons x s =>
    simp only [List.length_cons] at hat
    have hlt : at' < S.length := by omega
    have hx : S[at'] = x := by
      have := congrArg List.head? hdr
      rw [List.head?_drop, List.getElem?_eq_getElem hlt] at this
      simpa using this
    obtain ⟨b, off, rfl, hcl2⟩ := HC.out at' hlt
    have hcx := hcl2 w (Below.refl _ _)
    rw [hx] at hcx
    have hge : decide ((S.length : Int) ≤ (at' : Int)) = false := decide_eq_false (by omega)
    have hge2 : (at' : Int) < (S.length : Int) := by omega
    show Calls _ _ _ _ fun e w' => e = .returned (.int .i32 x) ∧ Below w.heap.size w w'
    clear hdr hat hx hcl2 HC
    generalize S.length = n at *
    go_enter Tryd.func34, Tryd.ntmps34
    go_upto_region 1 with fail
    go_quiet (fail)
    go_wp2_with fail
    go_quiet (fail)
    go_wp2
    go_ret
    exact ⟨rfl, (by (repeat (first | assumption | with_reducible exact Below.refl _ _ | (with_reducible refine belowA' ?_ (by first | omega | (simp; done) | (simp; omega))) | with_reducible refine Below.drew ?_ | with_reducible refine below_dN ?_ _)); done)⟩
theorem headZ_next {c : Int} {s : List Int} (hc : 0 ≤ c) (h : nextP c s = none) : headZ s ≠ c := by
  cases s with
  | nil =>
    show (-1 : Int) ≠ c
    omega
  | cons x s =>
    simp only [nextP] at h
    split at h
    · cases h
    · rename_i hx
      exact hx
set_option maxRecDepth 100000 in
set_option maxHeartbeats 4000000 in
theorem ref_is_no (p : Nat) (w : World) (S : List Int) (sv ov : Value) (Z : List NdL) (s : List Int) (deep most : Nat) (hS : S.length ≤ 1000) (c : Int) (hc : 0 ≤ c) (hn : nextP c s = none) (h : QG S sv ov Z w p s deep most) :
    Calls Tryd.prog 28 #[.pointer (some ⟨p, 0, none⟩), .int .i32 c] w fun e w' => e = .returned (.bool false) ∧ Below w.heap.size w w' := by
  have C := ref_peek p w S sv ov Z s deep most hS h
  have hne : (headZ s == c) = false := by simpa using headZ_next hc hn
  clear h hn hc
  generalize headZ s = z at *
  go_enter Tryd.func28, Tryd.ntmps28
  go_wp2_with (go_at_call 34; refine C.mono ?_; rintro e w1 ⟨rfl, hb⟩)
  go_ret
  exact ⟨rfl, hb⟩
set_option maxRecDepth 100000 in
set_option maxHeartbeats 4000000 in
theorem ref_is_bad (p : Nat) (w : World) (S : List Int) (sv ov : Value) (Z : List NdL) (deep : Nat) (c : Int) (hc : 0 ≤ c) (h : QB S sv ov Z w p deep) :
    Calls Tryd.prog 28 #[.pointer (some ⟨p, 0, none⟩), .int .i32 c] w fun e w' => e = .returned (.bool false) ∧ Below w.heap.size w w' := by
  have C := ref_peek_bad p w S sv ov Z deep h
  have hne : ((-1 : Int) == c) = false := by simp; omega
  clear h hc
  go_enter Tryd.func28, Tryd.ntmps28
  go_wp2_with (go_at_call 34; refine C.mono ?_; rintro e w1 ⟨rfl, hb⟩)
  go_ret
  exact ⟨rfl, hb⟩
theorem QG.step {S : List Int} {sv ov : Value} {Z : List NdL} {w w1 : World} {p : Nat} {c : Int} {s : List Int} {deep most : Nat} (h : QG S sv ov Z w p (c :: s) deep most) (hb : Below w.heap.size w w1) : ∃ at' : Nat, at' < S.length ∧ w1.cell? ⟨p, 1, none⟩ = some (.int .i64 (at' : Int)) ∧ w1.frozen? ⟨p, 1, none⟩ = false ∧
    ∀ w2, w2 = w1.setCell ⟨p, 1, none⟩ (.int .i64 ((at' : Int) + 1)) → QG S sv ov Z w2 p s deep most ∧ w.grownBy w2 (some p) := by
  obtain ⟨at', hat, hdr, h⟩ := h
  have h1 := h.keptB hb
  simp only [List.length_cons] at hat
  refine ⟨at', by omega, h1.cells.1.2.1, h1.cells.2 1, fun w2 e => ?_⟩
  subst e
  refine ⟨⟨at' + 1, by omega, by rw [← List.drop_drop, hdr]; rfl, ?_⟩, (grown_of_below hb _).trans (gset _ _ _ _)⟩
  have := h1.setAt (at' + 1)
  rw [show ((at' + 1 : Nat) : Int) = (at' : Int) + 1 by omega] at this
  exact this
set_option maxRecDepth 100000 in
set_option maxHeartbeats 4000000 in
theorem ref_is_yes (p : Nat) (w : World) (S : List Int) (sv ov : Value) (Z : List NdL) (c : Int) (s : List Int) (deep most : Nat) (hS : S.length ≤ 1000) (h : QG S sv ov Z w p (c :: s) deep most) :
    Calls Tryd.prog 28 #[.pointer (some ⟨p, 0, none⟩), .int .i32 c] w fun e w' => e = .returned (.bool true) ∧ QG S sv ov Z w' p s deep most ∧ w.grownBy w' (some p) := by
  have C := ref_peek p w S sv ov Z (c :: s) deep most hS h
  have hne : (c == c) = true := by simp
  have HS := Lib.hid (fun w1 hb => h.step (w1 := w1) hb)
  clear h
  rw [show headZ (c :: s) = c from rfl] at C
  go_enter Tryd.func28, Tryd.ntmps28
  go_wp2_with (go_at_call 34; refine C.mono ?_; rintro e w1 ⟨rfl, hb⟩; obtain ⟨at', hlt, x1, x2, hst⟩ := HS.out w1 hb; have HST := Lib.hid hst; clear hst)
  go_ret
  exact ⟨rfl, HST.out _ rfl⟩
/-- What a number leaves. -/
def DigQ (S : List Int) (sv ov : Value) (Z : List NdL) (p : Nat) (w : World) (deep most : Nat) : Res Int → Ending → World → Prop
  | none, e, w' => e = .returned (.int .i64 0) ∧ QB S sv ov Z w' p deep ∧ w.grownBy w' (some p)
  | some (d, r), e, w' => e = .returned (.int .i64 d) ∧ QG S sv ov Z w' p r deep most ∧ w.grownBy w' (some p)
theorem QG.spoil {S : List Int} {sv ov : Value} {Z : List NdL} {w w1 : World} {p : Nat} {s : List Int} {deep most : Nat} (h : QG S sv ov Z w p s deep most) (hb : Below w.heap.size w w1) : (∃ b, w1.cell? ⟨p, 5, none⟩ = some (.bool b)) ∧ w1.frozen? ⟨p, 5, none⟩ = false ∧
    ∀ w2, w2 = w1.setCell ⟨p, 5, none⟩ (.bool true) → QB S sv ov Z w2 p deep ∧ w.grownBy w2 (some p) := by
  obtain ⟨at', hat, hdr, h⟩ := h
  have h1 := h.keptB hb
  refine ⟨⟨_, h1.cells.1.2.2.2.2.2⟩, h1.cells.2 5, fun w2 e => ?_⟩
  subst e
  exact ⟨⟨at', most, by omega, h1.setBad true⟩, (grown_of_below hb _).trans (gset _ _ _ _)⟩
set_option maxRecDepth 100000 in
set_option maxHeartbeats 4000000 in
theorem ref_digit (p : Nat) (w : World) (S : List Int) (sv ov : Value) (Z : List NdL) (s : List Int) (deep most : Nat) (hS : S.length ≤ 1000) (h : QG S sv ov Z w p s deep most) :
    Calls Tryd.prog 39 #[.pointer (some ⟨p, 0, none⟩)] w (DigQ S sv ov Z p w deep most (digP s)) := by
  have C := ref_peek p w S sv ov Z s deep most hS h
  have HB := Lib.hid (fun w1 hb => h.spoil (w1 := w1) hb)
  by_cases hd : 48 ≤ headZ s ∧ headZ s ≤ 56
  · cases s with
    | nil =>
      have : headZ [] = -1 := rfl
      omega
    | cons c s =>
      rw [show headZ (c :: s) = c from rfl] at C hd
      have e : digP (c :: s) = some (c - 48, s) := by simp only [digP]; rw [if_pos hd]
      rw [e]
      show Calls _ _ _ _ fun e w' => e = .returned (.int .i64 (c - 48)) ∧ QG S sv ov Z w' p s deep most ∧ w.grownBy w' (some p)
      have HS := Lib.hid (fun w1 hb => h.step (w1 := w1) hb)
      have h1 : decide (c < 48) = false := decide_eq_false (by omega)
      have h2 : decide (56 < c) = false := decide_eq_false (by omega)
      have h3 := hd.1
      have h4 := hd.2
      clear h hd e HB
      go_enter Tryd.func39, Tryd.ntmps39
      go_wp2_with (go_at_call 34; refine C.mono ?_; rintro e w1 ⟨rfl, hb⟩; obtain ⟨at', hlt, x1, x2, hst⟩ := HS.out w1 hb; have HST := Lib.hid hst; clear hst)
      go_ret
      exact ⟨rfl, HST.out _ rfl⟩
  · have e : digP s = none := by
      cases s with
      | nil => rfl
      | cons c s =>
        simp only [digP]
        exact if_neg hd
    rw [e]
    show Calls _ _ _ _ fun e w' => e = .returned (.int .i64 0) ∧ QB S sv ov Z w' p deep ∧ w.grownBy w' (some p)
    clear h e
    generalize headZ s = z at *
    by_cases h1 : z < 48
    · have h2 : decide (z < 48) = true := decide_eq_true h1
      clear hd
      go_enter Tryd.func39, Tryd.ntmps39
      go_wp2_with (go_at_call 34; refine C.mono ?_; rintro e w1 ⟨rfl, hb⟩; obtain ⟨⟨b5, x1⟩, x2, hst⟩ := HB.out w1 hb; have HST := Lib.hid hst; clear hst)
      go_ret
      exact ⟨rfl, HST.out _ rfl⟩
    · have h2 : decide (z < 48) = false := decide_eq_false h1
      have h3 : decide (56 < z) = true := decide_eq_true (by omega)
      clear hd
      go_enter Tryd.func39, Tryd.ntmps39
      go_wp2_with (go_at_call 34; refine C.mono ?_; rintro e w1 ⟨rfl, hb⟩; obtain ⟨⟨b5, x1⟩, x2, hst⟩ := HB.out w1 hb; have HST := Lib.hid hst; clear hst)
      go_ret
      exact ⟨rfl, HST.out _ rfl⟩
set_option maxRecDepth 100000 in
set_option maxHeartbeats 4000000 in
theorem ref_in (r : Int) (s : ByteArray) (w : World) (hs : s.size ≤ 1000) :
    Calls Tryd.prog 46 #[.int .i32 r, .string s] w fun e w' => e = .returned (.bool (decide (r ∈ s.data.toList.map (fun b => (b.toNat : Int))))) ∧ w = w' := by
  obtain ⟨R, hR⟩ : ∃ R, decide (r ∈ s.data.toList.map (fun b => (b.toNat : Int))) = R := ⟨_, rfl⟩
  rw [hR]
  have HR := Lib.hid hR
  clear hR
  have hl : s.data.toList.length = s.size := by simp [ByteArray.size_data]
  have HL := Lib.hid hl
  clear hl
  go_enter Tryd.func46, Tryd.ntmps46
  go_wp2_with fail
  go_loop [5] (fun i => ∃ k : Nat, k ≤ s.size ∧ i = .int .i64 (k : Int) ∧ ∀ j (h : j < s.size), j < k → ((s[j].toNat : Nat) : Int) ≠ r) (fun i => s.size - (intOf i).toNat)
  case atStart => exact ⟨0, by omega, rfl, fun j _ h => by omega⟩
  case round =>
    obtain ⟨k, hk, rfl, hno⟩ := hrel
    have HNO := Lib.hid hno
    clear hno
    by_cases hlt : k < s.size
    · have hb256 : s[k].toNat < 256 := s[k].toNat_lt
      have hwr : wrap32 ((s[k].toNat : Nat) : Int) = ((s[k].toNat : Nat) : Int) := by unfold wrap32; omega
      by_cases he : ((s[k].toNat : Nat) : Int) = r
      · have hd : (((s[k].toNat : Nat) : Int) == r) = true := by simpa using he
        have hRt : R = true := by
          rw [← HR.out]
          refine decide_eq_true (List.mem_map.2 ⟨s[k], ?_, he⟩)
          exact List.getElem_mem (l := s.data.toList) (by rw [HL.out]; exact hlt)
        subst hRt
        clear he
        go_wp2
        go_ret
        exact ⟨rfl, rfl⟩
      · have hd : (((s[k].toNat : Nat) : Int) == r) = false := by simpa using he
        have HE := Lib.hid he
        clear he
        go_wp2
        go_round
        case rel => exact ⟨k + 1, by omega, by go_num, fun j hj hjk => if h : j = k then by subst h; exact HE.out else HNO.out j hj (by omega)⟩
        case measure => simp [intOf]; omega
    · have hRf : R = false := by
        rw [← HR.out]
        refine decide_eq_false fun hm => ?_
        obtain ⟨b, hb, he⟩ := List.mem_map.1 hm
        obtain ⟨i, hi, hb2⟩ := List.getElem_of_mem hb
        have hi' : i < s.size := by rw [HL.out] at hi; exact hi
        have := HNO.out i hi' (by omega)
        have h4 : s.data.toList[i] = s[i] := rfl
        rw [h4] at hb2
        rw [hb2] at this
        exact this he
      subst hRf
      go_wp2
      go_ret
      exact ⟨rfl, rfl⟩
end Go.Proofs.YthmhmckkkceclaaDoor
/-
  The document's parser: node, escape, member.
-/
namespace Go.Proofs.YthmhmckkkceclaaDoor
open Go.RowKit
/-- The state behind a node more. -/
theorem QSt.noded {w w1 w2 w' : World} {p : Nat} {sv ov ov' : Value} {S : List Int} {at' : Nat} {Z : List NdL} {z : NdL} {deep most : Nat} {bad : Bool} (h : QSt w p sv ov S at' Z deep most bad) (hz : NdAt w (p + 1) z) (hb : Below w.heap.size w w1)
    (ho : w2.ownsRow (p + 1) 33 5 ov' (Z.length + 1) (ndsCells Z ++ ndCells z)) (hg : w1.grownBy w2 ov.ownBlock) (e : w' = w2.setCell ⟨p, 2, none⟩ ov') :
    QSt w' p sv ov' S at' (Z ++ [z]) deep most bad ∧ Mvd p w w' := by
  subst e
  have h1 := h.keptB hb
  have hpl := h1.lt
  have hne : ov.ownBlock ≠ some p := fun e => by have := (h1.out.own.lt p e).1; omega
  have hm1 : Mvd p w1 w2 := Mvd.ofGrown hg (Nat.le_of_lt hpl) fun k hk => by
    rcases h1.out.own.2 with ⟨rfl, _⟩ | ⟨g, cap, cur, rfl, hB, hgg, _⟩
    · cases hk
    · have : g = k := Option.some.inj hk
      subst this
      exact ⟨by omega, _, _, _, hgg, .inr (.inr rfl)⟩
  have hown2 : w2.heap[p]? = some (refObj sv ov at' deep most bad) := by rw [hg.block p hpl (fun e => hne e.symm)]; exact h1.own
  have hm2 : Mvd p w2 (w2.setCell ⟨p, 2, none⟩ ov') := Mvd.ofGrown (gset w2 p 2 ov') (by have := hg.size; omega) (fun k hk => by cases hk; exact ⟨Nat.le_refl _, _, _, _, hown2, .inr (.inl rfl)⟩)
  refine ⟨⟨?_, fun W hW => h1.row W ((hm1.low.trans hm2.low).trans hW), ?_⟩, ((Mvd.ofBelow hb (Nat.le_of_lt h.lt)).trans hm1).trans hm2⟩
  · rw [heap_setCell_same _ _ _ _ _ _ hown2]
    rfl
  · have := h1.out.more (hz.keptB hb) hg ho
    exact this.kept (gset w2 p 2 ov') (fun k hk => by cases hk; omega)
theorem QSt.grown {w w1 w2 : World} {p : Nat} {sv ov : Value} {S : List Int} {at' : Nat} {Z : List NdL} {deep most : Nat} {bad : Bool} (h : QSt w p sv ov S at' Z deep most bad) (hb : Below w.heap.size w w1) (hg : w1.grownBy w2 ov.ownBlock) :
    w2.cell? ⟨p, 2, none⟩ = some ov ∧ w2.frozen? ⟨p, 2, none⟩ = false := by
  have h1 := h.keptB hb
  have hne : ov.ownBlock ≠ some p := fun e => by have := (h1.out.own.lt p e).1; omega
  have hown2 : w2.heap[p]? = some (refObj sv ov at' deep most bad) := by rw [hg.block p h1.lt (fun e => hne e.symm)]; exact h1.own
  exact ⟨by rw [Lib.cell_of_heap hown2]; rfl, Lib.frozen_of_heap hown2 2⟩
set_option maxRecDepth 100000 in
set_option maxHeartbeats 4000000 in
theorem ref_node (p : Nat) (w : World) (sv ov : Value) (S : List Int) (at' : Nat) (Z : List NdL) (deep most : Nat) (bad : Bool) (h : QSt w p sv ov S at' Z deep most bad) (n : Nd) (kv tv : Value) (hz : NdAt w (p + 1) (n, kv, tv)) (hL : Z.length ≤ 100000) :
    Calls Tryd.prog 30 #[.pointer (some ⟨p, 0, none⟩), .agg #[.int .i64 n.kind, kv, .int .i64 n.lo, .int .i64 n.hi, tv]] w fun e w' => e = .returned (.int .i64 (Z.length : Int)) ∧ ∃ ov', QSt w' p sv ov' S at' (Z ++ [(n, kv, tv)]) deep most bad ∧ Mvd p w w' := by
  have hpl := h.lt
  obtain ⟨⟨-, -, c1, -⟩, hf1⟩ := h.cells
  have f1 := hf1 2
  have hcell : ∀ W, Below w.heap.size w W → W.cell? ⟨p, 2, none⟩ = some ov ∧ W.frozen? ⟨p, 2, none⟩ = false := fun W hW => ⟨(h.keptB hW).cells.1.2.2.1, (h.keptB hW).cells.2 2⟩
  have HOWN := Lib.hid (fun W (hW : Below w.heap.size w W) => (h.out.keptB hW).own)
  have HGR := Lib.hid (fun w1 w2 (hb : Below w.heap.size w w1) hg => h.grown (w1 := w1) (w2 := w2) hb hg)
  have HEND := Lib.hid (fun w1 w2 w' ov' hb ho hg e => h.noded (w1 := w1) (w2 := w2) (w' := w') (ov' := ov') hz hb ho hg e)
  obtain ⟨oa, oc, rfl⟩ := owns_slice h.out.own
  obtain ⟨ka, kc, rfl⟩ : ∃ a c, kv = .slice a n.kids.length c := owns_slice hz.1
  obtain ⟨ta, tc, rfl⟩ : ∃ a c, tv = .slice a n.set.length c := owns_slice hz.2
  clear h hz hf1
  obtain ⟨m, hm⟩ : ∃ m, Z.length = m := ⟨_, rfl⟩
  rw [hm] at HOWN HGR HEND c1 hL hcell ⊢
  clear hm
  go_enter Tryd.func30, Tryd.ntmps30
  go_upto_region 1 with fail
  have hb1 := belowA' (o := .cells #[.int .i64 n.kind, .slice ka n.kids.length kc, .int .i64 n.lo, .int .i64 n.hi, .slice ta n.set.length tc] 33) (Below.refl w.heap.size w) (Nat.le_refl _)
  have hx := heap_alloc_new w (.cells #[.int .i64 n.kind, .slice ka n.kids.length kc, .int .i64 n.lo, .int .i64 n.hi, .slice ta n.set.length tc] 33)
  have e0 := cellX hx (j := 0) rfl
  have e1 := cellX hx (j := 1) rfl
  have e2 := cellX hx (j := 2) rfl
  have e3 := cellX hx (j := 3) rfl
  have e4 := cellX hx (j := 4) rfl
  have hsz : w.heap.size < (w.alloc (.cells #[.int .i64 n.kind, .slice ka n.kids.length kc, .int .i64 n.lo, .int .i64 n.hi, .slice ta n.set.length tc] 33)).heap.size := by simp
  clear hx
  generalize w.alloc (.cells #[.int .i64 n.kind, .slice ka n.kids.length kc, .int .i64 n.lo, .int .i64 n.hi, .slice ta n.set.length tc] 33) = wx at *
  have hcx := hcell wx hb1
  obtain ⟨hcx1, hcx2⟩ := hcx
  obtain ⟨hcy1, hcy2⟩ := hcell _ (belowA' (o := .cells #[.int .i64 n.kind, .slice ka n.kids.length kc, .int .i64 n.lo, .int .i64 n.hi, .slice ta n.set.length tc] 33) hb1 hb1.size)
  clear hcell
  go_region_law (go_loud (refine step_append_src rfl (.tmp 9) (.tmp 11) _ _ (by rfl) (p + 1) ENd _ m (ndsCells Z) rfl (by exact HOWN.out _ (by (repeat (first | assumption | with_reducible exact Below.refl _ _ | (with_reducible refine belowA' ?_ (by have := hb1.size; simp; omega)) | with_reducible refine Below.drew ?_)); done)) _ 1 [.int .i64 n.kind, .slice ka n.kids.length kc, .int .i64 n.lo, .int .i64 n.hi, .slice ta n.set.length tc] rfl (by first | exact src_last (cs := #[.int .i64 n.kind, .slice ka n.kids.length kc, .int .i64 n.lo, .int .i64 n.hi, .slice ta n.set.length tc]) Tryd.underlying23 1 1 5 rfl rfl (by simp [Value.oneCell']) | (exact src_new (cs := #[.int .i64 n.kind, .slice ka n.kids.length kc, .int .i64 n.lo, .int .i64 n.hi, .slice ta n.set.length tc]) (t := 33) (fr := (0, 0)) Tryd.underlying23 1 1 5 (by exact heap_alloc_new wx _) rfl (by simp [Value.oneCell']))) (by unfold maxLen; omega) (by omega) (by have := hb1.size; simp; omega) ?_; intro v9 w9 hown9 hgr9 _ _; obtain ⟨va, vc, rfl⟩ := owns_slice hown9; obtain ⟨y1, y2⟩ := HGR.out _ _ (by (repeat (first | assumption | with_reducible exact Below.refl _ _ | (with_reducible refine belowA' ?_ (by have := hb1.size; simp; omega)) | with_reducible refine Below.drew ?_)); done) hgr9))
  all_goals
    go_wp2
    go_ret
    exact ⟨by first | rfl | simp, _, HEND.out _ _ _ _ (by (repeat (first | assumption | with_reducible exact Below.refl _ _ | (with_reducible refine belowA' ?_ (by have := hb1.size; simp; omega)) | with_reducible refine Below.drew ?_)); done) hown9 hgr9 rfl⟩
/-- What a reading of pairs leaves. -/
def RunQ (S : List Int) (sv ov : Value) (Z : List NdL) (p : Nat) (w : World) (deep most : Nat) : Res (List Int) → Ending → World → Prop
  | none, e, w' => ∃ v z, e = .returned v ∧ w'.ownsRow w.heap.size 21 1 v 2 [rCell z, rCell z] ∧ QB S sv ov Z w' p deep ∧ w.grownBy w' (some p)
  | some (t, r), e, w' => ∃ v, e = .returned v ∧ w'.ownsRow w.heap.size 21 1 v t.length (t.map rCell) ∧ QG S sv ov Z w' p r deep most ∧ w.grownBy w' (some p)
/-- Behind the end. -/
theorem QG.over {S : List Int} {sv ov : Value} {Z : List NdL} {w w1 : World} {p : Nat} {deep most : Nat} (h : QG S sv ov Z w p [] deep most) (hb : Below w.heap.size w w1) : ∃ at' : Nat, at' = S.length ∧ w1.cell? ⟨p, 1, none⟩ = some (.int .i64 (at' : Int)) ∧ w1.frozen? ⟨p, 1, none⟩ = false ∧
    w1.cell? ⟨p, 5, none⟩ = some (.bool false) ∧ w1.frozen? ⟨p, 5, none⟩ = false ∧
    ∀ w3, w3 = (w1.setCell ⟨p, 1, none⟩ (.int .i64 ((at' : Int) + 1))).setCell ⟨p, 5, none⟩ (.bool true) → QB S sv ov Z w3 p deep ∧ w.grownBy w3 (some p) := by
  obtain ⟨at', hat, hdr, h⟩ := h
  have h1 := h.keptB hb
  simp only [List.length_nil, Nat.add_zero] at hat
  refine ⟨at', hat, h1.cells.1.2.1, h1.cells.2 1, h1.cells.1.2.2.2.2.2, h1.cells.2 5, fun w3 e => ?_⟩
  subst e
  have h2 := h1.setAt (at' + 1)
  rw [show ((at' + 1 : Nat) : Int) = (at' : Int) + 1 by omega] at h2
  exact ⟨⟨at' + 1, most, by omega, h2.setBad true⟩, ((grown_of_below hb _).trans (gset _ _ _ _)).trans (gset _ _ _ _)⟩
theorem QB.new {S : List Int} {sv ov : Value} {Z : List NdL} {w w1 : World} {p : Nat} {deep most : Nat} (z : Int) (h : QB S sv ov Z w1 p deep) (hg : w.grownBy w1 (some p)) :
    RunQ S sv ov Z p w deep most none (.returned (.slice (some ⟨w1.heap.size, 0, none⟩) 2 2)) (w1.alloc (.cells #[.int .i32 z, .int .i32 z] 21)) := by
  have hb := belowA' (o := .cells #[.int .i32 z, .int .i32 z] 21) (Below.refl w1.heap.size w1) (Nat.le_refl _)
  have ho := owns_new w1 #[.int .i32 z, .int .i32 z] 21 2 (by simp) (by unfold maxLen; omega)
  exact ⟨_, z, rfl, owns_base ho hg.size, h.keptB hb, hg.trans (grown_of_below hb _)⟩
theorem QG.new {S : List Int} {sv ov : Value} {Z : List NdL} {w w1 : World} {p : Nat} {r : List Int} {deep most : Nat} (t : List Int) (h : QG S sv ov Z w1 p r deep most) (hg : w.grownBy w1 (some p)) (ht : t.length ≤ 100) :
    RunQ S sv ov Z p w deep most (some (t, r)) (.returned (.slice (some ⟨w1.heap.size, 0, none⟩) t.length t.length)) (w1.alloc (.cells (t.map rCell).toArray 21)) := by
  have hb := belowA' (o := .cells (t.map rCell).toArray 21) (Below.refl w1.heap.size w1) (Nat.le_refl _)
  have ho := owns_new w1 (t.map rCell).toArray 21 t.length (by simp) (by unfold maxLen; omega)
  exact ⟨_, rfl, owns_base ho hg.size, h.keptB hb, hg.trans (grown_of_below hb _)⟩
set_option maxRecDepth 100000 in
set_option maxHeartbeats 10000000 in
theorem ref_escape (p : Nat) (w : World) (S : List Int) (sv ov : Value) (Z : List NdL) (s : List Int) (deep most : Nat) (hS : S.length ≤ 1000) (hs : Scal s) (h : QG S sv ov Z w p s deep most) :
    Calls Tryd.prog 45 #[.pointer (some ⟨p, 0, none⟩)] w (RunQ S sv ov Z p w deep most (escP s)) := by
  have C := ref_peek p w S sv ov Z s deep most hS h
  cases s with
  | nil =>
    show Calls _ _ _ _ (RunQ S sv ov Z p w deep most none)
    have HO := Lib.hid (fun w1 hb => h.over (w1 := w1) hb)
    rw [show headZ [] = -1 from rfl] at C
    clear h hs
    go_enter Tryd.func45, Tryd.ntmps45
    go_wp2_with (go_at_call 34; refine C.mono ?_; rintro e w1 ⟨rfl, hb⟩; obtain ⟨at', hat, x1, x2, x3, x4, hst⟩ := HO.out w1 hb; have HST := Lib.hid hst; have hat2 : at' ≤ 1000 := (by omega); clear hst hat)
    go_ret
    obtain ⟨g1, g2⟩ := HST.out _ rfl
    have := QB.new (most := most) (-1) g1 g2
    simpa using this
  | cons c s =>
    rw [show headZ (c :: s) = c from rfl] at C
    have HS := Lib.hid (fun w1 hb => h.step (w1 := w1) hb)
    have hc0 : 0 ≤ c := (hs.runes c (by simp)).1
    have hneg : decide (c < 0) = false := decide_eq_false (by omega)
    have HX := fun (hd : ¬ (c = 110)) (h2 : ¬ (c = 116)) (h3 : ¬ (c = 100)) (h4 : ¬ (c = 119)) (h5 : ¬ (c = 115)) => (by simp only [escP, if_neg hd, if_neg h2, if_neg h3, if_neg h4, if_neg h5] : escP (c :: s) = if c ∈ special ∨ c = 45 then some ([c, c], s) else none)
    have HX := Lib.hid HX
    have CI := fun W => ref_in c specialT2 W (by decide)
    rw [show specialT2.data.toList.map (fun b => (b.toNat : Int)) = special ++ [45] from by decide] at CI
    unfold specialT2 at CI
    have HC := Lib.hid CI
    clear h hs hc0 CI
    by_cases h1 : c = 110
    · subst h1
      rw [show escP (110 :: s) = some ([10, 10], s) from rfl]
      clear HC HX hneg
      go_enter Tryd.func45, Tryd.ntmps45
      go_wp2_with (go_at_call 34; refine C.mono ?_; rintro e w1 ⟨rfl, hb⟩; obtain ⟨at', hlt, x1, x2, hst⟩ := HS.out w1 hb; have HST := Lib.hid hst; clear hst)
      go_ret
      obtain ⟨g1, g2⟩ := HST.out _ rfl
      have := QG.new [10, 10] g1 g2 (by decide)
      simpa [rCell] using this
    by_cases h2 : c = 116
    · subst h2
      rw [show escP (116 :: s) = some ([9, 9], s) from rfl]
      clear HC HX hneg
      go_enter Tryd.func45, Tryd.ntmps45
      go_wp2_with (go_at_call 34; refine C.mono ?_; rintro e w1 ⟨rfl, hb⟩; obtain ⟨at', hlt, x1, x2, hst⟩ := HS.out w1 hb; have HST := Lib.hid hst; clear hst)
      go_ret
      obtain ⟨g1, g2⟩ := HST.out _ rfl
      have := QG.new [9, 9] g1 g2 (by decide)
      simpa [rCell] using this
    by_cases h3 : c = 100
    · subst h3
      rw [show escP (100 :: s) = some ([48, 57], s) from rfl]
      clear HC HX hneg
      go_enter Tryd.func45, Tryd.ntmps45
      go_wp2_with (go_at_call 34; refine C.mono ?_; rintro e w1 ⟨rfl, hb⟩; obtain ⟨at', hlt, x1, x2, hst⟩ := HS.out w1 hb; have HST := Lib.hid hst; clear hst)
      go_ret
      obtain ⟨g1, g2⟩ := HST.out _ rfl
      have := QG.new [48, 57] g1 g2 (by decide)
      simpa [rCell] using this
    by_cases h4 : c = 119
    · subst h4
      rw [show escP (119 :: s) = some ([48, 57, 65, 90, 95, 95, 97, 122], s) from rfl]
      clear HC HX hneg
      go_enter Tryd.func45, Tryd.ntmps45
      go_wp2_with (go_at_call 34; refine C.mono ?_; rintro e w1 ⟨rfl, hb⟩; obtain ⟨at', hlt, x1, x2, hst⟩ := HS.out w1 hb; have HST := Lib.hid hst; clear hst)
      go_ret
      obtain ⟨g1, g2⟩ := HST.out _ rfl
      have := QG.new [48, 57, 65, 90, 95, 95, 97, 122] g1 g2 (by decide)
      simpa [rCell] using this
    by_cases h5 : c = 115
    · subst h5
      rw [show escP (115 :: s) = some ([9, 10, 13, 13, 32, 32], s) from rfl]
      clear HC HX hneg
      go_enter Tryd.func45, Tryd.ntmps45
      go_wp2_with (go_at_call 34; refine C.mono ?_; rintro e w1 ⟨rfl, hb⟩; obtain ⟨at', hlt, x1, x2, hst⟩ := HS.out w1 hb; have HST := Lib.hid hst; clear hst)
      go_ret
      obtain ⟨g1, g2⟩ := HST.out _ rfl
      have := QG.new [9, 10, 13, 13, 32, 32] g1 g2 (by decide)
      simpa [rCell] using this
    rw [HX.out h1 h2 h3 h4 h5]
    have g1 : (c == 110) = false := by simpa using h1
    have g2 : (c == 116) = false := by simpa using h2
    have g3 : (c == 100) = false := by simpa using h3
    have g4 : (c == 119) = false := by simpa using h4
    have g5 : (c == 115) = false := by simpa using h5
    clear h1 h2 h3 h4 h5 HX
    by_cases hm : c ∈ special ++ [45]
    · have hm' : c ∈ special ∨ c = 45 := by simpa using hm
      rw [if_pos hm']
      rw [decide_eq_true hm] at HC
      clear hm hm'
      go_enter Tryd.func45, Tryd.ntmps45
      go_wp2_with (first | (go_at_call 34; refine C.mono ?_; rintro e w1 ⟨rfl, hb⟩; obtain ⟨at', hlt, x1, x2, hst⟩ := HS.out w1 hb; have HST := Lib.hid hst; clear hst) | (go_at_call 46; refine (HC.out _).mono ?_; rintro e w2 ⟨rfl, rfl⟩))
      go_ret
      obtain ⟨g1, g2⟩ := HST.out _ rfl
      have := QG.new [c, c] g1 g2 (by show 2 ≤ 100; decide)
      simpa [rCell] using this
    · have hm' : ¬ (c ∈ special ∨ c = 45) := by simpa using hm
      rw [if_neg hm']
      rw [decide_eq_false hm] at HC
      clear hm hm'
      go_enter Tryd.func45, Tryd.ntmps45
      go_upto_region 15 with (first | (go_at_call 34; refine C.mono ?_; rintro e w1 ⟨rfl, hb⟩; obtain ⟨at', hlt, x1, x2, hst⟩ := HS.out w1 hb; have HST := Lib.hid hst; clear hst) | (go_at_call 46; refine (HC.out _).mono ?_; rintro e w2 ⟨rfl, rfl⟩))
      obtain ⟨w5, hw5⟩ : ∃ w5, w1.setCell ⟨p, 1, none⟩ (.int .i64 ((at' : Int) + 1)) = w5 := ⟨_, rfl⟩
      obtain ⟨g1, g2⟩ := HST.out _ hw5.symm
      rw [hw5]
      obtain ⟨⟨b5, y1⟩, y2, hsp⟩ := g1.spoil (Below.refl _ _)
      have HSP := Lib.hid hsp
      have G2 := Lib.hid g2
      clear hw5 hsp g1 g2 x1 x2
      go_wp2
      go_ret
      obtain ⟨g3, g4⟩ := HSP.out _ rfl
      have := QB.new (most := most) c g3 (G2.out.trans g4)
      simpa using this
set_option maxRecDepth 100000 in
set_option maxHeartbeats 10000000 in
theorem ref_member (p : Nat) (w : World) (S : List Int) (sv ov : Value) (Z : List NdL) (s : List Int) (deep most : Nat) (hS : S.length ≤ 1000) (hs : Scal s) (h : QG S sv ov Z w p s deep most) :
    Calls Tryd.prog 51 #[.pointer (some ⟨p, 0, none⟩)] w (RunQ S sv ov Z p w deep most (memP s)) := by
  have C := ref_peek p w S sv ov Z s deep most hS h
  cases s with
  | nil =>
    show Calls _ _ _ _ (RunQ S sv ov Z p w deep most none)
    have HO := Lib.hid (fun w1 hb => h.over (w1 := w1) hb)
    rw [show headZ [] = -1 from rfl] at C
    clear h hs
    go_enter Tryd.func51, Tryd.ntmps51
    go_wp2_with (go_at_call 34; refine C.mono ?_; rintro e w1 ⟨rfl, hb⟩; obtain ⟨at', hat, x1, x2, x3, x4, hst⟩ := HO.out w1 hb; have HST := Lib.hid hst; have hat2 : at' ≤ 1000 := (by omega); clear hst hat)
    go_ret
    obtain ⟨g1, g2⟩ := HST.out _ rfl
    have := QB.new (most := most) (-1) g1 g2
    simpa using this
  | cons c s =>
    rw [show headZ (c :: s) = c from rfl] at C
    have HS := Lib.hid (fun w1 hb => h.step (w1 := w1) hb)
    have hc0 : 0 ≤ c := (hs.runes c (by simp)).1
    have hneg : decide (c < 0) = false := decide_eq_false (by omega)
    have hst := hs.tail
    have CI := fun W => ref_in c memberT W (by decide)
    rw [show memberT.data.toList.map (fun b => (b.toNat : Int)) = [91, 93, 94, 45] from by decide] at CI
    unfold memberT at CI
    have HC := Lib.hid CI
    clear h hs hc0 CI
    by_cases h1 : c = 92
    · subst h1
      have CE := Lib.hid (fun W hW => ref_escape p W S sv ov Z s deep most hS hst hW)
      rw [show memP (92 :: s) = escP s from rfl]
      obtain ⟨X, hX⟩ : ∃ X, escP s = X := ⟨_, rfl⟩
      rw [hX] at CE ⊢
      clear HC hst hneg hX
      go_enter Tryd.func51, Tryd.ntmps51
      go_upto_region 4 with (go_at_call 34; refine C.mono ?_; rintro e w1 ⟨rfl, hb⟩; obtain ⟨at', hlt, x1, x2, hst⟩ := HS.out w1 hb; have HST := Lib.hid hst; clear hst)
      obtain ⟨w5, hw5⟩ : ∃ w5, w1.setCell ⟨p, 1, none⟩ (.int .i64 ((at' : Int) + 1)) = w5 := ⟨_, rfl⟩
      obtain ⟨g1, g2⟩ := HST.out _ hw5.symm
      rw [hw5]
      have CE5 := CE.out w5 g1
      have G2 := Lib.hid g2
      clear hw5 g1 g2 x1 x2 CE HST
      cases X with
      | none =>
        go_wp2_with (go_at_call 45; refine CE5.mono ?_; rintro e w6 ⟨v, z, rfl, ho, hq, hg⟩; obtain ⟨va, vc, rfl⟩ := owns_slice ho; have H6 := Lib.hid (And.intro ho (And.intro hq hg)); clear ho hq hg)
        go_ret
        obtain ⟨ho, hq, hg⟩ := H6.out
        exact ⟨_, z, rfl, owns_base ho G2.out.size, hq, G2.out.trans hg⟩
      | some x =>
        obtain ⟨t, u⟩ := x
        go_wp2_with (go_at_call 45; refine CE5.mono ?_; rintro e w6 ⟨v, rfl, ho, hq, hg⟩; obtain ⟨va, vc, rfl⟩ := owns_slice ho; have H6 := Lib.hid (And.intro ho (And.intro hq hg)); clear ho hq hg)
        go_ret
        obtain ⟨ho, hq, hg⟩ := H6.out
        exact ⟨_, rfl, owns_base ho G2.out.size, hq, G2.out.trans hg⟩
    · have g1 : (c == 92) = false := by simpa using h1
      have e1 : memP (c :: s) = if c = 91 ∨ c = 93 ∨ c = 94 ∨ c = 45 then none else some ([c, c], s) := by simp only [memP, if_neg h1]
      rw [e1]
      clear h1 e1 hst
      by_cases hm : c ∈ ([91, 93, 94, 45] : List Int)
      · have hm' : c = 91 ∨ c = 93 ∨ c = 94 ∨ c = 45 := by simpa using hm
        rw [if_pos hm']
        rw [decide_eq_true hm] at HC
        clear hm hm'
        go_enter Tryd.func51, Tryd.ntmps51
        go_upto_region 6 with (first | (go_at_call 34; refine C.mono ?_; rintro e w1 ⟨rfl, hb⟩; obtain ⟨at', hlt, x1, x2, hst⟩ := HS.out w1 hb; have HST := Lib.hid hst; clear hst) | (go_at_call 46; refine (HC.out _).mono ?_; rintro e w2 ⟨rfl, rfl⟩))
        obtain ⟨w5, hw5⟩ : ∃ w5, w1.setCell ⟨p, 1, none⟩ (.int .i64 ((at' : Int) + 1)) = w5 := ⟨_, rfl⟩
        obtain ⟨g1, g2⟩ := HST.out _ hw5.symm
        rw [hw5]
        obtain ⟨⟨b5, y1⟩, y2, hsp⟩ := g1.spoil (Below.refl _ _)
        have HSP := Lib.hid hsp
        have G2 := Lib.hid g2
        clear hw5 hsp g1 g2 x1 x2
        go_wp2
        go_ret
        obtain ⟨g3, g4⟩ := HSP.out _ rfl
        have := QB.new (most := most) c g3 (G2.out.trans g4)
        simpa using this
      · have hm' : ¬ (c = 91 ∨ c = 93 ∨ c = 94 ∨ c = 45) := by simpa using hm
        rw [if_neg hm']
        rw [decide_eq_false hm] at HC
        clear hm hm'
        go_enter Tryd.func51, Tryd.ntmps51
        go_wp2_with (first | (go_at_call 34; refine C.mono ?_; rintro e w1 ⟨rfl, hb⟩; obtain ⟨at', hlt, x1, x2, hst⟩ := HS.out w1 hb; have HST := Lib.hid hst; clear hst) | (go_at_call 46; refine (HC.out _).mono ?_; rintro e w2 ⟨rfl, rfl⟩))
        go_ret
        obtain ⟨g1, g2⟩ := HST.out _ rfl
        have := QG.new [c, c] g1 g2 (by show 2 ≤ 100; decide)
        simpa [rCell] using this
end Go.Proofs.YthmhmckkkceclaaDoor
