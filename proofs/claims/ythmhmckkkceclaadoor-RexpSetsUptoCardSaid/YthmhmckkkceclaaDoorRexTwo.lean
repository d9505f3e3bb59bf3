/-
  The document's parser: item.
-/
import Derived.Test.YthmhmckkkceclaaDoorRexOne
import Derived.Test.YthmhmckkkceclaaDoorRexIl
import Derived.Test.YthmhmckkkceclaaDoorRexSl
import Derived.Test.YthmhmckkkceclaaDoorRexTl
namespace Go.Proofs.YthmhmckkkceclaaDoor
open Go.RowKit
theorem own_kidR (w : World) (q : Nat) : (w.alloc (.cells #[.int .i64 (q : Int)] 3)).ownsRow w.heap.size 3 1 (.slice (some ⟨w.heap.size, 0, none⟩) 1 1) 1 [iCell q] :=
  owns_new w #[.int .i64 (q : Int)] 3 1 rfl (by unfold maxLen; omega)
theorem dig_rangeR {s r : List Int} {d : Int} (h : digP s = some (d, r)) : 0 ≤ d ∧ d ≤ 8 := by
  cases s with
  | nil => cases h
  | cons c s =>
    simp only [digP] at h
    split at h
    · cases h
      omega
    · cases h
/-- The node that an item lays out. -/
def itObj (kb : Nat) (lo hi : Int) : Obj := .cells #[.int .i64 5, .slice (some ⟨kb, 0, none⟩) 1 1, .int .i64 lo, .int .i64 hi, .slice none 0 0] 33 (0, 0)
/-- An item's state: the parser, the node beside it. -/
structure IT (S : List Int) (sv ov : Value) (Z : List NdL) (p deep most : Nat) (w1 : World) (b kb q : Nat) (wx : World) (lo hi : Int) (o : Option (List Int)) : Prop where
  qe : QE S sv ov Z wx p o deep most
  gr : w1.grownBy wx (some p)
  st : wx.heap[b]? = some (itObj kb lo hi)
  kid : wx.ownsRow w1.heap.size 3 1 (.slice (some ⟨kb, 0, none⟩) 1 1) 1 [iCell q]
theorem IT.cells {S : List Int} {sv ov : Value} {Z : List NdL} {p deep most : Nat} {w1 : World} {b kb q : Nat} {wx : World} {lo hi : Int} {o : Option (List Int)} (h : IT S sv ov Z p deep most w1 b kb q wx lo hi o) :
    wx.cell? ⟨b, 0, none⟩ = some (.int .i64 5) ∧ wx.cell? ⟨b, 1, none⟩ = some (.slice (some ⟨kb, 0, none⟩) 1 1) ∧ wx.cell? ⟨b, 2, none⟩ = some (.int .i64 lo) ∧ wx.cell? ⟨b, 3, none⟩ = some (.int .i64 hi) ∧ wx.cell? ⟨b, 4, none⟩ = some (.slice none 0 0) ∧
      wx.frozen? ⟨b, 2, none⟩ = false ∧ wx.frozen? ⟨b, 3, none⟩ = false :=
  ⟨by rw [Lib.cell_of_heap h.st]; rfl, by rw [Lib.cell_of_heap h.st]; rfl, by rw [Lib.cell_of_heap h.st]; rfl, by rw [Lib.cell_of_heap h.st]; rfl, by rw [Lib.cell_of_heap h.st]; rfl, Lib.frozen_of_heap h.st 2, Lib.frozen_of_heap h.st 3⟩
theorem IT.lt {S : List Int} {sv ov : Value} {Z : List NdL} {p deep most : Nat} {w1 : World} {b kb q : Nat} {wx : World} {lo hi : Int} {o : Option (List Int)} (h : IT S sv ov Z p deep most w1 b kb q wx lo hi o) : b < wx.heap.size := (Array.getElem?_eq_some_iff.1 h.st).1
theorem IT.call {S : List Int} {sv ov : Value} {Z : List NdL} {p deep most : Nat} {w1 : World} {b kb q : Nat} {wx wy : World} {lo hi : Int} {o o' : Option (List Int)} (hp : p < w1.heap.size) (hb : w1.heap.size ≤ b) (h : IT S sv ov Z p deep most w1 b kb q wx lo hi o) (hq : QE S sv ov Z wy p o' deep most) (hg : wx.grownBy wy (some p)) : IT S sv ov Z p deep most w1 b kb q wy lo hi o' :=
  ⟨hq, h.gr.trans hg, by rw [hg.block b h.lt (fun e => by have := Option.some.inj e; omega)]; exact h.st, own_keptX h.kid hg (fun k hk => by cases hk; exact hp)⟩
theorem IT.bad {S : List Int} {sv ov : Value} {Z : List NdL} {p deep most : Nat} {w1 : World} {b kb q : Nat} {wx : World} {lo hi : Int} {o : Option (List Int)} (hp : p < w1.heap.size) (hb : w1.heap.size ≤ b) (h : IT S sv ov Z p deep most w1 b kb q wx lo hi o) : IT S sv ov Z p deep most w1 b kb q (wx.setCell ⟨p, 5, none⟩ (.bool true)) lo hi none :=
  h.call hp hb h.qe.spoil.1 h.qe.spoil.2
theorem IT.set {S : List Int} {sv ov : Value} {Z : List NdL} {p deep most : Nat} {w1 : World} {b kb q : Nat} {wx : World} {lo hi : Int} {o o1 : Option (List Int)} (hkb : kb ≠ b) (hb : w1.heap.size ≤ b) (h1 : QE S sv ov Z w1 p o1 deep most) (h : IT S sv ov Z p deep most w1 b kb q wx lo hi o) (v : Int) :
    IT S sv ov Z p deep most w1 b kb q (wx.setCell ⟨b, 2, none⟩ (.int .i64 v)) v hi o ∧ IT S sv ov Z p deep most w1 b kb q (wx.setCell ⟨b, 3, none⟩ (.int .i64 v)) lo v o := by
  have key : ∀ j u lo' hi', (wx.setCell ⟨b, j, none⟩ u).heap[b]? = some (itObj kb lo' hi') → IT S sv ov Z p deep most w1 b kb q (wx.setCell ⟨b, j, none⟩ u) lo' hi' o := fun j u lo' hi' hh => by
    have hg := gset wx b j u
    obtain ⟨g1, g2⟩ := QE.app h1 h.qe h.gr hg (fun k hk => by cases hk; exact hb)
    exact ⟨g1, g2, hh, h.kid.kept hg (.inr (fun e => hkb (Option.some.inj e)))⟩
  exact ⟨key 2 _ _ _ (by rw [heap_setCell_same _ _ _ _ _ _ h.st]; rfl), key 3 _ _ _ (by rw [heap_setCell_same _ _ _ _ _ _ h.st]; rfl)⟩
/-- Where an item's reading is. -/
theorem rf_rep {X : Nat → Prop} {S : List Int} {p : Nat} {w w' : World} {L : List Nd} {deep most N : Nat} {f : Frag} {lo hi : Int} {r : List Int} {q : Nat} (hf : f.nodes ≠ []) (hq : L.length + f.nodes.length - 1 = q) (h : RG X S w' p r (L ++ mv L.length f.nodes ++ [⟨5, [q], lo, hi, []⟩]) deep (max most (deep + f.deep))) (hm : Mvd p w w') :
    RfEnd X S p w L deep most N (some (repF f lo hi, r)) (.returned (.int .i64 (((L ++ mv L.length f.nodes).length : Nat) : Int))) w' := by
  have hpos := List.length_pos_iff.2 hf
  refine ⟨?_, ?_, hm⟩
  · congr 3
    rw [List.length_append, mv_length]
    show _ = L.length + (f.nodes ++ [_]).length - 1
    rw [List.length_append, List.length_singleton]
    omega
  · have e : mv L.length (repF f lo hi).nodes = mv L.length f.nodes ++ [⟨5, [q], lo, hi, []⟩] := by
      show mv L.length (f.nodes ++ [_]) = _
      rw [mv_append]
      congr 1
      show [Nd.mv _ _] = _
      unfold Nd.mv
      simp only [List.map_cons, List.map_nil]
      rw [show f.nodes.length - 1 + L.length = q by omega]
    rw [e, ← List.append_assoc]
    exact h
theorem IT.is {S : List Int} {sv ov : Value} {Z : List NdL} {p deep most : Nat} {w1 : World} {b kb q : Nat} {wx : World} {lo hi : Int} {o : Option (List Int)} (hS : S.length ≤ 1000) (hp : p < w1.heap.size) (hb : w1.heap.size ≤ b) (h : IT S sv ov Z p deep most w1 b kb q wx lo hi o) (c : Int) (hc : 0 ≤ c) :
    ∃ y o', IsR c o y o' ∧ Calls Tryd.prog 28 #[.pointer (some ⟨p, 0, none⟩), .int .i32 c] wx fun e w' => e = .returned (.bool y) ∧ IT S sv ov Z p deep most w1 b kb q w' lo hi o' := by
  obtain ⟨y, o', h1, h2⟩ := re_is p wx S sv ov Z o deep most hS c hc h.qe
  refine ⟨y, o', h1, h2.mono ?_⟩
  rintro e w' ⟨h3, h4, h5⟩
  exact ⟨h3, h.call hp hb h4 h5⟩
theorem IT.is_no {S : List Int} {sv ov : Value} {Z : List NdL} {p deep most : Nat} {w1 : World} {b kb q : Nat} {wx : World} {lo hi : Int} {o : Option (List Int)} (hS : S.length ≤ 1000) (hp : p < w1.heap.size) (hb : w1.heap.size ≤ b) (h : IT S sv ov Z p deep most w1 b kb q wx lo hi o) (c : Int) (hc : 0 ≤ c) (hn : ∀ r, o = some r → nextP c r = none) :
    Calls Tryd.prog 28 #[.pointer (some ⟨p, 0, none⟩), .int .i32 c] wx fun e w' => e = .returned (.bool false) ∧ IT S sv ov Z p deep most w1 b kb q w' lo hi o := by
  obtain ⟨y, o', h1, h2⟩ := h.is hS hp hb c hc
  rcases h1 with ⟨rfl, r, rfl, rfl⟩ | ⟨rfl, rfl, _⟩
  · have := hn _ rfl
    rw [show nextP c (c :: r) = some r by simp [nextP]] at this
    cases this
  · exact h2
theorem IT.is_yes {S : List Int} {sv ov : Value} {Z : List NdL} {p deep most : Nat} {w1 : World} {b kb q : Nat} {wx : World} {lo hi : Int} {r : List Int} (hS : S.length ≤ 1000) (hp : p < w1.heap.size) (hb : w1.heap.size ≤ b) (c : Int) (h : IT S sv ov Z p deep most w1 b kb q wx lo hi (some (c :: r))) (hc : 0 ≤ c) :
    Calls Tryd.prog 28 #[.pointer (some ⟨p, 0, none⟩), .int .i32 c] wx fun e w' => e = .returned (.bool true) ∧ IT S sv ov Z p deep most w1 b kb q w' lo hi (some r) := by
  obtain ⟨y, o', h1, h2⟩ := h.is hS hp hb c hc
  rcases h1 with ⟨rfl, r', e, rfl⟩ | ⟨rfl, rfl, h3⟩
  · cases e
    exact h2
  · have := h3 _ rfl
    rw [show nextP c (c :: r) = some r by simp [nextP]] at this
    cases this
/-- A number, or none. -/
def DigO (s : List Int) (d : Int) (o : Option (List Int)) : Prop := (∃ r, digP s = some (d, r) ∧ o = some r) ∨ (digP s = none ∧ d = 0 ∧ o = none)
theorem IT.dig {S : List Int} {sv ov : Value} {Z : List NdL} {p deep most : Nat} {w1 : World} {b kb q : Nat} {wx : World} {lo hi : Int} {r : List Int} (hS : S.length ≤ 1000) (hp : p < w1.heap.size) (hb : w1.heap.size ≤ b) (h : IT S sv ov Z p deep most w1 b kb q wx lo hi (some r)) :
    ∃ d o', DigO r d o' ∧ Calls Tryd.prog 39 #[.pointer (some ⟨p, 0, none⟩)] wx fun e w' => e = .returned (.int .i64 d) ∧ IT S sv ov Z p deep most w1 b kb q w' lo hi o' := by
  have C := ref_digit p wx S sv ov Z r deep most hS h.qe
  cases hd : digP r with
  | none =>
    rw [hd] at C
    refine ⟨0, none, .inr ⟨hd, rfl, rfl⟩, C.mono ?_⟩
    rintro e w' ⟨h1, h2, h3⟩
    exact ⟨h1, h.call hp hb h2 h3⟩
  | some x =>
    obtain ⟨d, r'⟩ := x
    rw [hd] at C
    refine ⟨d, some r', .inl ⟨r', hd, rfl⟩, C.mono ?_⟩
    rintro e w' ⟨h1, h2, h3⟩
    exact ⟨h1, h.call hp hb h2 h3⟩
/-- What is read between braces, or that it is none. -/
def braO (lo hi : Int) : Option (List Int) → Res (Int × Int)
  | none => none
  | some r => some ((lo, hi), r)
theorem br_end {lo hi : Int} {s : List Int} {y : Bool} {o7 : Option (List Int)} (h : IsR 125 (some s) y o7) : brEnd lo hi s = braO lo hi (if (!y) || decide (hi < lo) then none else o7) := by
  unfold brEnd
  rcases h with ⟨rfl, r, e, rfl⟩ | ⟨rfl, rfl, hn⟩
  · cases e
    rw [show nextP 125 (125 :: r) = some r from rfl]
    by_cases hh : hi < lo
    · rw [if_neg (by omega), decide_eq_true hh]
      rfl
    · rw [if_pos (by omega), decide_eq_false hh]
      rfl
  · rw [hn _ rfl]
    split <;> rfl
theorem is_none {c : Int} {y : Bool} {o' : Option (List Int)} (h : IsR c none y o') : o' = none := by
  rcases h with ⟨_, _, e, _⟩ | ⟨_, h, _⟩
  · cases e
  · exact h
theorem bra_no {r2 : List Int} {d : Int} {o4 o7 : Option (List Int)} {y : Bool} (h1 : DigO r2 d o4) (h2 : ∀ r, o4 = some r → nextP 44 r = none) (h3 : IsR 125 o4 y o7) : braP r2 = braO d d (if (!y) || decide (d < d) then none else o7) := by
  unfold braP
  rcases h1 with ⟨r, e, rfl⟩ | ⟨e, rfl, rfl⟩
  · rw [e]
    simp only
    rw [h2 _ rfl]
    exact br_end h3
  · rw [e]
    obtain rfl := is_none h3
    rw [ite_self]
    rfl
theorem bra_yes {r2 r5 : List Int} {d d2 : Int} {o6 o7 : Option (List Int)} {y : Bool} (h1 : DigO r2 d (some (44 :: r5))) (h2 : DigO r5 d2 o6) (h3 : IsR 125 o6 y o7) : braP r2 = braO d d2 (if (!y) || decide (d2 < d) then none else o7) := by
  unfold braP
  rcases h1 with ⟨r, e, e2⟩ | ⟨_, _, e⟩
  · cases e2
    rw [e]
    simp only
    rw [show nextP 44 (44 :: r5) = some r5 from rfl]
    simp only
    rcases h2 with ⟨r, e, rfl⟩ | ⟨e, rfl, rfl⟩
    · rw [e]
      exact br_end h3
    · rw [e]
      obtain rfl := is_none h3
      rw [ite_self]
      rfl
  · cases e
/-- Which sign of a repetition stands ahead. -/
theorem rep_ways (o : Option (List Int)) : (∃ r, o = some (43 :: r)) ∨ (∃ r, o = some (63 :: r)) ∨ (∃ r, o = some (123 :: r)) ∨ (∃ r, o = some (42 :: r)) ∨ (∀ r, o = some r → nextP 43 r = none ∧ nextP 63 r = none ∧ nextP 123 r = none ∧ nextP 42 r = none) := by
  cases o with
  | none => exact .inr (.inr (.inr (.inr fun r h => by cases h)))
  | some r =>
    cases r with
    | nil => exact .inr (.inr (.inr (.inr fun r h => by cases h; exact ⟨rfl, rfl, rfl, rfl⟩)))
    | cons c r =>
      by_cases h1 : c = 43
      · subst h1
        exact .inl ⟨r, rfl⟩
      by_cases h2 : c = 63
      · subst h2
        exact .inr (.inl ⟨r, rfl⟩)
      by_cases h3 : c = 123
      · subst h3
        exact .inr (.inr (.inl ⟨r, rfl⟩))
      by_cases h4 : c = 42
      · subst h4
        exact .inr (.inr (.inr (.inl ⟨r, rfl⟩)))
      exact .inr (.inr (.inr (.inr fun r' h => by cases h; simp [nextP, h1, h2, h3, h4])))
def repN : Res Frag → Option (Int × Int) → Option (List Int) → Res Frag
  | some (f, _), some (lo, hi), some r => some (repF f lo hi, r)
  | some (f, _), none, some r => some (f, r)
  | _, _, _ => none
/-- What an atom has left, pattern or not. -/
def AtR (L : List Nd) (deep most NN : Nat) (A : Res Frag) (q : Nat) (Z : List NdL) (o : Option (List Int)) (m : Nat) : Prop := match A with
  | none => o = none ∧ Z.length + 1 ≤ NN
  | some (f, r) => o = some r ∧ q = L.length + f.nodes.length - 1 ∧ Z.map Prod.fst = L ++ mv L.length f.nodes ∧ m = max most (deep + f.deep)
/-- A number, read by the document. -/
theorem re_digit (p : Nat) (w : World) (S : List Int) (sv ov : Value) (Z : List NdL) (s : List Int) (deep most : Nat) (hS : S.length ≤ 1000) (h : QE S sv ov Z w p (some s) deep most) :
    ∃ (d : Int) (o' : Option (List Int)), ((∃ r, digP s = some (d, r) ∧ o' = some r) ∨ (digP s = none ∧ d = 0 ∧ o' = none)) ∧ Calls Tryd.prog 39 #[.pointer (some ⟨p, 0, none⟩)] w fun e w' => e = .returned (.int .i64 d) ∧ QE S sv ov Z w' p o' deep most ∧ w.grownBy w' (some p) := by
  have C := ref_digit p w S sv ov Z s deep most hS h
  cases hd : digP s with
  | none =>
    rw [hd] at C
    exact ⟨0, none, .inr ⟨rfl, rfl, rfl⟩, C⟩
  | some x =>
    obtain ⟨d, r⟩ := x
    rw [hd] at C
    exact ⟨d, some r, .inl ⟨r, rfl, rfl⟩, C⟩
set_option maxRecDepth 100000 in
set_option maxHeartbeats 20000000 in
theorem ref_item (n : Nat) (alt : List Int → Res Frag) (hpart : ∀ s f r, alt s = some (f, r) → Part 1 s f r) (IH : DoesR 38 n 1 (atomP alt)) : DoesR 35 n 2 (itemP alt) := by
  intro X S p w s L deep most hn h
  have C := IH X S p w s L deep most hn h
  have HOLD := Lib.hid h.old
  have hls := h.ls
  have hS := h.slen
  obtain ⟨NN, hNN⟩ : ∃ NN, L.length + 4 * s.length + 2 = NN := ⟨_, rfl⟩
  rw [hNN]
  obtain ⟨Y, hY⟩ : ∃ Y, itemP alt s = Y := ⟨_, rfl⟩
  rw [hY]
  have HY := Lib.hid hY
  obtain ⟨A, hA⟩ : ∃ A, atomP alt s = A := ⟨_, rfl⟩
  rw [hA] at C
  have HA := Lib.hid hA
  -- what the atom leaves, both ways
  have C1 : Calls Tryd.prog 38 #[.pointer (some ⟨p, 0, none⟩)] w fun e w' => ∃ (q : Nat) (sv ov : Value) (Z : List NdL) (o : Option (List Int)) (m : Nat), e = .returned (.int .i64 (q : Int)) ∧ QE S sv ov Z w' p o deep m ∧ Free X Z ∧ Mvd p w w' ∧
      AtR L deep most NN A q Z o m := by
    refine C.mono ?_
    intro e w' he
    cases A with
    | none =>
      obtain ⟨k, rfl, ⟨sv, ov, Z, h1, h2, h3⟩, h4⟩ := he
      exact ⟨k, sv, ov, Z, none, 0, rfl, h1, h3, h4, rfl, by omega⟩
    | some x =>
      obtain ⟨f, r⟩ := x
      obtain ⟨rfl, ⟨sv, ov, Z, h1, h2, h3⟩, h4⟩ := he
      exact ⟨_, sv, ov, Z, some r, _, rfl, h1, h3, h4, rfl, rfl, h2, rfl⟩
  have hpt : ∀ f r, A = some (f, r) → f.nodes ≠ [] ∧ L.length + f.nodes.length + 1 ≤ NN := fun f r e => by
    have := atom_part s hpart (hA.trans e)
    exact ⟨this.some, by have := this.few; omega⟩
  have HPT := Lib.hid hpt
  have hNN2 : NN ≤ 100000 := by omega
  have hit : ∀ f r, A = some (f, r) → Y = match repP r with
      | none => none
      | some (x, r1) => some (repV f x, r1) := fun f r e => by
    rw [← hY]
    unfold itemP
    rw [hA, e]
    rfl
  have hin : A = none → Y = none := fun e => by
    rw [← hY]
    unfold itemP
    rw [hA, e]
  have HIT := Lib.hid hit
  have HIN := Lib.hid hin
  clear C IH h hn hY hA hpt hNN hit hin HY HA
  go_enter Tryd.func35, Tryd.ntmps35
  go_upto_region 2 with (go_at_call 38; refine C1.mono ?_; rintro e w1 ⟨q, sv, ov, Z, o, m, rfl, hq1, hfr, hm1, hA1⟩; have H1 := Lib.hid (And.intro hq1 (And.intro hfr (And.intro hm1 hA1))); clear hq1 hfr hm1 hA1)
  clear C1
  have hp1 := H1.out.1.lt
  go_upto_region 3 with fail
  obtain ⟨b, hb⟩ : ∃ b, w1.heap.size + 1 = b := ⟨_, rfl⟩
  obtain ⟨kb, hkb⟩ : ∃ b, w1.heap.size = b := ⟨_, rfl⟩
  rw [hb]
  have e1 : (Obj.cells #[.int .i64 5, .slice (some ⟨w1.heap.size, 0, none⟩) 1 1, .int .i64 0, .int .i64 (-1), .slice none 0 0] 33) = itObj w1.heap.size 0 (-1) := rfl
  rw [e1]
  obtain ⟨wx, hwx⟩ : ∃ wx, (w1.alloc (.cells #[.int .i64 (q : Int)] 3)).alloc (itObj w1.heap.size 0 (-1)) = wx := ⟨_, rfl⟩
  have hx : IT S sv ov Z p deep m w1 b kb q wx 0 (-1) o := by
    have hb1 := belowA' (o := .cells #[.int .i64 (q : Int)] 3) (Below.refl w1.heap.size w1) (Nat.le_refl _)
    have hb2 : Below w1.heap.size w1 wx := by
      rw [← hwx]
      exact belowA' hb1 (by simp)
    refine ⟨H1.out.1.keptB hb2, grown_of_below hb2 _, ?_, ?_⟩
    · rw [← hwx, ← hb, ← hkb]
      have := heap_alloc_new (w1.alloc (.cells #[.int .i64 (q : Int)] 3)) (itObj w1.heap.size 0 (-1))
      rw [show (w1.alloc (.cells #[.int .i64 (q : Int)] 3)).heap.size = w1.heap.size + 1 by simp] at this
      exact this
    · rw [← hwx, ← hkb]
      exact (own_kidR w1 q).alloc _
  rw [hwx]
  rw [hkb]
  have HX := Lib.hid hx
  have hbb : w1.heap.size ≤ b := by omega
  have hkbb : kb ≠ b := by omega
  -- the ends
  have HZ : Z.length + 1 ≤ NN := by
    obtain ⟨-, -, -, hA1⟩ := H1.out
    cases A with
    | none => exact hA1.2
    | some x =>
      obtain ⟨f, r⟩ := x
      have h1 := congrArg List.length hA1.2.2.1
      rw [List.length_map, List.length_append, mv_length] at h1
      have := (HPT.out f r rfl).2
      omega
  have HMV := Lib.hid (fun wy lo hi o' (h : IT S sv ov Z p deep m w1 b kb q wy lo hi o') => H1.out.2.2.1.trans (QE.mvd H1.out.1 h.gr))
  have HND := Lib.hid (fun wy lo hi o' (h : IT S sv ov Z p deep m w1 b kb q wy lo hi o') (hAn : A = none → o' = none) => (by
    have hkf : ∀ k, (Value.slice (some ⟨kb, 0, none⟩) 1 1).ownBlock = some k ∨ (Value.slice none 0 0).ownBlock = some k → ¬ X k := fun k hk hx => hk.elim (fun hk => by cases hk; have h1 : kb < w.heap.size := HOLD.out _ hx; have := H1.out.2.2.1.size; omega) (fun h => by cases h)
    have hna : NdAt wy (p + 1) (⟨5, [q], lo, hi, []⟩, .slice (some ⟨kb, 0, none⟩) 1 1, .slice none 0 0) := ⟨owns_base h.kid hp1, World.ownsRow_nil _ _ _ _⟩
    have hmv := HMV.out _ _ _ _ h
    obtain ⟨-, hfr, -, hA1⟩ := H1.out
    cases o' with
    | none =>
      refine (rb_node (X := X) S p wy Z.length deep ⟨sv, ov, Z, h.qe, Nat.le_refl _, hfr⟩ ⟨5, [q], lo, hi, []⟩ _ _ hna hkf (by omega)).mono ?_
      rintro e w2 ⟨k, h1, h2, h3⟩
      have : repN A (some (lo, hi)) none = none := by
        cases A with
        | none => rfl
        | some x => rfl
      rw [this]
      exact ⟨k, h1, h2.up HZ, hmv.trans h3⟩
    | some r =>
      cases A with
      | none => cases hAn rfl
      | some x =>
        obtain ⟨f, r0⟩ := x
        obtain ⟨-, hq, hZL, rfl⟩ := hA1
        obtain ⟨hf, hfl⟩ := HPT.out f r0 rfl
        refine (rg_node (X := X) S p wy r (L ++ mv L.length f.nodes) deep _ ⟨sv, ov, Z, h.qe, hZL, hfr⟩ ⟨5, [q], lo, hi, []⟩ _ _ hna hkf (by rw [List.length_append, mv_length]; omega)).mono ?_
        rintro e w2 ⟨rfl, h2, h3⟩
        exact rf_rep hf hq.symm h2 (hmv.trans h3) : Calls Tryd.prog 30 #[.pointer (some ⟨p, 0, none⟩), .agg #[.int .i64 5, .slice (some ⟨kb, 0, none⟩) 1 1, .int .i64 lo, .int .i64 hi, .slice none 0 0]] wy (RfEnd X S p w L deep most NN (repN A (some (lo, hi)) o'))))
  have HAO : ∀ r, o = some r → ∃ f, A = some (f, r) := fun r e => by
    obtain ⟨-, -, -, hA1⟩ := H1.out
    cases A with
    | none =>
      rw [hA1.1] at e
      cases e
    | some x =>
      obtain ⟨f, r0⟩ := x
      rw [hA1.1] at e
      cases e
      exact ⟨f, rfl⟩
  have HAO := Lib.hid HAO
  clear hwx hx hb hkb e1
  rcases rep_ways o with ⟨r, rfl⟩ | ⟨r, rfl⟩ | ⟨r, rfl⟩ | ⟨r, rfl⟩ | hno
  · obtain ⟨f, rfl⟩ := HAO.out _ rfl
    have C3 := HX.out.is_yes hS hp1 hbb 43 (by decide)
    go_upto_region 4 with (go_at_call 28; refine C3.mono ?_; rintro e w2 ⟨rfl, h9⟩; have H2 := Lib.hid h9; clear h9)
    obtain ⟨c0, c1, c2, c3, c4, f2, f3⟩ := H2.out.cells
    have H3 := Lib.hid (H2.out.set hkbb hbb H1.out.1 1).1
    clear c0 c1 c3 c4 f3
    go_upto_region 16 with fail
    obtain ⟨w3, hw3⟩ : ∃ w3, w2.setCell ⟨b, 2, none⟩ (.int .i64 1) = w3 := ⟨_, rfl⟩
    rw [hw3] at H3 ⊢
    clear hw3 c2 f2 C3
    obtain ⟨c0, c1, c2, c3, c4, f2, f3⟩ := H3.out.cells
    have CN := HND.out w3 _ _ _ H3.out (fun h => by cases h)
    clear f2 f3
    go_wp2_with (go_at_call 30; refine CN.mono ?_; rintro e wn hn2; obtain ⟨kn, en⟩ := hn2.int; subst en; have HN2 := Lib.hid hn2; clear hn2)
    go_ret
    rw [HIT.out f _ rfl, show repP (43 :: r) = some (some (1, -1), r) from rfl]
    exact HN2.out
  · obtain ⟨f, rfl⟩ := HAO.out _ rfl
    have C3 := HX.out.is_no hS hp1 hbb 43 (by decide) (fun r' e => by cases e; rfl)
    go_upto_region 5 with (go_at_call 28; refine C3.mono ?_; rintro e w2 ⟨rfl, h9⟩; have H2 := Lib.hid h9; clear h9)
    have C4 := H2.out.is_yes hS hp1 hbb 63 (by decide)
    go_upto_region 6 with (go_at_call 28; refine C4.mono ?_; rintro e w3 ⟨rfl, h9⟩; have H3 := Lib.hid h9; clear h9)
    obtain ⟨c0, c1, c2, c3, c4, f2, f3⟩ := H3.out.cells
    have H4 := Lib.hid (H3.out.set hkbb hbb H1.out.1 1).2
    clear c0 c1 c2 c4 f2
    go_upto_region 16 with fail
    obtain ⟨w4, hw4⟩ : ∃ w4, w3.setCell ⟨b, 3, none⟩ (.int .i64 1) = w4 := ⟨_, rfl⟩
    rw [hw4] at H4 ⊢
    clear hw4 c3 f3 C3 C4
    obtain ⟨c0, c1, c2, c3, c4, f2, f3⟩ := H4.out.cells
    have CN := HND.out w4 _ _ _ H4.out (fun h => by cases h)
    clear f2 f3
    go_wp2_with (go_at_call 30; refine CN.mono ?_; rintro e wn hn2; obtain ⟨kn, en⟩ := hn2.int; subst en; have HN2 := Lib.hid hn2; clear hn2)
    go_ret
    rw [HIT.out f _ rfl, show repP (63 :: r) = some (some (0, 1), r) from rfl]
    exact HN2.out
  · obtain ⟨f, rfl⟩ := HAO.out _ rfl
    have hYB : Y = match braP r with
        | none => none
        | some (x, r3) => some (repF f x.1 x.2, r3) := by
      rw [HIT.out f _ rfl]
      show (match (match braP r with
        | none => none
        | some (x, r1) => some (some x, r1)) with
        | none => none
        | some (x, r1) => some (repV f x, r1)) = _
      cases braP r with
      | none => rfl
      | some x => rfl
    have HYB := Lib.hid hYB
    have hYO : ∀ lo hi o, braP r = braO lo hi o → Y = repN (some (f, 123 :: r)) (some (lo, hi)) o := fun lo hi o e => by
      rw [HYB.out, e]
      cases o <;> rfl
    have HYO := Lib.hid hYO
    clear hYB hYO HYB
    have C3 := HX.out.is_no hS hp1 hbb 43 (by decide) (fun r' e => by cases e; rfl)
    go_upto_region 5 with (go_at_call 28; refine C3.mono ?_; rintro e w2 ⟨rfl, h9⟩; have H2 := Lib.hid h9; clear h9)
    have C4 := H2.out.is_no hS hp1 hbb 63 (by decide) (fun r' e => by cases e; rfl)
    go_upto_region 7 with (go_at_call 28; refine C4.mono ?_; rintro e w3 ⟨rfl, h9⟩; have H3 := Lib.hid h9; clear h9)
    have C5 := H3.out.is_yes hS hp1 hbb 123 (by decide)
    go_upto_region 8 with (go_at_call 28; refine C5.mono ?_; rintro e w4 ⟨rfl, h9⟩; have H4 := Lib.hid h9; clear h9)
    clear C3 C4 C5
    obtain ⟨d, o5, hd5, C5⟩ := H4.out.dig hS hp1 hbb
    have HD5 := Lib.hid hd5
    clear hd5
    go_upto_region 9 with (go_at_call 39; refine C5.mono ?_; rintro e w5 ⟨rfl, h9⟩; have H5 := Lib.hid h9; obtain ⟨-, -, c2, -, -, f2, -⟩ := h9.cells; clear h9)
    have H6 := Lib.hid (H5.out.set hkbb hbb H1.out.1 d).1
    obtain ⟨w6, hw6⟩ : ∃ w6, w5.setCell ⟨b, 2, none⟩ (.int .i64 d) = w6 := ⟨_, rfl⟩
    rw [hw6] at H6 ⊢
    clear hw6 c2 f2 C5
    obtain ⟨-, -, c2, c3, -, -, f3⟩ := H6.out.cells
    have H7 := Lib.hid (H6.out.set hkbb hbb H1.out.1 d).2
    go_upto_region 10 with fail
    obtain ⟨w7, hw7⟩ : ∃ w7, w6.setCell ⟨b, 3, none⟩ (.int .i64 d) = w7 := ⟨_, rfl⟩
    rw [hw7] at H7 ⊢
    clear hw7 c2 c3 f3
    obtain ⟨y8, o8, hy8, C8⟩ := H7.out.is hS hp1 hbb 44 (by decide)
    have HY8 := Lib.hid hy8
    clear hy8
    cases y8
    case' false =>
      go_upto_region 12 with (go_at_call 28; refine C8.mono ?_; rintro e w8 ⟨rfl, h9⟩; have H8 := Lib.hid h9; clear h9)
      have hBR : ∀ y o9, IsR 125 o8 y o9 → braP r = braO d d (if (!y) || decide (d < d) then none else o9) := fun y o9 h => by
        rcases HY8.out with ⟨e, _⟩ | ⟨_, rfl, hn⟩
        · cases e
        · exact bra_no HD5.out hn h
      have HBR := Lib.hid hBR
      obtain ⟨hi, hhi⟩ : ∃ hi, d = hi := ⟨_, rfl⟩
      have HH := Lib.hid hhi
      have hb8 : IT S sv ov Z p deep m w1 b kb q w8 d hi o8 := by rw [← HH.out]; exact H8.out
      replace HBR : Hid (∀ y o9, IsR 125 o8 y o9 → braP r = braO d hi (if (!y) || decide (hi < d) then none else o9)) := by rw [← HH.out]; exact HBR
      have HW := Lib.hid hb8
      obtain ⟨wz, hwz⟩ : ∃ z : World, z = w8 := ⟨_, rfl⟩
      subst hwz
      obtain ⟨oz, hoz⟩ : ∃ z : Option (List Int), z = o8 := ⟨_, rfl⟩
      subst hoz
      clear hhi HH hb8 hBR H8 C8
    case' true =>
      obtain ⟨r5, rfl, rfl⟩ : ∃ r5, o5 = some (44 :: r5) ∧ o8 = some r5 := by
        rcases HY8.out with ⟨_, r5, h1, h2⟩ | ⟨h, _⟩
        · exact ⟨r5, h1, h2⟩
        · cases h
      go_upto_region 11 with (go_at_call 28; refine C8.mono ?_; rintro e w8 ⟨rfl, h9⟩; have H8 := Lib.hid h9; clear h9)
      clear C8
      obtain ⟨hi, oz, hd9, C9⟩ := H8.out.dig hS hp1 hbb
      have HD9 := Lib.hid hd9
      clear hd9
      go_upto_region 12 with (go_at_call 39; refine C9.mono ?_; rintro e w9 ⟨rfl, h9⟩; have H9 := Lib.hid h9; obtain ⟨-, -, -, c3, -, -, f3⟩ := h9.cells; clear h9)
      have HW := Lib.hid (H9.out.set hkbb hbb H1.out.1 hi).2
      obtain ⟨wz, hwz⟩ : ∃ w6, w9.setCell ⟨b, 3, none⟩ (.int .i64 hi) = w6 := ⟨_, rfl⟩
      rw [hwz] at HW ⊢
      have HBR := Lib.hid (fun y o9 (h : IsR 125 oz y o9) => bra_yes HD5.out HD9.out h)
      clear hwz c3 f3 C9
    all_goals
      clear HD5 HY8 H7 H6 H5 H4 H3 H2
      obtain ⟨y, o9, hy9, C9⟩ := HW.out.is hS hp1 hbb 125 (by decide)
      have hbr := HBR.out y o9 hy9
      clear hy9 HBR
      by_cases hlt : y = false ∨ hi < d
      · have hbad : (if (!y) || decide (hi < d) then (none : Option (List Int)) else o9) = none := by
          rcases hlt with rfl | h
          · rfl
          · rw [decide_eq_true h, Bool.or_true]
            rfl
        rw [hbad] at hbr
        have HYN := Lib.hid (HYO.out _ _ _ hbr)
        clear hbr hbad HYO
        cases y
        case' false =>
          go_upto_region 13 with (go_at_call 28; refine C9.mono ?_; rintro e w10 ⟨rfl, h9⟩; have H10 := Lib.hid h9; clear h9)
        case' true =>
          have hlt2 : hi < d := by rcases hlt with h | h; cases h; exact h
          have hdl : decide (hi < d) = true := decide_eq_true hlt2
          go_upto_region 13 with (go_at_call 28; refine C9.mono ?_; rintro e w10 ⟨rfl, h9⟩; have H10 := Lib.hid h9; obtain ⟨-, -, c2, c3, -, -, -⟩ := h9.cells; clear h9)
          clear c2 c3 hlt2 hdl
        all_goals
          clear hlt C9
          obtain ⟨b1, b2⟩ := H10.out.qe.bad
          have H11 := Lib.hid (H10.out.bad hp1 hbb)
          go_upto_region 16 with fail
          obtain ⟨w11, hw11⟩ : ∃ w6, w10.setCell ⟨p, 5, none⟩ (.bool true) = w6 := ⟨_, rfl⟩
          rw [hw11] at H11 ⊢
          clear hw11 b1 b2
          obtain ⟨c0, c1, c2, c3, c4, f2, f3⟩ := H11.out.cells
          have CN := HND.out w11 _ _ _ H11.out (fun h => by cases h)
          clear f2 f3
          go_wp2_with (go_at_call 30; refine CN.mono ?_; rintro e wn hn2; obtain ⟨kn, en⟩ := hn2.int; subst en; have HN2 := Lib.hid hn2; clear hn2)
          go_ret
          rw [HYN.out]
          exact HN2.out
      · have hy : y = true := by
          cases y with
          | true => rfl
          | false => exact absurd (.inl rfl) hlt
        subst hy
        have hge : ¬ hi < d := fun h => hlt (.inr h)
        have hdl : decide (hi < d) = false := decide_eq_false hge
        rw [hdl] at hbr
        have HYN := Lib.hid (HYO.out _ _ _ hbr)
        clear hbr HYO hlt
        go_upto_region 16 with (go_at_call 28; refine C9.mono ?_; rintro e w10 ⟨rfl, h9⟩; have H10 := Lib.hid h9; obtain ⟨-, -, c2, c3, -, -, -⟩ := h9.cells; clear h9)
        clear C9 c2 c3 hge hdl
        obtain ⟨c0, c1, c2, c3, c4, f2, f3⟩ := H10.out.cells
        have CN := HND.out w10 _ _ _ H10.out (fun h => by cases h)
        clear f2 f3
        go_wp2_with (go_at_call 30; refine CN.mono ?_; rintro e wn hn2; obtain ⟨kn, en⟩ := hn2.int; subst en; have HN2 := Lib.hid hn2; clear hn2)
        go_ret
        rw [HYN.out]
        exact HN2.out
  · obtain ⟨f, rfl⟩ := HAO.out _ rfl
    have C3 := HX.out.is_no hS hp1 hbb 43 (by decide) (fun r' e => by cases e; rfl)
    go_upto_region 5 with (go_at_call 28; refine C3.mono ?_; rintro e w2 ⟨rfl, h9⟩; have H2 := Lib.hid h9; clear h9)
    have C4 := H2.out.is_no hS hp1 hbb 63 (by decide) (fun r' e => by cases e; rfl)
    go_upto_region 7 with (go_at_call 28; refine C4.mono ?_; rintro e w3 ⟨rfl, h9⟩; have H3 := Lib.hid h9; clear h9)
    have C5 := H3.out.is_no hS hp1 hbb 123 (by decide) (fun r' e => by cases e; rfl)
    go_upto_region 14 with (go_at_call 28; refine C5.mono ?_; rintro e w4 ⟨rfl, h9⟩; have H4 := Lib.hid h9; clear h9)
    have C6 := H4.out.is_yes hS hp1 hbb 42 (by decide)
    go_upto_region 16 with (go_at_call 28; refine C6.mono ?_; rintro e w5 ⟨rfl, h9⟩; have H5 := Lib.hid h9; clear h9)
    clear C3 C4 C5 C6
    obtain ⟨c0, c1, c2, c3, c4, f2, f3⟩ := H5.out.cells
    have CN := HND.out w5 _ _ _ H5.out (fun h => by cases h)
    clear f2 f3
    go_wp2_with (go_at_call 30; refine CN.mono ?_; rintro e wn hn2; obtain ⟨kn, en⟩ := hn2.int; subst en; have HN2 := Lib.hid hn2; clear hn2)
    go_ret
    rw [HIT.out f _ rfl, show repP (42 :: r) = some (some (0, -1), r) from rfl]
    exact HN2.out
  · have HNO := Lib.hid hno
    clear hno
    have C3 := HX.out.is_no hS hp1 hbb 43 (by decide) (fun r' e => (HNO.out r' e).1)
    go_upto_region 5 with (go_at_call 28; refine C3.mono ?_; rintro e w2 ⟨rfl, h9⟩; have H2 := Lib.hid h9; clear h9)
    have C4 := H2.out.is_no hS hp1 hbb 63 (by decide) (fun r' e => (HNO.out r' e).2.1)
    go_upto_region 7 with (go_at_call 28; refine C4.mono ?_; rintro e w3 ⟨rfl, h9⟩; have H3 := Lib.hid h9; clear h9)
    have C5 := H3.out.is_no hS hp1 hbb 123 (by decide) (fun r' e => (HNO.out r' e).2.2.1)
    go_upto_region 14 with (go_at_call 28; refine C5.mono ?_; rintro e w4 ⟨rfl, h9⟩; have H4 := Lib.hid h9; clear h9)
    have C6 := H4.out.is_no hS hp1 hbb 42 (by decide) (fun r' e => (HNO.out r' e).2.2.2)
    go_wp2_with (go_at_call 28; refine C6.mono ?_; rintro e w5 ⟨rfl, h9⟩; have H5 := Lib.hid h9; clear h9)
    go_ret
    have hmv := HMV.out _ _ _ _ H5.out
    obtain ⟨-, hfr, -, hA1⟩ := H1.out
    cases A with
    | none =>
      obtain ⟨rfl, hZN⟩ := hA1
      rw [HIN.out rfl]
      exact ⟨q, rfl, ⟨sv, ov, Z, H5.out.qe, by omega, hfr⟩, hmv⟩
    | some x =>
      obtain ⟨f, r⟩ := x
      obtain ⟨rfl, rfl, hZL, rfl⟩ := hA1
      obtain ⟨n1, n2, n3, n4⟩ := HNO.out r rfl
      rw [HIT.out f r rfl, show repP r = some (none, r) from by unfold repP; rw [n4]; simp only; rw [n1]; simp only; rw [n2]; simp only; rw [n3]]
      exact ⟨rfl, ⟨sv, ov, Z, H5.out.qe, hZL, hfr⟩, hmv⟩
end Go.Proofs.YthmhmckkkceclaaDoor
/-
  The document's parser: row.
-/
namespace Go.Proofs.YthmhmckkkceclaaDoor
open Go.RowKit
theorem RfEnd.mvd {X : Nat → Prop} {S : List Int} {p : Nat} {w : World} {L : List Nd} {deep most N : Nat} {x : Res Frag} {e : Ending} {w' : World} (h : RfEnd X S p w L deep most N x e w') : Mvd p w w' := by
  cases x with
  | none =>
    obtain ⟨_, _, _, h⟩ := h
    exact h
  | some x =>
    obtain ⟨_, _, h⟩ := h
    exact h
/-- A row of the call's own grows in a block that no node has. -/
theorem QSt.beside {X : Nat → Prop} {w0 w w9 : World} {p : Nat} {sv ov : Value} {S : List Int} {at' : Nat} {Z : List NdL} {deep most : Nat} {bad : Bool} {size n : Nat} {v : Value} {xs : List Value} (h : QSt w p sv ov S at' Z deep most bad) (hf : Free X Z) (hm : Mvd p w0 w) (hg : w.grownBy w9 v.ownBlock) (hp0 : p < w0.heap.size) (hv : w.ownsRow w0.heap.size 3 size v n xs) (hX : ∀ k, v.ownBlock = some k → X k) :
    QSt w9 p sv ov S at' Z deep most bad ∧ Mvd p w0 w9 := by
  have hpl := h.lt
  have hlow : Below p w w9 := ⟨hg.os, hg.tape, hg.output, hg.size, fun k hk => hg.block k (Nat.lt_trans hk hpl) (fun e => by have := (hv.lt k e.symm).1; omega)⟩
  have hkept : ∀ {e : TypeId} {size' n' : Nat} {v' : Value} {xs' : List Value}, w.ownsRow (p + 1) e size' v' n' xs' → (∀ k, v'.ownBlock = some k → v.ownBlock ≠ some k) → w9.ownsRow (p + 1) e size' v' n' xs' := fun ho hne => ho.kept hg (by
    rename_i v' _
    cases hv' : v'.ownBlock with
    | none => exact .inl rfl
    | some j => exact .inr fun e => hne j hv' e.symm)
  refine ⟨⟨?_, fun W hW => h.row W (hlow.trans hW), ⟨hkept h.out.own fun k hk e => own_apartX hv h.out.own (by decide) e hk, fun z hz => ⟨hkept (h.out.parts z hz).1 fun k hk e => hf z hz k (.inl hk) (hX k e), hkept (h.out.parts z hz).2 fun k hk e => hf z hz k (.inr hk) (hX k e)⟩⟩⟩, hm.low.trans hlow, fun k hk hT => ?_⟩
  · rw [hg.block p hpl (fun e => by have := (hv.lt p e.symm).1; omega)]
    exact h.own
  · rw [hg.block k (Nat.lt_of_lt_of_le hk hm.size) (fun e => by have := (hv.lt k e.symm).1; omega), hm.off k hk hT]
theorem QSt.fresh {X : Nat → Prop} {w : World} {p : Nat} {sv ov : Value} {S : List Int} {at' : Nat} {Z : List NdL} {deep most : Nat} {bad : Bool} (h : QSt w p sv ov S at' Z deep most bad) (hf : Free X Z) : Free (fun k => X k ∨ w.heap.size ≤ k) Z := fun z hz k hk hx => hx.elim (hf z hz k hk) fun hx => by
  rcases hk with hk | hk
  · have := ((h.out.parts z hz).1.lt k hk).2
    omega
  · have := ((h.out.parts z hz).2.lt k hk).2
    omega
theorem RG.beside {X : Nat → Prop} {S : List Int} {w0 w w9 : World} {p : Nat} {s : List Int} {L : List Nd} {deep most : Nat} {size n : Nat} {v : Value} {xs : List Value} (h : RG X S w p s L deep most) (hm : Mvd p w0 w) (hp0 : p < w0.heap.size) (hg : w.grownBy w9 v.ownBlock) (hv : w.ownsRow w0.heap.size 3 size v n xs) (hX : ∀ k, v.ownBlock = some k → X k) :
    RG X S w9 p s L deep most ∧ Mvd p w0 w9 := by
  obtain ⟨sv, ov, Z, ⟨a, h1, h2, h⟩, hL, hf⟩ := h
  obtain ⟨g1, g2⟩ := h.beside hf hm hg hp0 hv hX
  exact ⟨⟨sv, ov, Z, ⟨a, h1, h2, g1⟩, hL, hf⟩, g2⟩
theorem RB.beside {X : Nat → Prop} {S : List Int} {w0 w w9 : World} {p N deep : Nat} {size n : Nat} {v : Value} {xs : List Value} (h : RB X S w p N deep) (hm : Mvd p w0 w) (hp0 : p < w0.heap.size) (hg : w.grownBy w9 v.ownBlock) (hv : w.ownsRow w0.heap.size 3 size v n xs) (hX : ∀ k, v.ownBlock = some k → X k) :
    RB X S w9 p N deep ∧ Mvd p w0 w9 := by
  obtain ⟨sv, ov, Z, ⟨a, m, h1, h⟩, hL, hf⟩ := h
  obtain ⟨g1, g2⟩ := h.beside hf hm hg hp0 hv hX
  exact ⟨⟨sv, ov, Z, ⟨a, m, h1, g1⟩, hL, hf⟩, g2⟩
theorem RG.fresh {X : Nat → Prop} {S : List Int} {w : World} {p : Nat} {s : List Int} {L : List Nd} {deep most : Nat} (h : RG X S w p s L deep most) : RG (fun k => X k ∨ w.heap.size ≤ k) S w p s L deep most := by
  obtain ⟨sv, ov, Z, ⟨a, h1, h2, h⟩, hL, hf⟩ := h
  exact ⟨sv, ov, Z, ⟨a, h1, h2, h⟩, hL, h.fresh hf⟩
theorem RB.fresh {X : Nat → Prop} {S : List Int} {w : World} {p N deep : Nat} (h : RB X S w p N deep) : RB (fun k => X k ∨ w.heap.size ≤ k) S w p N deep := by
  obtain ⟨sv, ov, Z, ⟨a, m, h1, h⟩, hL, hf⟩ := h
  exact ⟨sv, ov, Z, ⟨a, m, h1, h⟩, hL, h.fresh hf⟩
/-- The parts of a row or of alternatives, ahead of the node over them. -/
def MN (X : Nat → Prop) (S : List Int) (p : Nat) (w : World) (L : List Nd) (deep most NN : Nat) (kind : Int) (ks : List Nat) (v : Value) (wx : World) (Y : Res Frag) : Prop :=
  wx.ownsRow w.heap.size 3 1 v ks.length (ks.map iCell) ∧ Mvd p w wx ∧
    ((∃ fs r, ks = rootsN L.length fs ∧ (∀ f ∈ fs, f.nodes ≠ []) ∧ L.length + (catN fs).length ≤ 100000 ∧ RG X S wx p r (L ++ mv L.length (catN fs)) deep (max most (deep + deepF fs)) ∧ Y = some (manyP kind fs, r)) ∨
    (Y = none ∧ ∃ N, RB X S wx p N deep ∧ N + 1 ≤ NN ∧ NN ≤ 100000))
theorem MN.one {X : Nat → Prop} {S : List Int} {p : Nat} {w : World} {L : List Nd} {deep most NN : Nat} {kind : Int} {q : Nat} {v : Value} {wx : World} {Y : Res Frag} (h : MN X S p w L deep most NN kind [q] v wx Y) : RfEnd X S p w L deep most NN Y (.returned (.int .i64 (q : Int))) wx := by
  obtain ⟨-, hm, ⟨fs, r, hk, hne, hl, hg, rfl⟩ | ⟨rfl, N, hb, hN, -⟩⟩ := h
  · match fs, hk with
    | [f], hk =>
      have hq : q = L.length + f.nodes.length - 1 := by
        have := List.cons.inj hk
        exact this.1
      have e1 : catN [f] = f.nodes := by simp [catN, mv]
      have e2 : deepF [f] = f.deep := by simp [deepF]
      rw [e1, e2] at hg
      exact ⟨by rw [hq]; rfl, hg, hm⟩
    | f :: g :: fs, hk => cases hk
  · exact ⟨q, rfl, hb.up (by omega), hm⟩
theorem MN.node {X : Nat → Prop} {S : List Int} {p : Nat} {w : World} {L : List Nd} {deep most NN : Nat} {kind : Int} {ks : List Nat} {v : Value} {wx : World} {Y : Res Frag} (hp : p < w.heap.size) (hX : ∀ k, X k → k < w.heap.size) (h1 : ks.length ≠ 1) (h : MN X S p w L deep most NN kind ks v wx Y) :
    Calls Tryd.prog 30 #[.pointer (some ⟨p, 0, none⟩), .agg #[.int .i64 kind, v, .int .i64 0, .int .i64 0, .slice none 0 0]] wx (RfEnd X S p w L deep most NN Y) := by
  obtain ⟨hv, hm, h⟩ := h
  have hna : NdAt wx (p + 1) (⟨kind, ks, 0, 0, []⟩, v, .slice none 0 0) := ⟨owns_base hv hp, World.ownsRow_nil _ _ _ _⟩
  have hfr : ∀ k, v.ownBlock = some k ∨ (Value.slice none 0 0).ownBlock = some k → ¬ X k := fun k hk hx => hk.elim (fun hk => by have := (hv.lt k hk).1; have := hX k hx; omega) (fun h => by cases h)
  rcases h with ⟨fs, r, hk, hne, hl, hg, rfl⟩ | ⟨rfl, N, hb, hN, hNN⟩
  · have h1' : fs.length ≠ 1 := by
      rw [hk, rootsN_len] at h1
      exact h1
    obtain ⟨e1, e2⟩ := many_mv kind fs h1' hne L.length
    refine (rg_node S p wx r _ deep _ hg ⟨kind, ks, 0, 0, []⟩ _ _ hna hfr (by rw [List.length_append, mv_length]; omega)).mono ?_
    rintro e w2 ⟨rfl, h2, h3⟩
    refine ⟨?_, by rw [e1, e2, ← hk, ← List.append_assoc]; exact h2, hm.trans h3⟩
    have e3 := congrArg List.length e1
    rw [mv_length, List.length_append, mv_length, List.length_singleton] at e3
    rw [e3, List.length_append, mv_length]
    rfl
  · refine (rb_node S p wx N deep hb ⟨kind, ks, 0, 0, []⟩ _ _ hna hfr (by omega)).mono ?_
    rintro e w2 ⟨k, rfl, h2, h3⟩
    exact ⟨k, rfl, h2.up hN, hm.trans h3⟩
/-- A row, some of it read, or no pattern. -/
def RoI (X : Nat → Prop) (S : List Int) (p : Nat) (L : List Nd) (deep most : Nat) (alt : List Int → Res Frag) (s : List Int) (XX : Res (List Frag)) (gk : Nat) (ks : List Nat) (v : Value) (wr : World) : Option (List Int) → Prop
  | some r => ∃ fs, ks = rootsN L.length fs ∧ RG (fun k => X k ∨ v.ownBlock = some k) S wr p r (L ++ mv L.length (catN fs)) deep (max most (deep + deepF fs)) ∧ (∀ f ∈ fs, f.nodes ≠ []) ∧ r <:+ s ∧ (catN fs).length + 4 * r.length ≤ 4 * s.length ∧ rowRest fs (rowL alt gk r) = XX ∧ r.length ≤ gk ∧ fs.length + r.length ≤ s.length
  | none => XX = none ∧ ks ≠ [] ∧ RB (fun k => X k ∨ v.ownBlock = some k) S wr p (L.length + 4 * s.length + 2) deep ∧ ks.length ≤ s.length
def goesR : Option (List Int) → Bool
  | some (c :: _) => !(decide (c = 124 ∨ c = 41))
  | _ => false
theorem RoI.peek {X : Nat → Prop} {S : List Int} {p : Nat} {L : List Nd} {deep most : Nat} {alt : List Int → Res Frag} {s : List Int} {XX : Res (List Frag)} {gk : Nat} {ks : List Nat} {v : Value} {wr : World} {o : Option (List Int)} (hS : S.length ≤ 1000) (h : RoI X S p L deep most alt s XX gk ks v wr o) (W : World) (hb : Below wr.heap.size wr W) :
    Calls Tryd.prog 34 #[.pointer (some ⟨p, 0, none⟩)] W fun e w' => e = .returned (.int .i32 (headO o)) ∧ Below wr.heap.size wr w' := by
  have key : Calls Tryd.prog 34 #[.pointer (some ⟨p, 0, none⟩)] W fun e w' => e = .returned (.int .i32 (headO o)) ∧ Below W.heap.size W w' := by
    cases o with
    | none =>
      obtain ⟨_, _, h, _⟩ := h
      exact rb_peek p W _ _ (h.keptB hb)
    | some r =>
      obtain ⟨fs, _, h, _⟩ := h
      exact rg_peek hS p W _ _ _ _ (h.keptB hb)
  refine key.mono ?_
  rintro e w' ⟨h1, h2⟩
  exact ⟨h1, hb.trans (h2.mono hb.size)⟩
theorem RoI.keptB {X : Nat → Prop} {S : List Int} {p : Nat} {L : List Nd} {deep most : Nat} {alt : List Int → Res Frag} {s : List Int} {XX : Res (List Frag)} {gk : Nat} {ks : List Nat} {v : Value} {wr W : World} {o : Option (List Int)} (h : RoI X S p L deep most alt s XX gk ks v wr o) (hb : Below wr.heap.size wr W) : RoI X S p L deep most alt s XX gk ks v W o := by
  cases o with
  | none =>
    obtain ⟨h1, h2, h3, h4⟩ := h
    exact ⟨h1, h2, h3.keptB hb, h4⟩
  | some r =>
    obtain ⟨fs, h1, h2, h3⟩ := h
    exact ⟨fs, h1, h2.keptB hb, h3⟩
theorem rowL_stop (alt : List Int → Res Frag) (gk : Nat) (r : List Int) (h : goesR (some r) = false) : rowL alt gk r = some ([], r) := by
  cases r with
  | nil => cases gk <;> rfl
  | cons c r =>
    have hc : c = 124 ∨ c = 41 := by
      unfold goesR at h
      simp at h
      by_cases hh : c = 124
      · exact .inl hh
      · exact .inr (h hh)
    cases gk <;> (unfold rowL; rw [if_pos hc])
/-- One part more. -/
theorem RoI.more {X : Nat → Prop} {S : List Int} {p : Nat} {L : List Nd} {deep most : Nat} {alt : List Int → Res Frag} (hpart : ∀ s f r, alt s = some (f, r) → Part 1 s f r) {s : List Int} {XX : Res (List Frag)} {k : Nat} {ks : List Nat} {v v9 : Value} {w wc w2 w9 : World} {c : Int} {r : List Int} {fs : List Frag} {q : Nat}
    (hpw : p < w.heap.size) (hks : ks = rootsN L.length fs) (hmv : Mvd p w wc) (hne : ∀ f ∈ fs, f.nodes ≠ []) (hsf : c :: r <:+ s) (hfew : (catN fs).length + 4 * (c :: r).length ≤ 4 * s.length) (hrest : rowRest fs (rowL alt (k + 1) (c :: r)) = XX) (hgo : goesR (some (c :: r)) = true) (hgk : (c :: r).length ≤ k + 1) (hfl : fs.length + (c :: r).length ≤ s.length)
    (he : RfEnd (fun j => X j ∨ v.ownBlock = some j) S p wc (L ++ mv L.length (catN fs)) deep (max most (deep + deepF fs)) ((L ++ mv L.length (catN fs)).length + 4 * (c :: r).length + 2) (itemP alt (c :: r)) (.returned (.int .i64 (q : Int))) w2)
    (hown : (w2.alloc (.cells #[.int .i64 (q : Int)] 3)).ownsRow w.heap.size 3 1 v ks.length (ks.map iCell)) (hgr : (w2.alloc (.cells #[.int .i64 (q : Int)] 3)).grownBy w9 v.ownBlock) (hloc : v9.ownBlock = v.ownBlock ∨ v9.ownBlock = some (w2.alloc (.cells #[.int .i64 (q : Int)] 3)).heap.size) :
    Mvd p w w9 ∧ ∃ o, RoI X S p L deep most alt s XX k (ks ++ [q]) v9 w9 o := by
  have hc : ¬ (c = 124 ∨ c = 41) := by
    unfold goesR at hgo
    simpa using hgo
  have hit : rowL alt (k + 1) (c :: r) = match itemP alt (c :: r) with
      | none => none
      | some (f, r1) => match rowL alt k r1 with
        | none => none
        | some (gs, r2) => some (f :: gs, r2) := by
    rw [rowL, if_neg hc]
    rfl
  rw [hit] at hrest
  have hbA := belowA' (o := .cells #[.int .i64 (q : Int)] 3) (Below.refl w2.heap.size w2) (Nat.le_refl _)
  have hsub : ∀ j, X j ∨ v9.ownBlock = some j → (X j ∨ v.ownBlock = some j) ∨ w2.heap.size ≤ j := by
    rintro j (hj | hj)
    · exact .inl (.inl hj)
    · rcases hloc with h | h
      · exact .inl (.inr (h.symm.trans hj))
      · rw [h] at hj
        cases hj
        exact .inr (by simp)
  have hm2 := hmv.trans he.mvd
  simp only [List.length_cons] at hfew hgk hfl
  cases hi : itemP alt (c :: r) with
  | none =>
    rw [hi] at he hrest
    obtain ⟨_, _, hb, _⟩ := he
    have hpl := hb.lt
    obtain ⟨g1, g2⟩ := (hb.fresh.keptB hbA).beside (hm2.trans (Mvd.b hbA hpl)) hpw hgr hown (fun j hj => .inl (.inr hj))
    refine ⟨g2, none, hrest.symm, by simp, (g1.sub hsub).up ?_, ?_⟩
    · rw [List.length_append, mv_length]
      simp only [List.length_cons]
      omega
    · rw [List.length_append, hks, rootsN_len]
      simp
      omega
  | some x =>
    obtain ⟨f, r1⟩ := x
    have hpt := item_part _ hpart hi
    have hff := hpt.few
    rw [hi] at he hrest
    simp only at hrest
    obtain ⟨hq, hg, _⟩ := he
    have hpl := hg.lt
    obtain ⟨g1, g2⟩ := (hg.fresh.keptB hbA).beside (hm2.trans (Mvd.b hbA hpl)) hpw hgr hown (fun j hj => .inl (.inr hj))
    have hq' : q = (L ++ mv L.length (catN fs)).length + f.nodes.length - 1 := by
      have h1 := Ending.returned.inj hq
      have h2 := (Value.int.inj h1).2
      omega
    rw [List.length_append, mv_length] at hq'
    simp only [List.length_cons, Int.natCast_add, Int.natCast_one] at hff
    have g3 := g1.sub hsub
    rw [parts_more] at g3
    rw [show max (max most (deep + deepF fs)) (deep + f.deep) = max most (deep + deepF (fs ++ [f])) by rw [deepF_snoc]; omega] at g3
    refine ⟨g2, some r1, fs ++ [f], ?_, g3, ?_, hpt.suf.trans hsf, ?_, ?_, ?_, ?_⟩
    · rw [rootsN_snoc, hks, hq']
    · intro g hg
      rcases List.mem_append.1 hg with hg | hg
      · exact hne g hg
      · rw [List.mem_singleton.1 hg]
        exact hpt.some
    · rw [catN_snoc, List.length_append, mv_length]
      omega
    · rw [← hrest]
      cases rowL alt k r1 with
      | none => rfl
      | some y => simp [rowRest]
    · omega
    · rw [List.length_append, List.length_singleton]
      omega
set_option maxRecDepth 100000 in
set_option maxHeartbeats 20000000 in
theorem ref_row (n : Nat) (alt : List Int → Res Frag) (hpart : ∀ s f r, alt s = some (f, r) → Part 1 s f r) (IH : DoesR 35 n 2 (itemP alt)) : DoesR 29 n 3 (rowP alt) := by
  intro X S p w s L deep most hn h
  have HOLD := Lib.hid h.old
  have HASK := Lib.hid h
  have hS := h.slen
  have hdm := h.dm
  have hds := h.ds
  have hls := h.ls
  have hlen := h.len
  have hpw := h.rg.lt
  obtain ⟨XX, hXX⟩ : ∃ XX, rowL alt s.length s = XX := ⟨_, rfl⟩
  obtain ⟨Y, hY⟩ : ∃ Y, rowP alt s = Y := ⟨_, rfl⟩
  have hYX : Y = rowOf XX := by rw [← hY, rowP_of, hXX]
  rw [hY]
  obtain ⟨NN, hNN⟩ : ∃ NN, L.length + 4 * s.length + 3 = NN := ⟨_, rfl⟩
  rw [hNN]
  have HNN := Lib.hid hNN
  have HYX := Lib.hid hYX
  have HXX := Lib.hid hXX
  have HIT := Lib.hid IH
  have HPA := Lib.hid hpart
  clear hY hYX hXX IH h hNN hpart
  go_enter Tryd.func29, Tryd.ntmps29
  go_upto_region 2 with fail
  go_loopg [3] s.length (fun gk v wr => ∃ (ks : List Nat) (o : Option (List Int)), wr.ownsRow w.heap.size 3 1 v ks.length (ks.map iCell) ∧ Mvd p w wr ∧ RoI X S p L deep most alt s XX gk ks v wr o)
  case atStart =>
    refine ⟨[], some s, World.ownsRow_nil _ _ _ _, Mvd.refl _ _, [], rfl, ?_, by simp, List.suffix_refl _, by simp [catN], ?_, Nat.le_refl _, by simp⟩
    · have e : max most (deep + deepF []) = most := by show max most (deep + 0) = most; omega
      rw [e]
      show RG _ S w p s (L ++ mv L.length []) deep most
      rw [show mv L.length [] = [] from rfl, List.append_nil]
      exact HASK.out.rg.sub fun k hk => hk.elim id (fun h => by cases h)
    · rw [HXX.out]
      cases XX with
      | none => rfl
      | some x => rfl
  case round =>
    obtain ⟨ks, o, hown, hmv, hI⟩ := hrel
    have HPK := Lib.hid (fun W hb => RoI.peek hS hI W hb)
    have HI := Lib.hid hI
    obtain ⟨va, vc, rfl⟩ := owns_slice hown
    have HOWN := Lib.hid hown
    have HMV := Lib.hid hmv
    clear hI hown hmv
    go_upto_region 2 with fail
    obtain ⟨B, hB⟩ : ∃ B, goesR o = B := ⟨_, rfl⟩
    have HB := Lib.hid hB
    clear hB
    have hh0 : ∀ c r, o = some (c :: r) → 0 ≤ c := fun c r e => by
      subst e
      obtain ⟨fs, -, -, -, hsf, -⟩ := HI.out
      exact ((HASK.out.scal.suf hsf).runes c (by simp)).1
    have HH0 := Lib.hid hh0
    clear hh0
    go_cut [16] from 4 to 16 (fun vv wx => vv = .bool B ∧ Below wr.heap.size wr wx)
    case first =>
      have PK0 := HPK.out wr (Below.refl _ _)
      rcases o with _ | (_ | ⟨c, r⟩)
      case none =>
        rw [show headO none = -1 from rfl] at PK0
        obtain rfl : false = B := HB.out
        go_wp2_with (go_at_call 34; refine PK0.mono ?_; rintro e w2 ⟨rfl, hb2⟩)
        go_meet
        exact ⟨rfl, hb2⟩
      case some.nil =>
        rw [show headO (some []) = -1 from rfl] at PK0
        obtain rfl : false = B := HB.out
        go_wp2_with (go_at_call 34; refine PK0.mono ?_; rintro e w2 ⟨rfl, hb2⟩)
        go_meet
        exact ⟨rfl, hb2⟩
      case some.cons =>
        have hc0 := HH0.out c r rfl
        rw [show headO (some (c :: r)) = c from rfl] at PK0 HPK
        have g1 : (c != -1) = true := by simp; omega
        by_cases h1 : c = 124
        · subst h1
          obtain rfl : false = B := HB.out
          clear g1 hc0
          go_wp2_with (first | (go_at_call 34; refine PK0.mono ?_; rintro e w2 ⟨rfl, hb2⟩; have PK2 := HPK.out w2 hb2; clear PK0) | (go_at_call 34; refine PK2.mono ?_; rintro e w3 ⟨rfl, hb3⟩))
          go_meet
          exact ⟨rfl, hb3⟩
        have g2 : (c != 124) = true := by simpa using h1
        by_cases h2 : c = 41
        · subst h2
          obtain rfl : false = B := HB.out
          clear g1 hc0 g2 h1
          go_wp2_with (first | (go_at_call 34; refine PK0.mono ?_; rintro e w2 ⟨rfl, hb2⟩; have PK2 := HPK.out w2 hb2; clear PK0) | (go_at_call 34; refine PK2.mono ?_; rintro e w3 ⟨rfl, hb3⟩; have PK3 := HPK.out w3 hb3; clear PK2) | (go_at_call 34; refine PK3.mono ?_; rintro e w4 ⟨rfl, hb4⟩))
          go_meet
          exact ⟨rfl, hb4⟩
        have g3 : (c != 41) = true := by simpa using h2
        have hBt : true = B := by
          rw [← HB.out]
          unfold goesR
          simp [h1, h2]
        subst hBt
        clear h1 h2 hc0
        go_wp2_with (first | (go_at_call 34; refine PK0.mono ?_; rintro e w2 ⟨rfl, hb2⟩; have PK2 := HPK.out w2 hb2; clear PK0) | (go_at_call 34; refine PK2.mono ?_; rintro e w3 ⟨rfl, hb3⟩; have PK3 := HPK.out w3 hb3; clear PK2) | (go_at_call 34; refine PK3.mono ?_; rintro e w4 ⟨rfl, hb4⟩))
        go_meet
        exact ⟨rfl, hb4⟩
    case rest =>
      obtain ⟨rfl, hbc⟩ := hcut
      have hpl : p < wr.heap.size := Nat.lt_of_lt_of_le hpw HMV.out.size
      have HI2 := Lib.hid (HI.out.keptB hbc)
      have HMV2 := Lib.hid (HMV.out.trans (Mvd.b hbc hpl))
      have HOWN2 := Lib.hid (owns_below HOWN.out hbc)
      clear HI HMV HOWN hbc HPK
      cases B with
      | false =>
        have hmn : ks ≠ [] → MN X S p w L deep most NN 3 ks (.slice va ks.length vc) wc Y := fun hks => by
          refine ⟨HOWN2.out, HMV2.out, ?_⟩
          cases o with
          | none =>
            obtain ⟨h1, h2, h3, h4⟩ := HI2.out
            refine .inr ⟨by rw [HYX.out, h1]; rfl, _, h3.sub (fun k hk => .inl hk), ?_, ?_⟩
            · have := HNN.out
              omega
            · have := HNN.out
              omega
          | some r =>
            obtain ⟨fs, h1, h2, h3, h4, h5, h6, h7, h8⟩ := HI2.out
            refine .inl ⟨fs, r, h1, h3, by omega, h2.sub (fun k hk => .inl hk), ?_⟩
            rw [HYX.out, ← h6, rowL_stop alt gk r HB.out]
            have hfs : fs ≠ [] := fun e => hks (by rw [h1, e]; rfl)
            show some (rowF (fs ++ []), r) = _
            rw [List.append_nil]
            cases fs with
            | nil => exact absurd rfl hfs
            | cons f fs => rfl
        have HMN := Lib.hid hmn
        clear hmn
        rcases ks with _ | ⟨q, ks⟩
        · have hem : ∃ r, o = some r ∧ Y = some (leaf 1 [], r) ∧ RG X S wc p r L deep most := by
            cases o with
            | none =>
              obtain ⟨_, h2, _⟩ := HI2.out
              exact absurd rfl h2
            | some r =>
              obtain ⟨fs, h1, h2, h3, h4, h5, h6, h7, h8⟩ := HI2.out
              have hfs : fs = [] := by
                cases fs with
                | nil => rfl
                | cons f fs => cases h1
              subst hfs
              refine ⟨r, rfl, ?_, ?_⟩
              · rw [HYX.out, ← h6, rowL_stop alt gk r HB.out]
                rfl
              · have e : max most (deep + deepF []) = most := by show max most (deep + 0) = most; omega
                rw [e, show mv L.length (catN []) = [] from rfl, List.append_nil] at h2
                exact h2.sub (fun k hk => .inl hk)
          obtain ⟨r, rfl, hYr, hg⟩ := hem
          have HYR := Lib.hid hYr
          have CN := rf_node (N := NN) 1 [] r hdm (by omega) hg HMV2.out (.slice none 0 0) (World.ownsRow_nil _ _ _ _) (fun k hk => by cases hk)
          clear hYr hg HMN
          go_wp2_with (go_at_call 30; refine CN.mono ?_; rintro e w2 h2; obtain ⟨k2, e2⟩ := h2.int; subst e2; have H2 := Lib.hid h2; clear h2)
          go_ret
          rw [HYR.out]
          exact H2.out
        · rcases ks with _ | ⟨q2, ks⟩
          · have hend := (HMN.out (by simp)).one
            obtain ⟨mg, mcc, hmsl, -, hmgl, -, -, -, hmcell⟩ := owns_some HOWN2.out (by simp)
            cases hmsl
            have q0 := hmcell 0 (by simp)
            simp only [List.map_cons, List.map_nil, List.getElem_cons_zero, iCell] at q0
            have HE := Lib.hid hend
            clear hmcell hend HMN
            go_wp2_with fail
            go_ret
            exact HE.out
          · have CN := (HMN.out (by simp)).node hpw HOLD.out (by simp)
            obtain ⟨m, hm⟩ : ∃ m, (q :: q2 :: ks).length = m := ⟨_, rfl⟩
            have hm2 : 2 ≤ m := by rw [← hm]; simp
            rw [hm] at CN ⊢
            have e0 : ((m : Int) == 0) = false := by simp; omega
            have e1 : ((m : Int) == 1) = false := by simp; omega
            clear HMN hm
            go_wp2_with (go_at_call 30; refine CN.mono ?_; rintro e w2 h2; obtain ⟨k2, e2⟩ := h2.int; subst e2; have H2 := Lib.hid h2; clear h2)
            go_ret
            exact H2.out
      | true =>
        obtain ⟨c, r, rfl⟩ : ∃ c r, o = some (c :: r) := by
          rcases o with _ | (_ | ⟨c, r⟩)
          · cases HB.out
          · cases HB.out
          · exact ⟨c, r, rfl⟩
        obtain ⟨fs, h1, h2, h3, h4, h5, h6, h7, h8⟩ := HI2.out
        obtain ⟨k, rfl⟩ : ∃ k, gk = k + 1 := ⟨gk - 1, by simp only [List.length_cons] at h7; omega⟩
        have hHL := h4.length_le
        have CI := HIT.out (fun j => X j ∨ (Value.slice va ks.length vc).ownBlock = some j) S p wc (c :: r) (L ++ mv L.length (catN fs)) deep (max most (deep + deepF fs)) (by omega)
          ⟨HASK.out.scal.suf h4, by omega, hS, fun j hj => hj.elim (fun hj => Nat.lt_of_lt_of_le (HOLD.out j hj) HMV2.out.size) (fun hj => (HOWN2.out.lt j hj).2), by omega, by omega, by rw [List.length_append, mv_length]; omega, h2⟩
        have HMS := Lib.hid (fun w2 (hm2 : Mvd p wc w2) => own_mvd HOWN2.out hm2 (by decide))
        have HMO := Lib.hid (fun q v9 w2 w9 he hown hgr hloc => RoI.more (X := X) (S := S) (p := p) (deep := deep) (most := most) (k := k) (v := .slice va ks.length vc) (v9 := v9) (q := q) (w2 := w2) (w9 := w9) HPA.out hpw h1 HMV2.out h3 h4 h5 h6 HB.out h7 h8 he hown hgr hloc)
        have hkl : ks.length ≤ 200 := by
          rw [h1, rootsN_len]
          simp only [List.length_cons] at h8
          omega
        obtain ⟨m, hm⟩ : ∃ m, ks.length = m := ⟨_, rfl⟩
        rw [hm] at HMS hkl ⊢
        have HM := Lib.hid hm
        obtain ⟨R, hR⟩ : ∃ R, RfEnd (fun j => X j ∨ (Value.slice va ks.length vc).ownBlock = some j) S p wc (L ++ mv L.length (catN fs)) deep (max most (deep + deepF fs)) ((L ++ mv L.length (catN fs)).length + 4 * (c :: r).length + 2) (itemP alt (c :: r)) = R := ⟨_, rfl⟩
        have hRi : ∀ e w', R e w' → (∃ q : Nat, e = .returned (.int .i64 (q : Int))) ∧ Mvd p wc w' := fun e w' he => by
          rw [← hR] at he
          exact ⟨he.int, he.mvd⟩
        rw [hR] at CI
        have HR := Lib.hid hR
        have HRI := Lib.hid hRi
        have hszc := HMV2.out.size
        clear h1 h2 h3 h4 h5 h6 h7 h8 hHL hm hR hRi HI2
        go_upto_region 3 with fail
        go_wp2_with (first | (go_at_call 35; refine CI.mono ?_; rintro e w2 he; obtain ⟨⟨q, rfl⟩, hm2⟩ := HRI.out _ _ he; have H2 := Lib.hid (And.intro he hm2); have hsz2 := hm2.size; clear he hm2) | (at_builtin; go_loud (refine wpList_append_src rfl _ _ _ _ rfl w.heap.size EIn _ m (ks.map iCell) rfl (owns_below (HMS.out w2 H2.out.2) (by (repeat (first | assumption | with_reducible exact Below.refl _ _ | (with_reducible refine belowA' ?_ (by first | omega | (simp; done) | (simp; omega))) | with_reducible refine Below.drew ?_ | with_reducible refine below_dN ?_ _)); done)) _ 1 [.int .i64 (q : Int)] rfl (by exact src_last (cs := #[.int .i64 (q : Int)]) Tryd.underlying30 1 1 1 (by simp) rfl (by simp [Value.oneCell'])) (by unfold maxLen; omega) (by omega) (by first | omega | (simp; omega)) ?_); intro v9 w9 hown9 hgr9 _ hloc9; have H9 := Lib.hid (And.intro hown9 (And.intro hgr9 hloc9)); clear hown9 hgr9 hloc9))
        go_roundg k
        case measure => omega
        case rel =>
          obtain ⟨hown9, hgr9, hloc9⟩ := H9.out
          have he := H2.out.1
          rw [← HR.out] at he
          have hbA := belowA' (o := .cells #[.int .i64 (q : Int)] 3) (Below.refl w2.heap.size w2) (Nat.le_refl _)
          have hown2 := owns_below (HMS.out w2 H2.out.2) hbA
          rw [← HM.out] at hown2 hgr9 hloc9 hown9
          obtain ⟨g1, o9, g2⟩ := HMO.out q _ w2 _ he hown2 hgr9 hloc9
          exact ⟨ks ++ [q], o9, by rw [List.length_append, List.map_append]; exact hown9, g1, g2⟩
end Go.Proofs.YthmhmckkkceclaaDoor
/-
  The document's parser: alt; all of it, whatever the depth.
-/
namespace Go.Proofs.YthmhmckkkceclaaDoor
open Go.RowKit
/-- Alternatives, some of them read, or no pattern. -/
def AlI (X : Nat → Prop) (S : List Int) (p : Nat) (L : List Nd) (deep most : Nat) (alt : List Int → Res Frag) (s : List Int) (XX : Res (List Frag)) (g : Nat) (ks : List Nat) (v : Value) (wr : World) : Bool → Prop
  | true => ∃ gk fs r, g = gk + 1 ∧ ks = rootsN L.length fs ∧ RG (fun k => X k ∨ v.ownBlock = some k) S wr p r (L ++ mv L.length (catN fs)) deep (max most (deep + deepF fs)) ∧ (∀ f ∈ fs, f.nodes ≠ []) ∧ r <:+ s ∧ (catN fs).length + 4 * r.length ≤ 4 * s.length ∧ rowRest fs (altL alt gk r) = XX ∧ r.length ≤ gk ∧ fs.length + r.length ≤ s.length
  | false => ks ≠ [] ∧ ks.length ≤ s.length + 1 ∧ ((∃ fs r, ks = rootsN L.length fs ∧ RG (fun k => X k ∨ v.ownBlock = some k) S wr p r (L ++ mv L.length (catN fs)) deep (max most (deep + deepF fs)) ∧ (∀ f ∈ fs, f.nodes ≠ []) ∧ (catN fs).length ≤ 4 * s.length + 1 ∧ XX = some (fs, r)) ∨
      (XX = none ∧ RB (fun k => X k ∨ v.ownBlock = some k) S wr p (L.length + 4 * s.length + 3) deep))
/-- One alternative more. -/
theorem AlI.more {X : Nat → Prop} {S : List Int} (hS : S.length ≤ 1000) {p : Nat} {L : List Nd} {deep most : Nat} {alt : List Int → Res Frag} (hpart : ∀ s f r, alt s = some (f, r) → Part 1 s f r) {s : List Int} {XX : Res (List Frag)} {gk : Nat} {ks : List Nat} {v v9 : Value} {w wc w2 w9 : World} {r : List Int} {fs : List Frag} {q : Nat}
    (hpw : p < w.heap.size) (hks : ks = rootsN L.length fs) (hmv : Mvd p w wc) (hne : ∀ f ∈ fs, f.nodes ≠ []) (hsf : r <:+ s) (hfew : (catN fs).length + 4 * r.length ≤ 4 * s.length) (hrest : rowRest fs (altL alt gk r) = XX) (hgk : r.length ≤ gk) (hfl : fs.length + r.length ≤ s.length)
    (he : RfEnd (fun j => X j ∨ v.ownBlock = some j) S p wc (L ++ mv L.length (catN fs)) deep (max most (deep + deepF fs)) ((L ++ mv L.length (catN fs)).length + 4 * r.length + 3) (rowP alt r) (.returned (.int .i64 (q : Int))) w2)
    (hown : (w2.alloc (.cells #[.int .i64 (q : Int)] 3)).ownsRow w.heap.size 3 1 v ks.length (ks.map iCell)) (hgr : (w2.alloc (.cells #[.int .i64 (q : Int)] 3)).grownBy w9 v.ownBlock) (hloc : v9.ownBlock = v.ownBlock ∨ v9.ownBlock = some (w2.alloc (.cells #[.int .i64 (q : Int)] 3)).heap.size) :
    ∃ y, Calls Tryd.prog 28 #[.pointer (some ⟨p, 0, none⟩), .int .i32 124] w9 fun e w' => e = .returned (.bool y) ∧ Mvd p w w9 ∧ Mvd p w9 w' ∧ AlI X S p L deep most alt s XX gk (ks ++ [q]) v9 w' y := by
  have hbA := belowA' (o := .cells #[.int .i64 (q : Int)] 3) (Below.refl w2.heap.size w2) (Nat.le_refl _)
  have hsub : ∀ j, X j ∨ v9.ownBlock = some j → (X j ∨ v.ownBlock = some j) ∨ w2.heap.size ≤ j := by
    rintro j (hj | hj)
    · exact .inl (.inl hj)
    · rcases hloc with h | h
      · exact .inl (.inr (h.symm.trans hj))
      · rw [h] at hj
        cases hj
        exact .inr (by simp)
  have hm2 := hmv.trans he.mvd
  rw [altL_at] at hrest
  have hkl : (ks ++ [q]).length ≤ s.length + 1 := by
    rw [List.length_append, hks, rootsN_len]
    simp
    omega
  cases hi : rowP alt r with
  | none =>
    rw [hi] at he hrest
    obtain ⟨_, _, hb, _⟩ := he
    have hpl := hb.lt
    obtain ⟨g1, g2⟩ := (hb.fresh.keptB hbA).beside (hm2.trans (Mvd.b hbA hpl)) hpw hgr hown (fun j hj => .inl (.inr hj))
    have g3 : RB (fun k => X k ∨ v9.ownBlock = some k) S w9 p (L.length + 4 * s.length + 3) deep := (g1.sub hsub).up (by rw [List.length_append, mv_length]; omega)
    refine ⟨false, (rb_is p w9 _ _ 124 (by decide) g3).mono ?_⟩
    rintro e w' ⟨h1, h2, h3⟩
    exact ⟨h1, g2, h3, by simp, hkl, .inr ⟨hrest.symm, h2⟩⟩
  | some x =>
    obtain ⟨f, r1⟩ := x
    have hpt := row_part hpart hi
    have hff := hpt.few
    have hle := hpt.le
    rw [hi] at he hrest
    simp only at hrest
    rw [altAt_more] at hrest
    obtain ⟨hq, hg, _⟩ := he
    have hpl := hg.lt
    obtain ⟨g1, g2⟩ := (hg.fresh.keptB hbA).beside (hm2.trans (Mvd.b hbA hpl)) hpw hgr hown (fun j hj => .inl (.inr hj))
    have hq' : q = (L ++ mv L.length (catN fs)).length + f.nodes.length - 1 := by
      have h1 := Ending.returned.inj hq
      have h2 := (Value.int.inj h1).2
      omega
    rw [List.length_append, mv_length] at hq'
    have g3 := g1.sub hsub
    rw [parts_more] at g3
    rw [show max (max most (deep + deepF fs)) (deep + f.deep) = max most (deep + deepF (fs ++ [f])) by rw [deepF_snoc]; omega] at g3
    have hks2 : ks ++ [q] = rootsN L.length (fs ++ [f]) := by rw [rootsN_snoc, hks, hq']
    have hne2 : ∀ g ∈ fs ++ [f], g.nodes ≠ [] := by
      intro g hg
      rcases List.mem_append.1 hg with hg | hg
      · exact hne g hg
      · rw [List.mem_singleton.1 hg]
        exact hpt.some
    have hcat : (catN (fs ++ [f])).length = (catN fs).length + f.nodes.length := by rw [catN_snoc, List.length_append, mv_length]
    have hfl2 : (fs ++ [f]).length = fs.length + 1 := by simp
    unfold altAt at hrest
    cases hnx : nextP 124 r1 with
    | none =>
      rw [hnx] at hrest
      refine ⟨false, (rg_is_no hS p w9 _ _ _ _ 124 (by decide) hnx g3).mono ?_⟩
      rintro e w' ⟨h1, h2, h3⟩
      exact ⟨h1, g2, h3, by simp, hkl, .inl ⟨_, r1, hks2, h2, hne2, by omega, hrest.symm⟩⟩
    | some r2 =>
      obtain rfl := next_ends hnx
      rw [hnx] at hrest
      simp only [List.length_cons] at hff hle
      obtain ⟨k, rfl⟩ : ∃ k, gk = k + 1 := ⟨gk - 1, by omega⟩
      refine ⟨true, (rg_is_yes hS p w9 124 r2 _ _ _ g3).mono ?_⟩
      rintro e w' ⟨h1, h2, h3⟩
      exact ⟨h1, g2, h3, k, _, r2, rfl, hks2, h2, hne2, (List.suffix_cons 124 r2).trans (hpt.suf.trans hsf), by omega, hrest, by omega, by omega⟩
set_option maxRecDepth 100000 in
set_option maxHeartbeats 20000000 in
theorem ref_alt (n : Nat) (alt : List Int → Res Frag) (hpart : ∀ s f r, alt s = some (f, r) → Part 1 s f r) (IH : DoesR 29 n 3 (rowP alt)) : DoesR 21 n 4 (altB alt) := by
  intro X S p w s L deep most hn h
  have HOLD := Lib.hid h.old
  have HASK := Lib.hid h
  have hS := h.slen
  have hdm := h.dm
  have hds := h.ds
  have hls := h.ls
  have hlen := h.len
  have hpw := h.rg.lt
  obtain ⟨XX, hXX⟩ : ∃ XX, altL alt s.length s = XX := ⟨_, rfl⟩
  obtain ⟨Y, hY⟩ : ∃ Y, altB alt s = Y := ⟨_, rfl⟩
  have hYX : Y = altOf XX := by rw [← hY, altB_of, hXX]
  rw [hY]
  obtain ⟨NN, hNN⟩ : ∃ NN, L.length + 4 * s.length + 4 = NN := ⟨_, rfl⟩
  rw [hNN]
  have HNN := Lib.hid hNN
  have HYX := Lib.hid hYX
  have HXX := Lib.hid hXX
  have HIT := Lib.hid IH
  have HPA := Lib.hid hpart
  clear hY hYX hXX IH h hNN hpart
  go_enter Tryd.func21, Tryd.ntmps21
  go_upto_region 3 with fail
  go_loopg [3, 4] (s.length + 1) (fun gk v mv wr => ∃ (ks : List Nat) (mb : Bool), mv = .bool mb ∧ wr.ownsRow w.heap.size 3 1 v ks.length (ks.map iCell) ∧ Mvd p w wr ∧ AlI X S p L deep most alt s XX gk ks v wr mb)
  case atStart =>
    refine ⟨[], true, rfl, World.ownsRow_nil _ _ _ _, Mvd.refl _ _, s.length, [], s, rfl, rfl, ?_, by simp, List.suffix_refl _, by simp [catN], ?_, Nat.le_refl _, by simp⟩
    · have e : max most (deep + deepF []) = most := by show max most (deep + 0) = most; omega
      rw [e]
      show RG _ S w p s (L ++ mv L.length []) deep most
      rw [show mv L.length [] = [] from rfl, List.append_nil]
      exact HASK.out.rg.sub fun k hk => hk.elim id (fun h => by cases h)
    · rw [HXX.out]
      cases XX with
      | none => rfl
      | some x => rfl
  case round =>
    obtain ⟨ks, mb, rfl, hown, hmv, hI⟩ := hrel
    have HI := Lib.hid hI
    obtain ⟨va, vc, rfl⟩ := owns_slice hown
    have HOWN := Lib.hid hown
    have HMV := Lib.hid hmv
    clear hI hown hmv
    cases mb with
    | false =>
      have hmn : MN X S p w L deep most NN 4 ks (.slice va ks.length vc) wr Y := by
        obtain ⟨h1, h2, h3⟩ := HI.out
        refine ⟨HOWN.out, HMV.out, ?_⟩
        rcases h3 with ⟨fs, r, h4, h5, h6, h7, h8⟩ | ⟨h4, h5⟩
        · exact .inl ⟨fs, r, h4, h6, by omega, h5.sub (fun k hk => .inl hk), by rw [HYX.out, h8]; rfl⟩
        · refine .inr ⟨by rw [HYX.out, h4]; rfl, _, h5.sub (fun k hk => .inl hk), ?_, ?_⟩
          · have := HNN.out
            omega
          · have := HNN.out
            omega
      have HMN := Lib.hid hmn
      clear hmn
      rcases ks with _ | ⟨q, ks⟩
      · obtain ⟨h1, _⟩ := HI.out
        exact absurd rfl h1
      rcases ks with _ | ⟨q2, ks⟩
      · have hend := HMN.out.one
        obtain ⟨mg, mcc, hmsl, -, hmgl, -, -, -, hmcell⟩ := owns_some HOWN.out (by simp)
        cases hmsl
        have q0 := hmcell 0 (by simp)
        simp only [List.map_cons, List.map_nil, List.getElem_cons_zero, iCell] at q0
        have HE := Lib.hid hend
        clear hmcell hend HMN
        go_wp2_with fail
        go_ret
        exact HE.out
      · have CN := HMN.out.node hpw HOLD.out (by simp)
        obtain ⟨m, hm⟩ : ∃ m, (q :: q2 :: ks).length = m := ⟨_, rfl⟩
        have hm2 : 2 ≤ m := by rw [← hm]; simp
        rw [hm] at CN ⊢
        have e1 : ((m : Int) == 1) = false := by simp; omega
        clear HMN hm
        go_wp2_with (go_at_call 30; refine CN.mono ?_; rintro e w2 h2; obtain ⟨k2, e2⟩ := h2.int; subst e2; have H2 := Lib.hid h2; clear h2)
        go_ret
        exact H2.out
    | true =>
      obtain ⟨k, fs, r, rfl, h1, h2, h3, h4, h5, h6, h7, h8⟩ := HI.out
      have hHL := h4.length_le
      obtain ⟨b1, b2, -, -⟩ := h2.spoil
      have CI := HIT.out (fun j => X j ∨ (Value.slice va ks.length vc).ownBlock = some j) S p wr r (L ++ mv L.length (catN fs)) deep (max most (deep + deepF fs)) (by omega)
        ⟨HASK.out.scal.suf h4, by omega, hS, fun j hj => hj.elim (fun hj => Nat.lt_of_lt_of_le (HOLD.out j hj) HMV.out.size) (fun hj => (HOWN.out.lt j hj).2), by omega, by omega, by rw [List.length_append, mv_length]; omega, h2⟩
      have HMS := Lib.hid (fun w2 (hm2 : Mvd p wr w2) => own_mvd HOWN.out hm2 (by decide))
      have HMO := Lib.hid (fun q v9 w2 w9 he hown hgr hloc => AlI.more (X := X) (S := S) hS (p := p) (deep := deep) (most := most) (gk := k) (v := .slice va ks.length vc) (v9 := v9) (q := q) (w2 := w2) (w9 := w9) HPA.out hpw h1 HMV.out h3 h4 h5 h6 h7 h8 he hown hgr hloc)
      have hkl : ks.length ≤ 200 := by
        rw [h1, rootsN_len]
        omega
      obtain ⟨m, hm⟩ : ∃ m, ks.length = m := ⟨_, rfl⟩
      rw [hm] at HMS hkl ⊢
      have HM := Lib.hid hm
      obtain ⟨R, hR⟩ : ∃ R, RfEnd (fun j => X j ∨ (Value.slice va ks.length vc).ownBlock = some j) S p wr (L ++ mv L.length (catN fs)) deep (max most (deep + deepF fs)) ((L ++ mv L.length (catN fs)).length + 4 * r.length + 3) (rowP alt r) = R := ⟨_, rfl⟩
      have hRi : ∀ e w', R e w' → (∃ q : Nat, e = .returned (.int .i64 (q : Int))) ∧ Mvd p wr w' := fun e w' he => by
        rw [← hR] at he
        exact ⟨he.int, he.mvd⟩
      rw [hR] at CI
      have HR := Lib.hid hR
      have HRI := Lib.hid hRi
      have hszc := HMV.out.size
      clear h1 h2 h3 h4 h5 h6 h7 h8 hHL hm hR hRi HI
      go_upto_region 5 with fail
      clear b1 b2
      go_upto_region 4 with (first | (go_at_call 29; refine CI.mono ?_; rintro e w2 he; obtain ⟨⟨q, rfl⟩, hm2⟩ := HRI.out _ _ he; have H2 := Lib.hid (And.intro he hm2); have hsz2 := hm2.size; clear he hm2) | (at_builtin; go_loud (refine wpList_append_src rfl _ _ _ _ rfl w.heap.size EIn _ m (ks.map iCell) rfl (owns_below (HMS.out w2 H2.out.2) (by (repeat (first | assumption | with_reducible exact Below.refl _ _ | (with_reducible refine belowA' ?_ (by first | omega | (simp; done) | (simp; omega))) | with_reducible refine Below.drew ?_ | with_reducible refine below_dN ?_ _)); done)) _ 1 [.int .i64 (q : Int)] rfl (by exact src_last (cs := #[.int .i64 (q : Int)]) Tryd.underlying30 1 1 1 (by simp) rfl (by simp [Value.oneCell'])) (by unfold maxLen; omega) (by omega) (by first | omega | (simp; omega)) ?_); intro v9 w9 hown9 hgr9 _ hloc9; have H9 := Lib.hid (And.intro hown9 (And.intro hgr9 hloc9)); clear hown9 hgr9 hloc9))
      have hCL : ∃ y, Calls Tryd.prog 28 #[.pointer (some ⟨p, 0, none⟩), .int .i32 124] w9 fun e w' => e = .returned (.bool y) ∧ Mvd p w w9 ∧ Mvd p w9 w' ∧ AlI X S p L deep most alt s XX k (ks ++ [q]) v9 w' y := by
        obtain ⟨hown9, hgr9, hloc9⟩ := H9.out
        have he := H2.out.1
        rw [← HR.out] at he
        have hbA := belowA' (o := .cells #[.int .i64 (q : Int)] 3) (Below.refl w2.heap.size w2) (Nat.le_refl _)
        have hown2 := owns_below (HMS.out w2 H2.out.2) hbA
        rw [← HM.out] at hown2 hgr9 hloc9 hown9
        exact HMO.out q _ w2 _ he hown2 hgr9 hloc9
      obtain ⟨y, CL⟩ := hCL
      go_wp2_with (go_at_call 28; refine CL.mono ?_; rintro e w10 ⟨rfl, hm9, hm10, hal⟩; have H10 := Lib.hid (And.intro hm9 (And.intro hm10 hal)); clear hm9 hm10 hal)
      go_roundg k
      case measure => omega
      case rel =>
        obtain ⟨hm9, hm10, hal⟩ := H10.out
        refine ⟨ks ++ [q], y, rfl, ?_, hm9.trans hm10, hal⟩
        rw [List.length_append, List.map_append, HM.out]
        exact own_mvd H9.out.1 hm10 (by decide)
/-- All patterns, whatever their depth, as the document reads them. -/
theorem ref_all (n : Nat) : DoesR 21 n 4 (altN (n + 1)) := by
  induction n with
  | zero =>
    refine ref_alt 0 (altN 0) (fun s f r h => altN_part 0 s f r h) (ref_row 0 _ (fun s f r h => altN_part 0 s f r h) (ref_item 0 _ (fun s f r h => altN_part 0 s f r h) ?_))
    intro X S p w s L deep most hn h
    have hs : s = [] := List.eq_nil_of_length_eq_zero (by omega)
    subst hs
    exact ref_atom_nil X S p w L deep most h
  | succ n ih =>
    have hp := fun s f r h => altN_part (n + 1) s f r h
    exact ref_alt (n + 1) (altN (n + 1)) hp (ref_row (n + 1) _ hp (ref_item (n + 1) _ hp (ref_atom n _ hp ih)))
end Go.Proofs.YthmhmckkkceclaaDoor
/-
  garnerref18.Parse: its answer is the plain one.
-/
namespace Go.Proofs.YthmhmckkkceclaaDoor
open Go.RowKit
theorem sizes_root (l : List Nd) (h : l ≠ []) : (sizesL [] l).getD (l.length - 1) 0 = sizeP l := by
  have hl := sizesL_len l []
  rw [List.length_nil, Nat.zero_add] at hl
  have hp := List.length_pos_iff.2 h
  unfold sizeP
  rw [List.getLastD_eq_getLast?, List.getLast?_eq_getElem?, hl, List.getD_eq_getElem?_getD]
set_option maxRecDepth 100000 in
set_option maxHeartbeats 10000000 in
theorem ref_Parse_long (s : ByteArray) (w : World) (h : 128 < s.size) (_hs : s.size ≤ maxLen) : Calls Tryd.prog 10 #[.string s] w (Parsed w s) := by
  have hd : decide ((128 : Int) < (s.size : Int)) = true := decide_eq_true (by omega)
  have hE : parseE s = 4 := by unfold parseE; rw [if_pos h]
  have HE := Lib.hid hE
  clear hE h
  go_enter Tryd.func10, Tryd.ntmps10
  go_wp2
  go_ret2
  exact Parsed.bad 4 HE.out (by decide) (Below.refl _ _)
set_option maxRecDepth 100000 in
set_option maxHeartbeats 10000000 in
theorem ref_Parse_bad (s : ByteArray) (w : World) (h : s.size ≤ 128) (hv : Lib.validD s.data.toList = false) : Calls Tryd.prog 10 #[.string s] w (Parsed w s) := by
  have hd : decide ((128 : Int) < (s.size : Int)) = false := decide_eq_false (by omega)
  have hE : parseE s = 8 := by unfold parseE; rw [if_neg (by omega), if_pos hv]
  have HE := Lib.hid hE
  have CV := ref_Runes s w (by omega)
  rw [hv] at CV
  clear hE hv h
  go_enter Tryd.func10, Tryd.ntmps10
  go_wp2_with (go_at_call 20; refine CV.mono ?_; rintro e w1 ⟨v, rfl, ho, hb⟩; obtain ⟨va, vc, rfl⟩ := owns_slice ho; clear ho)
  go_ret2
  exact Parsed.bad 8 HE.out (by decide) hb
set_option maxRecDepth 100000 in
set_option maxHeartbeats 20000000 in
theorem ref_Parse_go (s : ByteArray) (w : World) (h : s.size ≤ 128) (hv : Lib.validD s.data.toList = true) : Calls Tryd.prog 10 #[.string s] w (Parsed w s) := by
  have hd : decide ((128 : Int) < (s.size : Int)) = false := decide_eq_false (by omega)
  have hE : parseE s = treeE (runesZ s) := by unfold parseE; rw [if_neg (by omega), if_neg (by rw [hv]; decide)]
  have HE := Lib.hid hE
  have hrl := runesZ_len s
  have CV := ref_Runes s w (by omega)
  rw [hv] at CV
  rw [show (runes s.data.toList).map runeCell = (runesZ s).map rCell by unfold runesZ; rw [List.map_map]; rfl, show (runes s.data.toList).length = (runesZ s).length by unfold runesZ; rw [List.length_map]] at CV
  have HSC := Lib.hid (runesZ_scal s)
  have hPL : parseE s = 0 → parseL s = treeL (runesZ s) := fun e => by unfold parseL; rw [if_pos e]
  obtain ⟨S, hS⟩ : ∃ S, runesZ s = S := ⟨_, rfl⟩
  rw [hS] at hrl CV HSC HE hPL
  have HPL := Lib.hid hPL
  obtain ⟨n, hn⟩ : ∃ n, S.length = n := ⟨_, rfl⟩
  rw [hn] at hrl CV
  have HN := Lib.hid hn
  clear hE hv hS hn hPL
  go_enter Tryd.func10, Tryd.ntmps10
  go_upto_region 7 with (go_at_call 20; refine CV.mono ?_; rintro e w1 ⟨v, rfl, ho, hb⟩; obtain ⟨va, vc, rfl⟩ := owns_slice ho; have HO := Lib.hid (And.intro ho hb); clear ho hb)
  clear CV hd
  have hx := heap_alloc_new w1 (.cells #[.slice va n vc, .int .i64 0, .slice none 0 0, .int .i64 0, .int .i64 0, .bool false] 54)
  have hb2 := belowA' (o := .cells #[.slice va n vc, .int .i64 0, .slice none 0 0, .int .i64 0, .int .i64 0, .bool false] 54) (Below.refl w1.heap.size w1) (Nat.le_refl _)
  obtain ⟨w2, hw2⟩ : ∃ w2, w1.alloc (.cells #[.slice va n vc, .int .i64 0, .slice none 0 0, .int .i64 0, .int .i64 0, .bool false] 54) = w2 := ⟨_, rfl⟩
  obtain ⟨p, hp⟩ : ∃ p, w1.heap.size = p := ⟨_, rfl⟩
  rw [hw2] at hx hb2 ⊢
  rw [hp] at hx ⊢
  have hst : RG (fun _ => False) S w2 p S [] 0 0 := by
    refine ⟨.slice va n vc, .slice none 0 0, [], ⟨0, by simp, rfl, hx, fun W hW => ?_, NOwn.nil _ _⟩, rfl, fun z hz => by simp at hz⟩
    have ho := argRow_owns (owns_below HO.out.1 (hb2.trans (hW.mono (by omega))))
    rw [HN.out]
    exact ho
  have hask : AskR (fun _ => False) S p w2 S [] 0 0 := ⟨HSC.out, by rw [HN.out]; omega, by rw [HN.out]; omega, fun k hk => hk.elim, Nat.le_refl _, by rw [HN.out]; omega, by rw [HN.out]; simp; omega, hst⟩
  have CA := ref_all n (fun _ => False) S p w2 S [] 0 0 (by rw [HN.out]; exact Nat.le_refl _) hask
  have hlow : ∀ W, Mvd p w2 W → Below w.heap.size w W := fun W hW => by
    have h1 := HO.out.2
    exact h1.trans ((hb2.mono h1.size).trans (hW.low.mono (by rw [← hp]; exact h1.size)))
  have hwp : w.heap.size ≤ p := by rw [← hp]; exact HO.out.2.size
  have HLOW := Lib.hid hlow
  clear hst hask hlow hx hb2 hw2 hp
  have hpat : patP S = match altN (n + 1) S with
      | none => none
      | some (f, r) => if r = [] then some f else none := by
    unfold patP
    rw [HN.out]
    cases altN (n + 1) S <;> rfl
  have HPAT := Lib.hid hpat
  clear hpat
  cases halt : altN (n + 1) S with
  | none =>
    have hEE : parseE s = 40 := by
      rw [HE.out]
      refine treeE_none ?_
      rw [HPAT.out, halt]
    have HEE := Lib.hid hEE
    rw [halt] at CA
    clear hEE halt
    go_upto_region 8 with (go_at_call 21; refine CA.mono ?_; rintro e w3 ⟨k, rfl, hb3, hm3⟩; have H3 := Lib.hid (And.intro hb3 hm3); clear hb3 hm3)
    obtain ⟨y1, y2, -⟩ := H3.out.1.spoil
    clear CA
    go_wp2_with fail
    go_ret2
    exact Parsed.bad 40 HEE.out (by decide) (HLOW.out _ H3.out.2)
  | some x =>
    obtain ⟨f, r⟩ := x
    have hpt := altN_part (n + 1) S f r halt
    have hlm := lim_altN (n + 1) S f r halt
    rw [halt] at CA
    obtain ⟨q, hq⟩ : ∃ q, ([] : List Nd).length + f.nodes.length - 1 = q := ⟨_, rfl⟩
    have CA2 : Calls Tryd.prog 21 #[.pointer (some ⟨p, 0, none⟩)] w2 fun e w' => e = .returned (.int .i64 (q : Int)) ∧ RG (fun _ => False) S w' p r f.nodes 0 f.deep ∧ Mvd p w2 w' := by
      refine CA.mono ?_
      rintro e w5 ⟨g1, g2, g3⟩
      refine ⟨by rw [g1, hq], ?_, g3⟩
      rw [List.nil_append, show ([] : List Nd).length = 0 from rfl, mv_zero, show max 0 (0 + f.deep) = f.deep by omega] at g2
      exact g2
    have HPT := Lib.hid hpt
    have HLM := Lib.hid hlm
    have HAL := Lib.hid halt
    have HQ := Lib.hid hq
    clear CA hq hpt hlm halt
    go_upto_region 8 with (go_at_call 21; refine CA2.mono ?_; rintro e w3 ⟨rfl, hp5, hm5⟩; have H5 := Lib.hid (And.intro hp5 hm5); clear hp5 hm5)
    clear CA2
    obtain ⟨sv, ov, Z, ⟨a, ha, -, hst⟩, hz, -⟩ := H5.out.1
    obtain ⟨⟨-, c1, c2, -, c4, c5⟩, -⟩ := hst.cells
    rw [HN.out] at ha
    have HST := Lib.hid hst
    have HZ := Lib.hid hz
    have HB := Lib.hid (HLOW.out _ H5.out.2)
    have hplt := hst.lt
    clear hst hz
    cases r with
    | cons c rest =>
      have hEE : parseE s = 40 := by
        rw [HE.out]
        refine treeE_none ?_
        rw [HPAT.out, HAL.out]
        exact if_neg (by simp)
      have HEE := Lib.hid hEE
      simp only [List.length_cons] at ha
      have hd0 : ((a : Int) != (n : Int)) = true := by simp; omega
      clear hEE ha c2 c4
      go_wp2_with fail
      go_ret2
      exact Parsed.bad 40 HEE.out (by decide) HB.out
    | nil =>
      obtain rfl : a = n := ha
      have hd0 : ((a : Int) != (a : Int)) = false := by simp
      have hP : patP S = some f := by
        rw [HPAT.out, HAL.out]
        exact if_pos rfl
      have HP2 := Lib.hid hP
      clear hP
      by_cases hdp : 16 < f.deep
      · have hd1 : decide ((16 : Int) < (f.deep : Int)) = true := decide_eq_true (by omega)
        have hEE : parseE s = 9 := by rw [HE.out, treeE_some HP2.out, if_pos hdp]
        have HEE := Lib.hid hEE
        clear hEE c2 hdp
        go_wp2_with fail
        go_ret2
        exact Parsed.bad 9 HEE.out (by decide) HB.out
      · have hd1 : decide ((16 : Int) < (f.deep : Int)) = false := decide_eq_false (by omega)
        have hlen : Z.length = f.nodes.length := by rw [← HZ.out, List.length_map]
        have hpos := List.length_pos_iff.2 HPT.out.some
        have hqe : q = f.nodes.length - 1 := by rw [← HQ.out]; simp
        have CS := ref_Size (p + 1) ov Z w3 HST.out.out (by rw [HZ.out]; exact HPT.out.wf) (by rw [HZ.out]; exact HLM.out) (by
          have := HPT.out.few
          rw [HN.out] at this
          rw [hlen]
          omega) q (by rw [hlen]; omega)
        rw [HZ.out, hqe, sizes_root _ HPT.out.some, ← hqe] at CS
        obtain ⟨oa, oc, rfl⟩ := owns_slice HST.out.out.own
        have hT0 := treeE_some HP2.out
        rw [if_neg hdp, ← HE.out] at hT0
        obtain ⟨z, hzz⟩ : ∃ z, sizeP f.nodes = z := ⟨_, rfl⟩
        rw [hzz] at CS hT0
        clear hzz hlen hpos hqe
        obtain ⟨m, hm⟩ : ∃ m, Z.length = m := ⟨_, rfl⟩
        rw [hm] at c2 CS
        have HM := Lib.hid hm
        clear hm
        by_cases hsz : 1000 < z
        · have hd2 : decide ((1000 : Int) < z) = true := decide_eq_true hsz
          rw [if_pos hsz] at hT0
          have HEE := Lib.hid hT0
          clear hT0
          go_wp2_with (go_at_call 22; refine CS.mono ?_; rintro e w6 ⟨rfl, rfl⟩)
          go_ret2
          exact Parsed.bad 3 HEE.out (by decide) HB.out
        · have hd2 : decide ((1000 : Int) < z) = false := decide_eq_false hsz
          rw [if_neg hsz] at hT0
          have HEE := Lib.hid hT0
          clear hT0
          go_wp2_with (go_at_call 22; refine CS.mono ?_; rintro e w6 ⟨rfl, rfl⟩)
          go_ret2
          have hown := HST.out.out.base (A := w.heap.size) (by omega)
          rw [HM.out] at hown
          refine ⟨.slice oa m oc, Z, by rw [HEE.out]; rfl, hown, ?_, HB.out⟩
          rw [HPL.out HEE.out, HZ.out]
          refine (treeL_some HP2.out ?_).symm
          rw [← HE.out]
          exact HEE.out
/-- The document's Parse, whole: its answer is the plain one. -/
theorem ref_Parse (s : ByteArray) (w : World) (h : s.size ≤ maxLen) : Calls Tryd.prog 10 #[.string s] w (Parsed w s) := by
  by_cases h1 : 128 < s.size
  · exact ref_Parse_long s w h1 h
  · cases hv : Lib.validD s.data.toList with
    | false => exact ref_Parse_bad s w (by omega) hv
    | true => exact ref_Parse_go s w (by omega) hv
end Go.Proofs.YthmhmckkkceclaaDoor
