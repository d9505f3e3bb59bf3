/-
  The document's JSON reader, plainly: what it leaves of a number and of four digits, good or bad.
-/
import Derived.Test.YtljnbbdhmlfhjaaGreatDoorJsnAll
import Derived.Test.YtljnbbdhmlfhjaaGreatDoorJsOne
import Derived.Laws.DeepStrings4
namespace Go.Proofs.YtljnbbdhmlfhjaaGreatDoor
open Go.RowKit
/-- What is left is an end of what was. -/
def Tl (s r : Bs) : Prop := ∃ x, s = x ++ r
theorem Tl.refl (s : Bs) : Tl s s := ⟨[], rfl⟩
theorem Tl.trans {s r t : Bs} (h : Tl s r) (k : Tl r t) : Tl s t := by
  obtain ⟨x, rfl⟩ := h
  obtain ⟨y, rfl⟩ := k
  exact ⟨x ++ y, by rw [List.append_assoc]⟩
theorem Tl.len {s r : Bs} (h : Tl s r) : r.length ≤ s.length := by
  obtain ⟨x, rfl⟩ := h
  simp
end Go.Proofs.YtljnbbdhmlfhjaaGreatDoor
/-
  The document's JSON reader in memory: peek, is, space.
-/
namespace Go.Proofs.YtljnbbdhmlfhjaaGreatDoor
open Go.RowKit
def rdObj (sv : Value) (a deep most : Nat) (bad : Bool) : Obj := .cells #[sv, .int .i64 (a : Int), .int .i64 (deep : Int), .int .i64 (most : Int), .bool bad] 129 (0, 0)
/-- The reader: all its bytes, the place, how deep it is and was. -/
structure ZSt (w : World) (p : Nat) (sv : Value) (S : Bs) (a deep most : Nat) (bad : Bool) : Prop where
  own : w.heap[p]? = some (rdObj sv a deep most bad)
  row : ∀ W, Below p w W → argRow W sv S.length 1 (S.map bCell)
/-- .. ahead of the bytes s. -/
def ZS (S : Bs) (w : World) (p : Nat) (s : Bs) (deep most : Nat) (bad : Bool) : Prop := ∃ sv a, a + s.length = S.length ∧ S.drop a = s ∧ ZSt w p sv S a deep most bad
theorem ZSt.lt {w : World} {p : Nat} {sv : Value} {S : Bs} {a deep most : Nat} {bad : Bool} (h : ZSt w p sv S a deep most bad) : p < w.heap.size := (Array.getElem?_eq_some_iff.1 h.own).1
theorem ZS.lt {S : Bs} {w : World} {p : Nat} {s : Bs} {deep most : Nat} {bad : Bool} (h : ZS S w p s deep most bad) : p < w.heap.size := by
  obtain ⟨_, _, _, _, h⟩ := h
  exact h.lt
theorem ZSt.cells {w : World} {p : Nat} {sv : Value} {S : Bs} {a deep most : Nat} {bad : Bool} (h : ZSt w p sv S a deep most bad) :
    (w.cell? ⟨p, 0, none⟩ = some sv ∧ w.cell? ⟨p, 1, none⟩ = some (.int .i64 (a : Int)) ∧ w.cell? ⟨p, 2, none⟩ = some (.int .i64 (deep : Int)) ∧ w.cell? ⟨p, 3, none⟩ = some (.int .i64 (most : Int)) ∧ w.cell? ⟨p, 4, none⟩ = some (.bool bad)) ∧
    ∀ j, w.frozen? ⟨p, j, none⟩ = false :=
  ⟨⟨by rw [Lib.cell_of_heap h.own]; rfl, by rw [Lib.cell_of_heap h.own]; rfl, by rw [Lib.cell_of_heap h.own]; rfl, by rw [Lib.cell_of_heap h.own]; rfl, by rw [Lib.cell_of_heap h.own]; rfl⟩, fun j => Lib.frozen_of_heap h.own j⟩
theorem ZSt.keptB {w w' : World} {p : Nat} {sv : Value} {S : Bs} {a deep most : Nat} {bad : Bool} (h : ZSt w p sv S a deep most bad) (hb : Below w.heap.size w w') : ZSt w' p sv S a deep most bad :=
  ⟨by rw [hb.block p h.lt]; exact h.own, fun W hW => h.row W ((hb.mono (Nat.le_of_lt h.lt)).trans hW)⟩
theorem ZS.keptB {S : Bs} {w w' : World} {p : Nat} {s : Bs} {deep most : Nat} {bad : Bool} (h : ZS S w p s deep most bad) (hb : Below w.heap.size w w') : ZS S w' p s deep most bad := by
  obtain ⟨sv, a, h1, h2, h⟩ := h
  exact ⟨sv, a, h1, h2, h.keptB hb⟩
/-- Nothing turns but one row of the call's own, which is not the reader. -/
theorem ZS.kept {S : Bs} {w w' : World} {p : Nat} {s : Bs} {deep most : Nat} {bad : Bool} {row : Option Nat} (h : ZS S w p s deep most bad) (hg : w.grownBy w' row) (hr : ∀ k, row = some k → p < k) : ZS S w' p s deep most bad := by
  obtain ⟨sv, a, h1, h2, h⟩ := h
  refine ⟨sv, a, h1, h2, by rw [hg.block p h.lt (fun e => by have := hr p e.symm; omega)]; exact h.own, fun W hW => h.row W (Below.trans ⟨hg.os, hg.tape, hg.output, hg.size, fun k hk => hg.block k (Nat.lt_trans hk h.lt) fun e => by have := hr k e.symm; omega⟩ hW)⟩
/-- One of its cells turns. -/
theorem ZSt.set {w w' : World} {p : Nat} {sv : Value} {S : Bs} {a deep most a2 deep2 most2 : Nat} {bad bad2 : Bool} (h : ZSt w p sv S a deep most bad) (hg : w.grownBy w' (some p)) (ho : w'.heap[p]? = some (rdObj sv a2 deep2 most2 bad2)) : ZSt w' p sv S a2 deep2 most2 bad2 :=
  ⟨ho, fun W hW => h.row W ((grown_low hg (Nat.le_of_lt h.lt)).trans hW)⟩
theorem ZSt.setAt {w : World} {p : Nat} {sv : Value} {S : Bs} {a deep most : Nat} {bad : Bool} (h : ZSt w p sv S a deep most bad) (n : Nat) : ZSt (w.setCell ⟨p, 1, none⟩ (.int .i64 (n : Int))) p sv S n deep most bad :=
  h.set (gset w p 1 _) (by rw [heap_setCell_same _ _ _ _ _ _ h.own]; rfl)
theorem ZS.setDeep {S : Bs} {w : World} {p : Nat} {s : Bs} {deep most : Nat} {bad : Bool} (h : ZS S w p s deep most bad) (n : Nat) (z : Int) (hz : z = (n : Int)) : ZS S (w.setCell ⟨p, 2, none⟩ (.int .i64 z)) p s n most bad ∧ w.grownBy (w.setCell ⟨p, 2, none⟩ (.int .i64 z)) (some p) := by
  subst hz
  obtain ⟨sv, a, h1, h2, h⟩ := h
  exact ⟨⟨sv, a, h1, h2, h.set (gset w p 2 _) (by rw [heap_setCell_same _ _ _ _ _ _ h.own]; rfl)⟩, gset w p 2 _⟩
theorem ZS.setMost {S : Bs} {w : World} {p : Nat} {s : Bs} {deep most : Nat} {bad : Bool} (h : ZS S w p s deep most bad) (n : Nat) (z : Int) (hz : z = (n : Int)) : ZS S (w.setCell ⟨p, 3, none⟩ (.int .i64 z)) p s deep n bad ∧ w.grownBy (w.setCell ⟨p, 3, none⟩ (.int .i64 z)) (some p) := by
  subst hz
  obtain ⟨sv, a, h1, h2, h⟩ := h
  exact ⟨⟨sv, a, h1, h2, h.set (gset w p 3 _) (by rw [heap_setCell_same _ _ _ _ _ _ h.own]; rfl)⟩, gset w p 3 _⟩
theorem ZS.setBad {S : Bs} {w : World} {p : Nat} {s : Bs} {deep most : Nat} {bad : Bool} (h : ZS S w p s deep most bad) (b : Bool) : ZS S (w.setCell ⟨p, 4, none⟩ (.bool b)) p s deep most b ∧ w.grownBy (w.setCell ⟨p, 4, none⟩ (.bool b)) (some p) := by
  obtain ⟨sv, a, h1, h2, h⟩ := h
  exact ⟨⟨sv, a, h1, h2, h.set (gset w p 4 _) (by rw [heap_setCell_same _ _ _ _ _ _ h.own]; rfl)⟩, gset w p 4 _⟩
theorem ZS.flag {S : Bs} {w : World} {p : Nat} {s : Bs} {deep most : Nat} {bad : Bool} (h : ZS S w p s deep most bad) : (w.cell? ⟨p, 4, none⟩ = some (.bool bad) ∧ w.cell? ⟨p, 2, none⟩ = some (.int .i64 (deep : Int)) ∧ w.cell? ⟨p, 3, none⟩ = some (.int .i64 (most : Int))) ∧ ∀ j, w.frozen? ⟨p, j, none⟩ = false := by
  obtain ⟨sv, a, h1, h2, h⟩ := h
  obtain ⟨⟨-, -, c2, c3, c4⟩, f⟩ := h.cells
  exact ⟨⟨c4, c2, c3⟩, f⟩
/-- Ahead of a byte. -/
theorem ZS.front {S : Bs} {w : World} {p : Nat} {c : UInt8} {s : Bs} {deep most : Nat} {bad : Bool} (h : ZS S w p (c :: s) deep most bad) :
    ∃ b off cap a : Nat, (w.cell? ⟨p, 0, none⟩ = some (.slice (some ⟨b, off, none⟩) S.length cap) ∧ w.cell? ⟨p, 1, none⟩ = some (.int .i64 (a : Int)) ∧ w.cell? ⟨b, off + a, none⟩ = some (.int .u8 (c.toNat : Int))) ∧ a < S.length ∧ (∀ j, w.frozen? ⟨p, j, none⟩ = false) ∧
      ∀ W z w2, Below w.heap.size w W → z = (a : Int) + 1 → w2 = W.setCell ⟨p, 1, none⟩ (.int .i64 z) → ZS S w2 p s deep most bad ∧ w.grownBy w2 (some p) := by
  obtain ⟨sv, a, h1, h2, h⟩ := h
  obtain ⟨⟨c0, c1, -⟩, f⟩ := h.cells
  obtain ⟨_, aa, cap, rfl, -, -, hc⟩ := h.row w (Below.refl _ _)
  simp only [List.length_cons] at h1
  have hlt : a < S.length := by omega
  obtain ⟨b, off, rfl, hb, hcs⟩ := hc (by omega)
  have hx : S[a] = c := by
    have := congrArg List.head? h2
    rw [List.head?_drop, List.getElem?_eq_getElem hlt] at this
    simpa using this
  have hcx := hcs a (by simpa using hlt)
  rw [List.getElem_map, hx] at hcx
  refine ⟨b, off, cap, a, ⟨c0, c1, hcx⟩, hlt, f, fun W z w2 hW hz e => ?_⟩
  subst e
  obtain rfl : z = ((a + 1 : Nat) : Int) := by omega
  exact ⟨⟨_, a + 1, by omega, by rw [← List.drop_drop, h2]; rfl, (h.keptB hW).setAt (a + 1)⟩, (grown_of_below hW _).trans (gset _ _ _ _)⟩
theorem ZS.len {S : Bs} {w : World} {p : Nat} {s : Bs} {deep most : Nat} {bad : Bool} (h : ZS S w p s deep most bad) : s.length ≤ S.length := by
  obtain ⟨sv, a, h1, h2, h⟩ := h
  omega
/-- The place and how far it is. -/
theorem ZS.place {S : Bs} {w : World} {p : Nat} {s : Bs} {deep most : Nat} {bad : Bool} (h : ZS S w p s deep most bad) : ∃ aa c, ∃ a : Nat, (w.cell? ⟨p, 0, none⟩ = some (.slice aa S.length c) ∧ w.cell? ⟨p, 1, none⟩ = some (.int .i64 (a : Int))) ∧ a + s.length = S.length ∧ S.drop a = s ∧ argRow w (.slice aa S.length c) S.length 1 (S.map bCell) := by
  obtain ⟨sv, a, h1, h2, h⟩ := h
  obtain ⟨⟨c0, c1, -⟩, f⟩ := h.cells
  have hr := h.row w (Below.refl _ _)
  have hr2 := hr
  obtain ⟨_, aa, c, rfl, -⟩ := hr
  exact ⟨aa, c, a, ⟨c0, c1⟩, h1, h2, hr2⟩
end Go.Proofs.YtljnbbdhmlfhjaaGreatDoor
/-
  The document's JSON reader: space, word, digits.
-/
namespace Go.Proofs.YtljnbbdhmlfhjaaGreatDoor
open Go.RowKit
end Go.Proofs.YtljnbbdhmlfhjaaGreatDoor
/-
  The document's JSON reader: word, digits.
-/
namespace Go.Proofs.YtljnbbdhmlfhjaaGreatDoor
open Go.RowKit
end Go.Proofs.YtljnbbdhmlfhjaaGreatDoor
/-
  The document's Quote.
-/
namespace Go.Proofs.YtljnbbdhmlfhjaaGreatDoor
open Go.RowKit
theorem escS_app (a b : Bs) : escS (a ++ b) = escS a ++ escS b := by simp [escS]
theorem ext_one (s : ByteArray) (k : Nat) (h : k < s.size) : (s.extract k (k + 1)).data.toList = [s[k]] := by
  have h1 : (s.extract k (k + 1)).data = s.data.extract k (k + 1) := by simp [ByteArray.data_extract]
  rw [h1, Array.toList_extract]
  have h2 := drop_byteJ s k h
  rw [List.extract_eq_take_drop, h2, Nat.add_sub_cancel_left]
  rfl
structure QSt (s o : ByteArray) (k : Nat) : Prop where
  out : o.data.toList = 34 :: escS (s.data.toList.take k)
  len : o.size ≤ 6 * k + 1
theorem take_oneJ (s : ByteArray) (k : Nat) (hk : k < s.size) : s.data.toList.take (k + 1) = s.data.toList.take k ++ [s[k]] := by
  have hl : k < s.data.toList.length := by simpa [ByteArray.size_data] using hk
  rw [List.take_succ_eq_append_getElem hl]
  rfl
theorem QSt.step {s o x : ByteArray} {k : Nat} {c : UInt8} (h : QSt s o k) (e : s.data.toList.take (k + 1) = s.data.toList.take k ++ [c]) (hx : x.data.toList = escB c) : QSt s (o ++ x) (k + 1) := by
  have hxl : x.size ≤ 6 := by
    have : x.size = x.data.toList.length := by simp [ByteArray.size_data]
    rw [this, hx]
    exact escB_len _
  refine ⟨?_, ?_⟩
  · rw [e, escS_app, ByteArray.data_append, Array.toList_append, h.out, hx]
    simp [escS]
  · rw [ByteArray.size_append]
    have := h.len
    omega
theorem QSt.step2 {s o x y : ByteArray} {k : Nat} {c : UInt8} (h : QSt s o k) (e : s.data.toList.take (k + 1) = s.data.toList.take k ++ [c]) (hx : (x ++ y).data.toList = escB c) : QSt s (o ++ x ++ y) (k + 1) := by
  rw [ByteArray.append_assoc]
  exact h.step e hx
theorem QSt.step3 {s o x y z : ByteArray} {k : Nat} {c : UInt8} (h : QSt s o k) (e : s.data.toList.take (k + 1) = s.data.toList.take k ++ [c]) (hx : (x ++ (y ++ z)).data.toList = escB c) : QSt s (o ++ x ++ y ++ z) (k + 1) := by
  rw [ByteArray.append_assoc, ByteArray.append_assoc]
  exact h.step e hx
set_option maxRecDepth 100000 in
set_option maxHeartbeats 20000000 in
theorem ref_Quote (s : ByteArray) (w : World) (hs : s.size ≤ 1099511627776) : Calls Tryz.prog 38 #[.string s] w fun e w' => e = .returned (.string ⟨(quote s.data.toList).toArray⟩) ∧ Below w.heap.size w w' := by
  have HS := Lib.hid hs
  go_enter Tryz.func38, Tryz.ntmps38
  go_wp2
  go_loopw [3, 4] (fun ov iv wr => ∃ (k : Nat) (o : ByteArray) (q : Nat), iv = .int .i64 k ∧ k ≤ s.size ∧ ov = .string o ∧ QSt s o k ∧ wr = w.drewN q) (fun _ iv _ => s.size - (intOf iv).toNat)
  case atStart => exact ⟨0, ⟨#[34]⟩, 0, rfl, by omega, rfl, ⟨by simp [escS], by decide⟩, rfl⟩
  case round =>
    obtain ⟨k, o, q, rfl, hk, rfl, hq, rfl⟩ := hrel
    have HQ := Lib.hid hq
    have hol := hq.len
    clear hq
    by_cases hks : k < s.size
    · have hd : decide ((k : Int) < (s.size : Int)) = true := decide_eq_true (by omega)
      have hx1 := ext_one s k hks
      have he1 : (s.extract k (k + 1)).size ≤ 1 := by
        have : (s.extract k (k + 1)).size = (s.extract k (k + 1)).data.toList.length := by simp only [ByteArray.size_data, Array.length_toList]
        rw [this, hx1]; exact Nat.le_refl _
      have htk := take_oneJ s k hks
      go_upto_region 7 with fail
      generalize s[k] = c at *
      have hb : (c.toNat : Int) < 256 := by have := c.toNat_lt; omega
      have hb0 : (0 : Int) ≤ (c.toNat : Int) := by omega
      have HX1 := Lib.hid hx1
      have HTK := Lib.hid htk
      clear hx1 htk
      have hcx : ∀ d : UInt8, (c.toNat : Int) = (d.toNat : Int) → c = d := fun d e => UInt8.toNat_inj.1 (by omega)
      by_cases h34 : c = 34
      · subst h34
        have HE := Lib.hid (show (⟨#[92]⟩ ++ s.extract k (k + 1) : ByteArray).data.toList = escB 34 by rw [ByteArray.data_append, Array.toList_append, HX1.out]; rfl)
        go_wp2
        go_roundw
        case rel => exact ⟨k + 1, _, _, by go_num, by omega, rfl, HQ.out.step2 HTK.out HE.out, rfl⟩
        case measure => simp [intOf]; omega
      by_cases h92 : c = 92
      · subst h92
        have HE := Lib.hid (show (⟨#[92]⟩ ++ s.extract k (k + 1) : ByteArray).data.toList = escB 92 by rw [ByteArray.data_append, Array.toList_append, HX1.out]; rfl)
        go_wp2
        go_roundw
        case rel => exact ⟨k + 1, _, _, by go_num, by omega, rfl, HQ.out.step2 HTK.out HE.out, rfl⟩
        case measure => simp [intOf]; omega
      by_cases h8 : c = 8
      · subst h8
        have HE := Lib.hid (show (⟨#[92, 98]⟩ : ByteArray).data.toList = escB 8 from rfl)
        go_wp2
        go_roundw
        case rel => exact ⟨k + 1, _, _, by go_num, by omega, rfl, HQ.out.step HTK.out HE.out, rfl⟩
        case measure => simp [intOf]; omega
      by_cases h12 : c = 12
      · subst h12
        have HE := Lib.hid (show (⟨#[92, 102]⟩ : ByteArray).data.toList = escB 12 from rfl)
        go_wp2
        go_roundw
        case rel => exact ⟨k + 1, _, _, by go_num, by omega, rfl, HQ.out.step HTK.out HE.out, rfl⟩
        case measure => simp [intOf]; omega
      by_cases h10 : c = 10
      · subst h10
        have HE := Lib.hid (show (⟨#[92, 110]⟩ : ByteArray).data.toList = escB 10 from rfl)
        go_wp2
        go_roundw
        case rel => exact ⟨k + 1, _, _, by go_num, by omega, rfl, HQ.out.step HTK.out HE.out, rfl⟩
        case measure => simp [intOf]; omega
      by_cases h13 : c = 13
      · subst h13
        have HE := Lib.hid (show (⟨#[92, 114]⟩ : ByteArray).data.toList = escB 13 from rfl)
        go_wp2
        go_roundw
        case rel => exact ⟨k + 1, _, _, by go_num, by omega, rfl, HQ.out.step HTK.out HE.out, rfl⟩
        case measure => simp [intOf]; omega
      by_cases h9 : c = 9
      · subst h9
        have HE := Lib.hid (show (⟨#[92, 116]⟩ : ByteArray).data.toList = escB 9 from rfl)
        go_wp2
        go_roundw
        case rel => exact ⟨k + 1, _, _, by go_num, by omega, rfl, HQ.out.step HTK.out HE.out, rfl⟩
        case measure => simp [intOf]; omega
      have ne : ∀ d : UInt8, c ≠ d → ((c.toNat : Int) == (d.toNat : Int)) = false := fun d h => by
        rw [beq_eq_false_iff_ne]
        exact fun e => h (hcx d e)
      have n34 : ((c.toNat : Int) == 34) = false := ne 34 h34
      have n92 : ((c.toNat : Int) == 92) = false := ne 92 h92
      have n8 : ((c.toNat : Int) == 8) = false := ne 8 h8
      have n12 : ((c.toNat : Int) == 12) = false := ne 12 h12
      have n10 : ((c.toNat : Int) == 10) = false := ne 10 h10
      have n13 : ((c.toNat : Int) == 13) = false := ne 13 h13
      have n9 : ((c.toNat : Int) == 9) = false := ne 9 h9
      by_cases h32 : c.toNat < 32
      · have hv : c.toNat = 0 ∨ c.toNat = 1 ∨ c.toNat = 2 ∨ c.toNat = 3 ∨ c.toNat = 4 ∨ c.toNat = 5 ∨ c.toNat = 6 ∨ c.toNat = 7 ∨ c.toNat = 11 ∨ c.toNat = 14 ∨ c.toNat = 15 ∨ c.toNat = 16 ∨ c.toNat = 17 ∨ c.toNat = 18 ∨ c.toNat = 19 ∨ c.toNat = 20 ∨ c.toNat = 21 ∨ c.toNat = 22 ∨ c.toNat = 23 ∨ c.toNat = 24 ∨ c.toNat = 25 ∨ c.toNat = 26 ∨ c.toNat = 27 ∨ c.toNat = 28 ∨ c.toNat = 29 ∨ c.toNat = 30 ∨ c.toNat = 31 := by
          have e8 : c.toNat ≠ 8 := fun e => h8 (UInt8.toNat_inj.1 e)
          have e9 : c.toNat ≠ 9 := fun e => h9 (UInt8.toNat_inj.1 e)
          have e10 : c.toNat ≠ 10 := fun e => h10 (UInt8.toNat_inj.1 e)
          have e12 : c.toNat ≠ 12 := fun e => h12 (UInt8.toNat_inj.1 e)
          have e13 : c.toNat ≠ 13 := fun e => h13 (UInt8.toNat_inj.1 e)
          omega
        clear ne hcx h34 h92 h8 h12 h10 h13 h9 h32 n34 n92 n8 n12 n10 n13 n9 he1 HX1
        rcases hv with hc | hc | hc | hc | hc | hc | hc | hc | hc | hc | hc | hc | hc | hc | hc | hc | hc | hc | hc | hc | hc | hc | hc | hc | hc | hc | hc
        all_goals
          rw [hc]
          have HCC := Lib.hid (show c = UInt8.ofNat c.toNat by simp)
          rw [hc] at HCC
          clear hb hb0 hc
          go_upto_region 21 with fail
          go_quiet (fail)
          go_wp2
          go_roundw
          case rel => exact ⟨k + 1, _, _, by go_num, by omega, rfl, HQ.out.step3 HTK.out (by rw [HCC.out]; rfl), rfl⟩
          case measure => simp [intOf]; omega
      · have HE := Lib.hid (show (s.extract k (k + 1) : ByteArray).data.toList = escB c by
          rw [HX1.out, esc_plain (by rintro (e | e); exact h34 e; exact h92 e) h32])
        have d32 : decide ((c.toNat : Int) < 32) = false := decide_eq_false (by omega)
        clear ne h34 h92 h8 h12 h10 h13 h9 hcx h32
        generalize (c.toNat : Int) = x at *
        go_wp2
        go_roundw
        case rel => exact ⟨k + 1, _, _, by go_num, by omega, rfl, HQ.out.step HTK.out HE.out, rfl⟩
        case measure => simp [intOf]; omega
    · have hd : decide (k < s.size) = false := decide_eq_false hks
      have HF := Lib.hid (show (o ++ ⟨#[34]⟩ : ByteArray) = ⟨(quote s.data.toList).toArray⟩ by
        apply ByteArray.ext
        apply Array.toList_inj.1
        rw [ByteArray.data_append, Array.toList_append, HQ.out.out, List.take_of_length_le (by simp only [ByteArray.size_data, Array.length_toList]; omega)]
        simp [quote])
      go_wp2
      go_ret
      exact ⟨by rw [HF.out]; rfl, below_drewN (Below.refl _ _) _⟩
end Go.Proofs.YtljnbbdhmlfhjaaGreatDoor
