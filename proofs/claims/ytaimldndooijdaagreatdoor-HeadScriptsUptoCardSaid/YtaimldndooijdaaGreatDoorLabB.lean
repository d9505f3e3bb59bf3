/-
  Labels: their cells, their order; cmp.Compare at strings, cmp.Or at two, the closures of label, label.Compare and the reference's.
-/
import Derived.Test.YtaimldndooijdaaGreatDoorLabA
import Derived.Test.YtaimldndooijdaaGreatDoorKitC
import Derived.Sort.Walk0
import Derived.Shelf.SlSortCmp.InsertionK
namespace Go.Proofs.YtaimldndooijdaaGreatDoor
open Go.RowKit Go.Sort Go.Lib Go.Shelf

abbrev Lab := ByteArray × ByteArray
def encLab (x : Lab) : List Value := [.string x.1, .string x.2]
def labCells (L : List Lab) : List Value := L.flatMap encLab
theorem labCells_len (L : List Lab) : (labCells L).length = L.length * 2 := by
  induction L with
  | nil => rfl
  | cons x L ih =>
    show (encLab x ++ labCells L).length = _
    rw [List.length_append, ih, List.length_cons]
    show 2 + _ = _
    omega
theorem labCells_append (A B : List Lab) : labCells (A ++ B) = labCells A ++ labCells B := List.flatMap_append
theorem labCells_one (L : List Lab) : ∀ u ∈ labCells L, u.oneCell' = true := by
  intro u hu
  obtain ⟨x, _, hx⟩ := List.mem_flatMap.1 hu
  simp only [encLab, List.mem_cons, List.mem_nil_iff, or_false] at hx
  rcases hx with rfl | rfl <;> rfl
theorem labCells_get : ∀ (L : List Lab) (k : Nat) (h : k < L.length), (labCells L)[k * 2]? = some (.string L[k].1) ∧ (labCells L)[k * 2 + 1]? = some (.string L[k].2)
  | x :: L, 0, _ => ⟨rfl, rfl⟩
  | x :: L, k + 1, h => by
    have ih := labCells_get L k (by simpa using h)
    have e : ∀ j, (labCells (x :: L))[j + 2]? = (labCells L)[j]? := fun j => rfl
    rw [show (k + 1) * 2 = k * 2 + 2 from by omega, e, show k * 2 + 2 + 1 = (k * 2 + 1) + 2 from by omega, e]
    exact ih
/-- A list of labels that can be read. -/
def LRow (w : World) (v : Value) (L : List Lab) : Prop := argRow w v L.length 2 (labCells L)
theorem LRow.below {w w' : World} {v : Value} {L : List Lab} (h : LRow w v L) (hb : Below w.heap.size w w') : LRow w' v L := argRow_below h hb
theorem LRow.shape {w : World} {v : Value} {L : List Lab} (h : LRow w v L) : ∃ a c, v = .slice a L.length c ∧ L.length ≤ c ∧ c ≤ maxLen := by
  obtain ⟨_, a, c, rfl, h1, h2, _⟩ := h
  exact ⟨a, c, rfl, h1, h2⟩
theorem LRow.at {w : World} {a : Option Addr} {n c : Nat} {L : List Lab} (h : LRow w (.slice a n c) L) {k : Nat} (hk : k < L.length) :
    ∃ b off, a = some ⟨b, off, none⟩ ∧ b < w.heap.size ∧ w.cell? ⟨b, off + k * 2, none⟩ = some (.string L[k].1) ∧ w.cell? ⟨b, off + k * 2 + 1, none⟩ = some (.string L[k].2) := by
  obtain ⟨hl, a', c', e, _, _, hc⟩ := h
  cases e
  obtain ⟨b, off, rfl, hb, hcs⟩ := hc (by omega)
  have hg := labCells_get L k hk
  have hlen := labCells_len L
  have g1 := hcs (k * 2) (by omega)
  have g2 := hcs (k * 2 + 1) (by omega)
  rw [List.getElem?_eq_getElem (by omega)] at hg
  rw [List.getElem?_eq_getElem (by omega)] at hg
  refine ⟨b, off, rfl, hb, by rw [g1, Option.some.inj hg.1], by rw [Nat.add_assoc, g2, Option.some.inj hg.2]⟩

/-! ### The order -/
def cmpB (a b : List UInt8) : Int := if Op.bytesLess a b then -1 else if a == b then 0 else 1
def cmpLab (x y : Lab) : Int := if cmpB x.1.toList y.1.toList = 0 then cmpB x.2.toList y.2.toList else cmpB x.1.toList y.1.toList
def cmpLabs : List Lab → List Lab → Int
  | [], [] => 0
  | [], _ :: _ => -1
  | _ :: _, [] => 1
  | x :: A, y :: B => if cmpLab x y = 0 then cmpLabs A B else cmpLab x y
theorem less_irrefl (a : List UInt8) : Op.bytesLess a a = false := by
  rw [bytesLess_eq]
  exact decide_eq_false (List.lt_irrefl a)
theorem cmpB_self (a : List UInt8) : cmpB a a = 0 := by
  unfold cmpB
  rw [less_irrefl]
  simp
theorem cmpB_zero {a b : List UInt8} : cmpB a b = 0 ↔ a = b := by
  constructor
  · intro h
    unfold cmpB at h
    split at h
    · omega
    · split at h
      · rename_i h2
        exact eq_of_beq h2
      · omega
  · rintro rfl
    exact cmpB_self a
theorem bytes_inj {a b : ByteArray} (h : a.toList = b.toList) : a = b := by
  rw [ByteArray.toList_eq, ByteArray.toList_eq] at h
  exact ByteArray.ext (Array.toList_inj.1 h)
theorem cmpLab_zero {x y : Lab} : cmpLab x y = 0 ↔ x = y := by
  unfold cmpLab
  constructor
  · intro h
    split at h
    · rename_i h1
      exact Prod.ext (bytes_inj (cmpB_zero.1 h1)) (bytes_inj (cmpB_zero.1 h))
    · contradiction
  · rintro rfl
    rw [cmpB_self, cmpB_self, if_pos rfl]
theorem cmpLabs_zero : ∀ {A B : List Lab}, cmpLabs A B = 0 ↔ A = B
  | [], [] => by simp [cmpLabs]
  | [], _ :: _ => by simp [cmpLabs]
  | _ :: _, [] => by simp [cmpLabs]
  | x :: A, y :: B => by
    have ih := cmpLabs_zero (A := A) (B := B)
    unfold cmpLabs
    constructor
    · intro h
      split at h
      · rename_i h1
        rw [cmpLab_zero.1 h1, ih.1 h]
      · contradiction
    · intro h
      obtain ⟨rfl, rfl⟩ := List.cons.inj h
      rw [if_pos (cmpLab_zero.2 rfl)]
      exact ih.2 rfl

set_option maxRecDepth 100000 in
set_option maxHeartbeats 4000000 in
theorem cmp_str (x y : ByteArray) (w : World) :
    Calls Tryz.prog 56 #[.string x, .string y] w fun e w' => e = .returned (.int .i64 (cmpB x.toList y.toList)) ∧ w = w' := by
  have cN : ∀ (s : ByteArray) W, Calls Tryz.prog 87 #[.string s] W fun e w' => e = .returned (.bool false) ∧ W = w' := fun s W => by
    go_enter Tryz.func87, Tryz.ntmps87
    go_wp2
    go_ret
    exact ⟨rfl, rfl⟩
  obtain ⟨b1, h1⟩ : ∃ b, Op.bytesLess x.toList y.toList = b := ⟨_, rfl⟩
  obtain ⟨b2, h2⟩ : ∃ b, (x.toList == y.toList) = b := ⟨_, rfl⟩
  have hR : cmpB x.toList y.toList = if b1 then -1 else if b2 then 0 else 1 := by unfold cmpB; rw [h1, h2]
  rw [hR]
  clear hR
  cases b1 <;> cases b2
  all_goals
    go_enter Tryz.func56, Tryz.ntmps56
    go_wp2_with (go_at_call 87; refine (cN _ _).mono ?_; rintro e w1 ⟨rfl, rfl⟩)
    go_ret
    exact ⟨rfl, rfl⟩

/-- The closure of label.Canon. -/
theorem canon_cmp (x y : Lab) (W : World) : Calls Tryz.prog 55 #[.agg #[.string x.1, .string x.2], .agg #[.string y.1, .string y.2]] W fun e w' =>
    e = .returned (.int .i64 (cmpB x.1.toList y.1.toList)) ∧ ∃ q os', w' = Go.Sort.grow (W.drewN q) os' := by
  have hcon := fun W' => cmp_str x.1 y.1 W'
  generalize cmpB x.1.toList y.1.toList = r at hcon ⊢
  go_enter Tryz.func55, Tryz.ntmps55
  go_wp2_with (go_at_call 56; refine (hcon _).mono ?_; rintro e w' ⟨rfl, rfl⟩)
  go_ret
  exact ⟨rfl, 0, _, by rw [alloc_eq_grow, alloc_eq_grow, grow_grow]; rfl⟩
end Go.Proofs.YtaimldndooijdaaGreatDoor
