/-
  The contract of reply.end; lists of parts, each in memory of its own.
-/
import Derived.Test.YtknoimflimhcgaaDoorRepC
import Derived.Test.YtknoimflimhcgaaDoorKitC
namespace Go.Proofs.YtknoimflimhcgaaDoor
open Go.RowKit

/-- Some bytes in a row of their own, from B on. -/
def Part (w : World) (B : Nat) (v : Value) (l : Byt) : Prop := w.ownsRow B 5 1 v l.length (Lib.byteCells l)
/-- A list of them. -/
def Parts (w : World) (B : Nat) (v : Value) (L : List Byt) : Prop :=
  ∃ E : List Value, w.ownsRow B 22 1 v L.length E ∧ ∀ i (h : i < L.length) (h' : i < E.length), Part w B E[i] L[i]
theorem Parts.nil (w : World) (B : Nat) : Parts w B (.slice none 0 0) [] := ⟨[], World.ownsRow_nil _ _ _ _, fun i h => by cases h⟩
theorem Parts.below {w w' : World} {B : Nat} {v : Value} {L : List Byt} (h : Parts w B v L) (hb : Below w.heap.size w w') : Parts w' B v L := by
  obtain ⟨E, h1, h2⟩ := h
  exact ⟨E, owns_below h1 hb, fun i hi hi' => owns_below (h2 i hi hi') hb⟩
theorem Parts.base {w : World} {A B : Nat} {v : Value} {L : List Byt} (h : Parts w B v L) (hA : A ≤ B) : Parts w A v L := by
  obtain ⟨E, h1, h2⟩ := h
  exact ⟨E, owns_base h1 hA, fun i hi hi' => owns_base (h2 i hi hi') hA⟩
theorem block_ne' {w : World} {A B : Nat} {v u : Value} {n m sz sz' : Nat} {xs ys : List Value} {e e' : TypeId} (h : w.ownsRow A e sz v n xs) (k : w.ownsRow B e' sz' u m ys) (hne : e ≠ e') {g : Nat} (hg : v.ownBlock = some g) : u.ownBlock ≠ some g := by
  intro hu
  rcases h.2 with ⟨rfl, _⟩ | ⟨g1, c1, cur1, rfl, _, h1, _⟩
  · cases hg
  · rcases k.2 with ⟨rfl, _⟩ | ⟨g2, c2, cur2, rfl, _, h2, _⟩
    · cases hu
    · simp only [Value.ownBlock, Option.some.injEq] at hg hu
      rw [hg] at h1
      rw [hu] at h2
      rw [h1] at h2
      simp only [Option.some.injEq, Obj.cells.injEq] at h2
      exact hne h2.2.1
/-- The list where one more part lies, and the list itself is turned. -/
theorem Parts.push {w w1 : World} {B : Nat} {v v1 : Value} {L : List Byt} {E : List Value} (hE : w.ownsRow B 22 1 v L.length E) (hp : ∀ i (h : i < L.length) (h' : i < E.length), Part w B E[i] L[i])
    {u : Value} {l : Byt} (hu : Part w B u l) (ho : w1.ownsRow B 22 1 v1 (L.length + 1) (E ++ [u])) (hg : w.grownBy w1 v.ownBlock) : Parts w1 B v1 (L ++ [l]) := by
  have keep : ∀ {x : Value} {k : Byt}, Part w B x k → Part w1 B x k := fun {x k} hx => hx.kept hg (by
    cases hv : v.ownBlock with
    | none => cases hx' : x.ownBlock <;> simp
    | some g => exact .inr (block_ne' hE hx (by decide) hv))
  refine ⟨E ++ [u], by simpa using ho, fun i hi hi' => ?_⟩
  have hl : E.length = L.length := by have := hE.1; omega
  by_cases c : i < L.length
  · rw [List.getElem_append_left (by omega), List.getElem_append_left c]
    exact keep (hp i c (by omega))
  · simp only [List.length_append, List.length_singleton] at hi
    obtain rfl : i = L.length := by omega
    have e1 : (E ++ [u])[L.length]'hi' = u := by simp [← hl]
    have e2 : (L ++ [l])[L.length]'(by simp) = l := by simp
    rw [e1, e2]
    exact keep hu
theorem Parts.owns {w : World} {B : Nat} {v : Value} {L : List Byt} (h : Parts w B v L) : ∃ E : List Value, w.ownsRow B 22 1 v L.length E ∧ ∀ i (h : i < L.length) (h' : i < E.length), Part w B E[i] L[i] := h

def EndEnd (r : Option Bool) (e : Ending) : Prop := match r with
  | none => e = .returned (.tuple #[.bool false, .bool false])
  | some b => e = .returned (.tuple #[.bool b, .bool true])

set_option maxRecDepth 100000 in
set_option maxHeartbeats 4000000 in
theorem reply_end (va : Value) (l : Byt) (p : Nat) (w : World) (hrow : argRow w va l.length 1 (Lib.byteCells l)) (h0 : 0 < l.length) (hp : p ≤ l.length) (hl : l.length ≤ 1000000000) :
    Calls Tryd.prog 18 #[va, .int .i64 (p : Int)] w fun e w' => EndEnd (endP (l.drop p)) e ∧ w = w' := by
  obtain ⟨b, off, cap, rfl, hlc, hcm, hbs, hcell⟩ := cellB hrow h0
  have HC := Lib.hid hcell
  clear hcell hrow
  obtain ⟨R, hR⟩ : ∃ R, endP (l.drop p) = R := ⟨_, rfl⟩
  rw [hR]
  have HR := Lib.hid hR
  clear hR
  by_cases hlt : p < l.length
  · have hcp := HC.out p hlt
    have hD := List.drop_eq_getElem_cons hlt
    obtain ⟨c, hc⟩ : ∃ c, l[p] = c := ⟨_, rfl⟩
    rw [hc] at hcp hD
    have hb1 : (p : Int) < (l.length : Int) := by omega
    have hb0 : (0 : Int) ≤ (p : Int) := by omega
    have hb3 : (0 : Int) ≤ (p : Int) + 1 := by omega
    have d0 : decide ((p : Int) < (l.length : Int)) = true := decide_eq_true hb1
    have hc256 : c.toNat < 256 := c.toNat_lt
    by_cases h13 : c.toNat = 13
    · have e13 : ((c.toNat : Int) != 13) = false := by simp; omega
      obtain rfl : c = 13 := UInt8.toNat_inj.1 h13
      by_cases hn : p + 1 < l.length
      · have hcn := HC.out (p + 1) hn
        rw [List.drop_eq_getElem_cons hn] at hD
        obtain ⟨cn, hcn'⟩ : ∃ cn, l[p + 1] = cn := ⟨_, rfl⟩
        rw [hcn'] at hcn hD
        have hn2 : (p : Int) + 1 < (l.length : Int) := by omega
        have d1 : decide ((p : Int) + 1 < (l.length : Int)) = true := decide_eq_true hn2
        have hfin := HR.out
        rw [hD] at hfin
        simp only [endP, true_and] at hfin
        have hcn256 : cn.toNat < 256 := cn.toNat_lt
        by_cases h10 : cn.toNat = 10
        · have e10 : ((cn.toNat : Int) != 10) = false := by simp; omega
          rw [if_pos (UInt8.toNat_inj.1 h10)] at hfin
          have HFIN := Lib.hid hfin
          clear hfin hD hc hcn'
          go_enter Tryd.func18, Tryd.ntmps18
          go_wp2
          go_ret2
          exact ⟨by rw [← HFIN.out]; rfl, rfl⟩
        · have e10 : ((cn.toNat : Int) != 10) = true := by simp; omega
          rw [if_neg (fun e => h10 (by rw [e]; rfl))] at hfin
          have HFIN := Lib.hid hfin
          clear hfin hD hc hcn'
          go_enter Tryd.func18, Tryd.ntmps18
          go_wp2
          go_ret2
          exact ⟨by rw [← HFIN.out]; rfl, rfl⟩
      · rw [List.drop_of_length_le (show l.length ≤ p + 1 by omega)] at hD
        have hfin := HR.out
        rw [hD] at hfin
        simp only [endP, if_true] at hfin
        have HFIN := Lib.hid hfin
        have d1 : decide ((p : Int) + 1 < (l.length : Int)) = false := decide_eq_false (by omega)
        clear hfin hD hc
        go_enter Tryd.func18, Tryd.ntmps18
        go_wp2
        go_ret2
        exact ⟨by rw [← HFIN.out]; rfl, rfl⟩
    · have n13 : ((c.toNat : Int) != 13) = true := by simp; omega
      have hc13 : c ≠ 13 := fun e => h13 (by rw [e]; rfl)
      have hfin := HR.out
      rw [hD] at hfin
      have hfin2 : R = none := by
        rw [← hfin]
        cases l.drop (p + 1) with
        | nil => simp [endP, hc13]
        | cons x t => simp [endP, hc13]
      have HFIN := Lib.hid hfin2
      clear hfin hfin2 hD hc hc13 h13
      go_enter Tryd.func18, Tryd.ntmps18
      go_wp2
      go_ret2
      exact ⟨by rw [HFIN.out]; rfl, rfl⟩
  · have hfin := HR.out
    rw [List.drop_of_length_le (by omega)] at hfin
    have HFIN := Lib.hid hfin
    have d0 : decide ((p : Int) < (l.length : Int)) = false := decide_eq_false (by omega)
    have d1 : decide ((p : Int) + 1 < (l.length : Int)) = false := decide_eq_false (by omega)
    clear hfin
    go_enter Tryd.func18, Tryd.ntmps18
    go_wp2
    go_ret2
    exact ⟨by rw [← HFIN.out]; rfl, rfl⟩
end Go.Proofs.YtknoimflimhcgaaDoor
