/-
  The program's JSON parser in memory: must, next, peek.
-/
import Derived.Test.YtljnbbdhmlfhjaaDoorKitC
import Derived.Test.YtljnbbdhmlfhjaaDoorJsnR
import Derived.Lib.Hide
import Derived.Test.YtljnbbdhmlfhjaaDoorProg
import Derived.WalkKit
import Derived.WalkLawsBesides
import Derived.WalkSpells
import Derived.Outline
import Derived.Recover
import Derived.Deep.LoopGhost
import Derived.Deep.RegionLaw
import Derived.Deep.QuietTactic
import Derived.BigQuiet
import Derived.Deep.CutRange
namespace Go.Proofs.YtljnbbdhmlfhjaaDoor
open Go.RowKit
def bCell (c : UInt8) : Value := .int .u8 (c.toNat : Int)
theorem byteCells_map (s : Bs) : Lib.byteCells s = s.map bCell := rfl
/-- The program's parser: the bytes to come, how deep it is and was. -/
def jpObj (sv : Value) (deep most : Nat) : Obj := .cells #[sv, .int .i64 (deep : Int), .int .i64 (most : Int)] 64 (0, 0)
structure JSt (w : World) (p : Nat) (sv : Value) (s : Bs) (deep most : Nat) : Prop where
  own : w.heap[p]? = some (jpObj sv deep most)
  row : ∀ W, Below p w W → argRow W sv s.length 1 (s.map bCell)
def JS (w : World) (p : Nat) (s : Bs) (deep most : Nat) : Prop := ∃ sv, JSt w p sv s deep most
theorem JSt.lt {w : World} {p : Nat} {sv : Value} {s : Bs} {deep most : Nat} (h : JSt w p sv s deep most) : p < w.heap.size := (Array.getElem?_eq_some_iff.1 h.own).1
theorem JS.lt {w : World} {p : Nat} {s : Bs} {deep most : Nat} (h : JS w p s deep most) : p < w.heap.size := by
  obtain ⟨sv, h⟩ := h
  exact h.lt
theorem JSt.cells {w : World} {p : Nat} {sv : Value} {s : Bs} {deep most : Nat} (h : JSt w p sv s deep most) :
    (w.cell? ⟨p, 0, none⟩ = some sv ∧ w.cell? ⟨p, 1, none⟩ = some (.int .i64 (deep : Int)) ∧ w.cell? ⟨p, 2, none⟩ = some (.int .i64 (most : Int))) ∧
    w.frozen? ⟨p, 0, none⟩ = false ∧ w.frozen? ⟨p, 1, none⟩ = false ∧ w.frozen? ⟨p, 2, none⟩ = false :=
  ⟨⟨by rw [Lib.cell_of_heap h.own]; rfl, by rw [Lib.cell_of_heap h.own]; rfl, by rw [Lib.cell_of_heap h.own]; rfl⟩, Lib.frozen_of_heap h.own 0, Lib.frozen_of_heap h.own 1, Lib.frozen_of_heap h.own 2⟩
theorem JSt.keptB {w w' : World} {p : Nat} {sv : Value} {s : Bs} {deep most : Nat} (h : JSt w p sv s deep most) (hb : Below w.heap.size w w') : JSt w' p sv s deep most :=
  ⟨by rw [hb.block p h.lt]; exact h.own, fun W hW => h.row W ((hb.mono (Nat.le_of_lt h.lt)).trans hW)⟩
theorem JS.keptB {w w' : World} {p : Nat} {s : Bs} {deep most : Nat} (h : JS w p s deep most) (hb : Below w.heap.size w w') : JS w' p s deep most := by
  obtain ⟨sv, h⟩ := h
  exact ⟨sv, h.keptB hb⟩
/-- Nothing turns but one row of the call's own, which is not the parser. -/
theorem JS.kept {w w' : World} {p : Nat} {s : Bs} {deep most : Nat} {row : Option Nat} (h : JS w p s deep most) (hg : w.grownBy w' row) (hr : ∀ k, row = some k → p < k) : JS w' p s deep most := by
  obtain ⟨sv, h⟩ := h
  refine ⟨sv, by rw [hg.block p h.lt (fun e => by have := hr p e.symm; omega)]; exact h.own, fun W hW => h.row W (Below.trans ⟨hg.os, hg.tape, hg.output, hg.size, fun k hk => hg.block k (Nat.lt_trans hk h.lt) fun e => by have := hr k e.symm; omega⟩ hW)⟩
theorem gset (w : World) (b j : Nat) (v : Value) : w.grownBy (w.setCell ⟨b, j, none⟩ v) (some b) :=
  ⟨rfl, rfl, rfl, by simp, fun k hk h => Below.heap_setCell _ _ _ _ (fun e => h (by rw [e]))⟩
theorem grown_low {w w' : World} {p : Nat} (hg : w.grownBy w' (some p)) (hp : p ≤ w.heap.size) : Below p w w' :=
  ⟨hg.os, hg.tape, hg.output, hg.size, fun k hk => hg.block k (Nat.lt_of_lt_of_le hk hp) fun e => by cases e; omega⟩
theorem JSt.set {w w' : World} {p : Nat} {sv sv' : Value} {s s' : Bs} {deep most deep' most' : Nat} (_h : JSt w p sv s deep most) (ho : w'.heap[p]? = some (jpObj sv' deep' most'))
    (hr : ∀ W, Below p w' W → argRow W sv' s'.length 1 (s'.map bCell)) : JSt w' p sv' s' deep' most' := ⟨ho, hr⟩
theorem JSt.front {w : World} {p : Nat} {sv : Value} {c : UInt8} {s : Bs} {deep most : Nat} (h : JSt w p sv (c :: s) deep most) :
    ∃ b off cap, sv = .slice (some ⟨b, off, none⟩) (s.length + 1) cap ∧ s.length + 1 ≤ cap ∧ cap ≤ maxLen ∧ w.cell? ⟨b, off, none⟩ = some (.int .u8 (c.toNat : Int)) ∧
      ∀ a' c', s.length ≤ c' → c' ≤ cap → (0 < s.length → a' = some ⟨b, off + 1, none⟩) → ∀ W, Below p w W → argRow W (.slice a' s.length c') s.length 1 (s.map bCell) := by
  obtain ⟨hl, a, cap, e, h1, h2, hc⟩ := h.row w (Below.refl _ _)
  obtain ⟨b, off, rfl, hb, hcs⟩ := hc (by simp)
  have h0 := hcs 0 (by simp)
  refine ⟨b, off, cap, e, h1, h2, h0, fun a' c' g1 g2 ha W hW => ?_⟩
  have hr := h.row W hW
  rw [e] at hr
  have := argRow_drop (k := 1) (a' := a') (c' := c') hr (by simp) ⟨by simp; exact g1, g2⟩ (fun b' off' e' hlt => by
    cases e'
    rw [ha (by simp at hlt; omega)])
  simpa using this
theorem JSt.back {w : World} {p : Nat} {sv : Value} {deep most : Nat} (h : JSt w p sv [] deep most) : ∃ a cap, sv = .slice a 0 cap := by
  obtain ⟨hl, a, cap, e, h1, h2, hc⟩ := h.row w (Below.refl _ _)
  exact ⟨a, cap, e⟩
/-- The state behind a byte that was taken. -/
theorem JSt.next {w w' : World} {p : Nat} {c : UInt8} {s : Bs} {deep most b off cap : Nat} (h : JSt w p (.slice (some ⟨b, off, none⟩) (s.length + 1) cap) (c :: s) deep most)
    (hd : ∀ a' c', s.length ≤ c' → c' ≤ cap → (0 < s.length → a' = some ⟨b, off + 1, none⟩) → ∀ W, Below p w W → argRow W (.slice a' s.length c') s.length 1 (s.map bCell))
    (a' : Option Addr) (c' : Nat) (h1 : s.length ≤ c') (h2 : c' ≤ cap) (ha : 0 < s.length → a' = some ⟨b, off + 1, none⟩) (e : w' = w.setCell ⟨p, 0, none⟩ (.slice a' s.length c')) :
    JS w' p s deep most ∧ w.grownBy w' (some p) := by
  subst e
  have hg := gset w p 0 (.slice a' s.length c')
  refine ⟨⟨_, ?_, fun W hW => hd a' c' h1 h2 ha W (Below.trans (grown_low hg (Nat.le_of_lt h.lt)) hW)⟩, hg⟩
  rw [heap_setCell_same _ _ _ _ _ _ h.own]
  rfl
theorem grown_trans {w w1 w2 : World} {row : Option Nat} (h1 : w.grownBy w1 row) (h2 : w1.grownBy w2 row) : w.grownBy w2 row := h1.trans h2
/-- What panic hands on. -/
def faultV : Value := .iface 66 (.agg #[])
def Fails (e : Ending) : Prop := e = .panicked [{ v := faultV, recovered := false }]
def Fell (p : Nat) (w : World) (e : Ending) (w' : World) : Prop := Fails e ∧ w.grownBy w' (some p)
theorem grown_refl (w : World) (row : Option Nat) : w.grownBy w row := ⟨rfl, rfl, rfl, Nat.le_refl _, fun _ _ _ => rfl⟩
theorem Fell.after {p : Nat} {w w1 w2 : World} {e : Ending} (h : Fell p w1 e w2) (hb : w.grownBy w1 (some p)) : Fell p w e w2 := ⟨h.1, hb.trans h.2⟩
set_option maxRecDepth 100000 in
theorem js_must (p : Nat) (w : World) : Calls Tryd.prog 24 #[.pointer (some ⟨p, 0, none⟩), .bool true] w fun e w' => e = .returned (.tuple #[]) ∧ w = w' := by
  go_enter Tryd.func24, Tryd.ntmps24
  go_wp2
  go_end0
  exact ⟨rfl, rfl⟩
set_option maxRecDepth 100000 in
theorem js_mustnt (p : Nat) (w : World) : Calls Tryd.prog 24 #[.pointer (some ⟨p, 0, none⟩), .bool false] w fun e w' => Fails e ∧ w = w' := by
  go_enter Tryd.func24, Tryd.ntmps24
  go_wp2
  exact ⟨rfl, rfl, rfl⟩
set_option maxRecDepth 100000 in
set_option maxHeartbeats 1000000 in
theorem js_next_no (p : Nat) (w : World) (s : Bs) (deep most : Nat) (r : UInt8) (h : JS w p s deep most) (hn : nextB r s = none) :
    Calls Tryd.prog 60 #[.pointer (some ⟨p, 0, none⟩), .int .u8 (r.toNat : Int)] w fun e w' => e = .returned (.bool false) ∧ w = w' := by
  obtain ⟨sv, h⟩ := h
  obtain ⟨⟨c0, -, -⟩, f0, -, -⟩ := h.cells
  cases s with
  | nil =>
    obtain ⟨a, cap, rfl⟩ := h.back
    clear h hn
    go_enter Tryd.func60, Tryd.ntmps60
    go_wp2
    go_ret
    exact ⟨rfl, rfl⟩
  | cons c s =>
    obtain ⟨b, off, cap, rfl, h1, h2, hc, -⟩ := h.front
    have hne : ((c.toNat : Int) != (r.toNat : Int)) = true := by
      simp only [nextB] at hn
      split at hn
      · cases hn
      · rename_i hh
        rw [bne_iff_ne]
        intro e
        exact hh (UInt8.toNat_inj.1 (by omega))
    have hl : ((s.length + 1 : Nat) : Int) ≠ 0 := by omega
    have hl2 : (((s.length : Int) + 1) == 0) = false := by simp; omega
    clear h hn
    generalize s.length = n at *
    generalize (c.toNat : Int) = c' at *
    generalize (r.toNat : Int) = r' at *
    go_enter Tryd.func60, Tryd.ntmps60
    go_wp2
    go_ret
    exact ⟨rfl, rfl⟩
set_option maxRecDepth 100000 in
set_option maxHeartbeats 1000000 in
theorem js_next_yes (p : Nat) (w : World) (s : Bs) (deep most : Nat) (c : UInt8) (h : JS w p (c :: s) deep most) :
    Calls Tryd.prog 60 #[.pointer (some ⟨p, 0, none⟩), .int .u8 (c.toNat : Int)] w fun e w' => e = .returned (.bool true) ∧ JS w' p s deep most ∧ w.grownBy w' (some p) := by
  obtain ⟨sv, h⟩ := h
  obtain ⟨⟨c0, -, -⟩, f0, -, -⟩ := h.cells
  obtain ⟨b, off, cap, rfl, h1, h2, hc, hd⟩ := h.front
  have hl2 : (((s.length : Int) + 1) == 0) = false := by simp; omega
  have HN := Lib.hid (fun a' c' g1 g2 g3 w' e => h.next (w' := w') hd a' c' g1 g2 g3 e)
  unfold maxLen at h2
  clear h hd
  obtain ⟨n, hn⟩ : ∃ n, s.length = n := ⟨_, rfl⟩
  rw [hn] at HN c0 h1 hl2
  clear hn
  generalize (c.toNat : Int) = x at *
  have hne : (x != x) = false := by simp
  by_cases hcap : cap = 1
  · subst hcap
    obtain rfl : n = 0 := by omega
    go_enter Tryd.func60, Tryd.ntmps60
    go_wp2
    go_ret
    exact ⟨rfl, HN.out _ 0 (by omega) (by omega) (by omega) _ rfl⟩
  · have hcap2 : 1 < cap := by omega
    go_enter Tryd.func60, Tryd.ntmps60
    go_wp2
    go_ret
    exact ⟨rfl, HN.out _ (cap - 1) (by omega) (by omega) (fun _ => rfl) _ rfl⟩
/-- The byte in front; 0 at the end. -/
def headN : Bs → Nat
  | [] => 0
  | c :: _ => c.toNat
set_option maxRecDepth 100000 in
set_option maxHeartbeats 1000000 in
theorem js_peek (p : Nat) (w : World) (s : Bs) (deep most : Nat) (h : JS w p s deep most) :
    Calls Tryd.prog 39 #[.pointer (some ⟨p, 0, none⟩)] w fun e w' => e = .returned (.int .u8 (headN s : Int)) ∧ w = w' := by
  obtain ⟨sv, h⟩ := h
  obtain ⟨⟨c0, -, -⟩, f0, -, -⟩ := h.cells
  cases s with
  | nil =>
    obtain ⟨a, cap, rfl⟩ := h.back
    clear h
    go_enter Tryd.func39, Tryd.ntmps39
    go_wp2
    go_ret
    exact ⟨rfl, rfl⟩
  | cons c s =>
    obtain ⟨b, off, cap, rfl, h1, h2, hc, -⟩ := h.front
    have hl2 : (((s.length : Int) + 1) == 0) = false := by simp; omega
    have e : (headN (c :: s) : Int) = (c.toNat : Int) := rfl
    rw [e]
    clear h e
    generalize s.length = n at *
    generalize (c.toNat : Int) = c' at *
    go_enter Tryd.func39, Tryd.ntmps39
    go_wp2
    go_ret
    exact ⟨rfl, rfl⟩
theorem isW_iff {c : UInt8} : isW c = true ↔ (c.toNat = 32 ∨ c.toNat = 9 ∨ c.toNat = 10 ∨ c.toNat = 13) := by
  have e : ∀ n : UInt8, (c == n) = decide (c.toNat = n.toNat) := fun n => by
    by_cases h : c = n
    · subst h; simp
    · have : c.toNat ≠ n.toNat := fun e => h (UInt8.toNat_inj.1 e)
      simp [h, this]
  unfold isW
  rw [e, e, e, e]
  simp only [Bool.or_eq_true, decide_eq_true_eq]
  constructor
  · rintro (((h | h) | h) | h)
    · exact .inl h
    · exact .inr (.inl h)
    · exact .inr (.inr (.inl h))
    · exact .inr (.inr (.inr h))
  · rintro (h | h | h | h)
    · exact .inl (.inl (.inl h))
    · exact .inl (.inl (.inr h))
    · exact .inl (.inr h)
    · exact .inr h
set_option maxRecDepth 100000 in
set_option maxHeartbeats 8000000 in
theorem js_space (p : Nat) (w : World) (s : Bs) (deep most : Nat) (h : JS w p s deep most) :
    Calls Tryd.prog 38 #[.pointer (some ⟨p, 0, none⟩)] w fun e w' => e = .returned (.tuple #[]) ∧ JS w' p (sp s) deep most ∧ w.grownBy w' (some p) := by
  have H := Lib.hid h
  obtain ⟨S, hS⟩ : ∃ S, sp s = S := ⟨_, rfl⟩
  rw [hS]
  have HS := Lib.hid hS
  clear h hS
  go_enter Tryd.func38, Tryd.ntmps38
  go_wp2
  go_loopg [] s.length (fun gk wr => ∃ s', JS wr p s' deep most ∧ sp s' = S ∧ s'.length ≤ gk ∧ w.grownBy wr (some p))
  case atStart => exact ⟨s, H.out, HS.out, Nat.le_refl _, grown_refl w _⟩
  case round =>
    obtain ⟨s', hj, hs, hgk, hg⟩ := hrel
    have HJS := Lib.hid hj
    have HG := Lib.hid hg
    obtain ⟨sv, hj⟩ := hj
    obtain ⟨⟨c0, -, -⟩, f0, -, -⟩ := hj.cells
    clear hg
    cases s' with
    | nil =>
      obtain ⟨a, cap, rfl⟩ := hj.back
      have hs' : S = [] := hs.symm
      subst hs'
      clear hj hs hgk HS
      go_wp2
      go_end0
      exact ⟨rfl, HJS.out, HG.out⟩
    | cons c r =>
      obtain ⟨b, off, cap, rfl, h1, h2, hc, hd⟩ := hj.front
      have HN := Lib.hid (fun a' c' g1 g2 g3 w' e => hj.next (w' := w') hd a' c' g1 g2 g3 e)
      have hlt : decide ((0 : Int) < (r.length : Int) + 1) = true := decide_eq_true (by omega)
      have HGK := Lib.hid hgk
      unfold maxLen at h2
      cases hw : isW c with
      | false =>
        have hn := isW_iff (c := c)
        rw [hw] at hn
        have hs' : S = c :: r := by rw [← hs, sp_no r hw]
        have HS' := Lib.hid hs'
        have hne : ¬ (c.toNat = 32 ∨ c.toNat = 9 ∨ c.toNat = 10 ∨ c.toNat = 13) := fun e => by cases hn.2 e
        have e1 : ((c.toNat : Int) == 32) = false := by simp; omega
        have e2 : ((c.toNat : Int) == 9) = false := by simp; omega
        have e3 : ((c.toNat : Int) == 10) = false := by simp; omega
        have e4 : ((c.toNat : Int) == 13) = false := by simp; omega
        clear hj hs hgk HS hd hn hw hs' hne HN
        generalize (c.toNat : Int) = x at *
        generalize hrl : r.length = n at *
        go_wp2
        go_end0
        exact ⟨rfl, HS'.out ▸ HJS.out, HG.out⟩
      | true =>
        have hs' : sp r = S := by rw [← hs, sp_yes r hw]
        have HS' := Lib.hid hs'
        have hx := isW_iff.1 hw
        obtain ⟨x, ex⟩ : ∃ x : Int, (c.toNat : Int) = x := ⟨_, rfl⟩
        rw [ex] at hc
        have hx' : x = 32 ∨ x = 9 ∨ x = 10 ∨ x = 13 := by omega
        clear hj hs hgk HS hd hx hw hs' ex
        obtain ⟨n, hn⟩ : ∃ n, r.length = n := ⟨_, rfl⟩
        rw [hn] at HN c0 h1 hlt
        have HL := Lib.hid hn
        clear hn
        obtain ⟨k, rfl⟩ : ∃ k, gk = k + 1 := ⟨gk - 1, by have := HGK.out; simp at this; omega⟩
        rcases hx' with rfl | rfl | rfl | rfl
        all_goals
          by_cases hcap : cap = 1
          · subst hcap
            obtain rfl : n = 0 := by omega
            go_wp2
            go_roundg k
            case measure => omega
            case rel =>
              obtain ⟨g1, g2⟩ := HN.out _ 0 (by omega) (by omega) (by omega) _ rfl
              exact ⟨r, g1, HS'.out, by have := HGK.out; simp at this; omega, HG.out.trans g2⟩
          · have hcap2 : 1 < cap := by omega
            go_wp2
            go_roundg k
            case measure => omega
            case rel =>
              obtain ⟨g1, g2⟩ := HN.out _ (cap - 1) (by omega) (by omega) (fun _ => rfl) _ rfl
              exact ⟨r, g1, HS'.out, by have := HGK.out; simp at this; omega, HG.out.trans g2⟩
end Go.Proofs.YtljnbbdhmlfhjaaDoor
