/-
  The program's JSON parser in memory: must, next, peek.
-/
import Derived.Test.YtljnbbdhmlfhjaaGreatDoorKitC
import Derived.Test.YtljnbbdhmlfhjaaGreatDoorJsnAll
import Derived.Lib.Hide
import Derived.Test.YtljnbbdhmlfhjaaGreatDoorProg
import Derived.WalkKit
import Derived.WalkLawsBesides
import Derived.WalkSpells
import Derived.Outline
import Derived.Recover
import Derived.Deep.LoopGhost
import Derived.Deep.RegionLaw
import Derived.Deep.QuietTactic
import Derived.BigQuiet
import Derived.Deep.CutRange
import Derived.Test.YtljnbbdhmlfhjaaGreatDoorKitB
import Derived.Lib.ConvBytes
import Derived.Lib.SmallJoins
import Derived.Lib.AtoiAllMem
import Derived.Laws.Strings3
import Derived.Laws.Closers25
import Derived.Laws.Closers25b
import Derived.BigCall
import Derived.BigGuard
namespace Go.Proofs.YtljnbbdhmlfhjaaGreatDoor
open Go.RowKit
def bCell (c : UInt8) : Value := .int .u8 (c.toNat : Int)
/-- The program's parser: the bytes to come, how deep it is and was. -/
def jpObj (sv : Value) (deep most : Nat) : Obj := .cells #[sv, .int .i64 (deep : Int), .int .i64 (most : Int)] 85 (0, 0)
structure JSt (w : World) (p : Nat) (sv : Value) (s : Bs) (deep most : Nat) : Prop where
  own : w.heap[p]? = some (jpObj sv deep most)
  row : ∀ W, Below p w W → argRow W sv s.length 1 (s.map bCell)
def JS (w : World) (p : Nat) (s : Bs) (deep most : Nat) : Prop := ∃ sv, JSt w p sv s deep most
theorem JSt.lt {w : World} {p : Nat} {sv : Value} {s : Bs} {deep most : Nat} (h : JSt w p sv s deep most) : p < w.heap.size := (Array.getElem?_eq_some_iff.1 h.own).1
theorem JS.lt {w : World} {p : Nat} {s : Bs} {deep most : Nat} (h : JS w p s deep most) : p < w.heap.size := by
  obtain ⟨sv, h⟩ := h
  exact h.lt
theorem JSt.cells {w : World} {p : Nat} {sv : Value} {s : Bs} {deep most : Nat} (h : JSt w p sv s deep most) :
    (w.cell? ⟨p, 0, none⟩ = some sv ∧ w.cell? ⟨p, 1, none⟩ = some (.int .i64 (deep : Int)) ∧ w.cell? ⟨p, 2, none⟩ = some (.int .i64 (most : Int))) ∧
    w.frozen? ⟨p, 0, none⟩ = false ∧ w.frozen? ⟨p, 1, none⟩ = false ∧ w.frozen? ⟨p, 2, none⟩ = false :=
  ⟨⟨by rw [Lib.cell_of_heap h.own]; rfl, by rw [Lib.cell_of_heap h.own]; rfl, by rw [Lib.cell_of_heap h.own]; rfl⟩, Lib.frozen_of_heap h.own 0, Lib.frozen_of_heap h.own 1, Lib.frozen_of_heap h.own 2⟩
theorem JSt.keptB {w w' : World} {p : Nat} {sv : Value} {s : Bs} {deep most : Nat} (h : JSt w p sv s deep most) (hb : Below w.heap.size w w') : JSt w' p sv s deep most :=
  ⟨by rw [hb.block p h.lt]; exact h.own, fun W hW => h.row W ((hb.mono (Nat.le_of_lt h.lt)).trans hW)⟩
theorem JS.keptB {w w' : World} {p : Nat} {s : Bs} {deep most : Nat} (h : JS w p s deep most) (hb : Below w.heap.size w w') : JS w' p s deep most := by
  obtain ⟨sv, h⟩ := h
  exact ⟨sv, h.keptB hb⟩
/-- Nothing turns but one row of the call's own, which is not the parser. -/
theorem JS.kept {w w' : World} {p : Nat} {s : Bs} {deep most : Nat} {row : Option Nat} (h : JS w p s deep most) (hg : w.grownBy w' row) (hr : ∀ k, row = some k → p < k) : JS w' p s deep most := by
  obtain ⟨sv, h⟩ := h
  refine ⟨sv, by rw [hg.block p h.lt (fun e => by have := hr p e.symm; omega)]; exact h.own, fun W hW => h.row W (Below.trans ⟨hg.os, hg.tape, hg.output, hg.size, fun k hk => hg.block k (Nat.lt_trans hk h.lt) fun e => by have := hr k e.symm; omega⟩ hW)⟩
theorem gset (w : World) (b j : Nat) (v : Value) : w.grownBy (w.setCell ⟨b, j, none⟩ v) (some b) :=
  ⟨rfl, rfl, rfl, by simp, fun k hk h => Below.heap_setCell _ _ _ _ (fun e => h (by rw [e]))⟩
theorem grown_low {w w' : World} {p : Nat} (hg : w.grownBy w' (some p)) (hp : p ≤ w.heap.size) : Below p w w' :=
  ⟨hg.os, hg.tape, hg.output, hg.size, fun k hk => hg.block k (Nat.lt_of_lt_of_le hk hp) fun e => by cases e; omega⟩
theorem JSt.set {w w' : World} {p : Nat} {sv sv' : Value} {s s' : Bs} {deep most deep' most' : Nat} (_h : JSt w p sv s deep most) (ho : w'.heap[p]? = some (jpObj sv' deep' most'))
    (hr : ∀ W, Below p w' W → argRow W sv' s'.length 1 (s'.map bCell)) : JSt w' p sv' s' deep' most' := ⟨ho, hr⟩
theorem JSt.front {w : World} {p : Nat} {sv : Value} {c : UInt8} {s : Bs} {deep most : Nat} (h : JSt w p sv (c :: s) deep most) :
    ∃ b off cap, sv = .slice (some ⟨b, off, none⟩) (s.length + 1) cap ∧ s.length + 1 ≤ cap ∧ cap ≤ maxLen ∧ w.cell? ⟨b, off, none⟩ = some (.int .u8 (c.toNat : Int)) ∧
      ∀ a' c', s.length ≤ c' → c' ≤ cap → (0 < s.length → a' = some ⟨b, off + 1, none⟩) → ∀ W, Below p w W → argRow W (.slice a' s.length c') s.length 1 (s.map bCell) := by
  obtain ⟨hl, a, cap, e, h1, h2, hc⟩ := h.row w (Below.refl _ _)
  obtain ⟨b, off, rfl, hb, hcs⟩ := hc (by simp)
  have h0 := hcs 0 (by simp)
  refine ⟨b, off, cap, e, h1, h2, h0, fun a' c' g1 g2 ha W hW => ?_⟩
  have hr := h.row W hW
  rw [e] at hr
  have := argRow_drop (k := 1) (a' := a') (c' := c') hr (by simp) ⟨by simp; exact g1, g2⟩ (fun b' off' e' hlt => by
    cases e'
    rw [ha (by simp at hlt; omega)])
  simpa using this
theorem JSt.back {w : World} {p : Nat} {sv : Value} {deep most : Nat} (h : JSt w p sv [] deep most) : ∃ a cap, sv = .slice a 0 cap := by
  obtain ⟨hl, a, cap, e, h1, h2, hc⟩ := h.row w (Below.refl _ _)
  exact ⟨a, cap, e⟩
/-- The state behind a byte that was taken. -/
theorem JSt.next {w w' : World} {p : Nat} {c : UInt8} {s : Bs} {deep most b off cap : Nat} (h : JSt w p (.slice (some ⟨b, off, none⟩) (s.length + 1) cap) (c :: s) deep most)
    (hd : ∀ a' c', s.length ≤ c' → c' ≤ cap → (0 < s.length → a' = some ⟨b, off + 1, none⟩) → ∀ W, Below p w W → argRow W (.slice a' s.length c') s.length 1 (s.map bCell))
    (a' : Option Addr) (c' : Nat) (h1 : s.length ≤ c') (h2 : c' ≤ cap) (ha : 0 < s.length → a' = some ⟨b, off + 1, none⟩) (e : w' = w.setCell ⟨p, 0, none⟩ (.slice a' s.length c')) :
    JS w' p s deep most ∧ w.grownBy w' (some p) := by
  subst e
  have hg := gset w p 0 (.slice a' s.length c')
  refine ⟨⟨_, ?_, fun W hW => hd a' c' h1 h2 ha W (Below.trans (grown_low hg (Nat.le_of_lt h.lt)) hW)⟩, hg⟩
  rw [heap_setCell_same _ _ _ _ _ _ h.own]
  rfl
/-- What panic hands on. -/
def faultV : Value := .iface 87 (.agg #[])
def Fails (e : Ending) : Prop := e = .panicked [{ v := faultV, recovered := false }]
def Fell (p : Nat) (w : World) (e : Ending) (w' : World) : Prop := Fails e ∧ w.grownBy w' (some p)
theorem grown_refl (w : World) (row : Option Nat) : w.grownBy w row := ⟨rfl, rfl, rfl, Nat.le_refl _, fun _ _ _ => rfl⟩
theorem Fell.after {p : Nat} {w w1 w2 : World} {e : Ending} (h : Fell p w1 e w2) (hb : w.grownBy w1 (some p)) : Fell p w e w2 := ⟨h.1, hb.trans h.2⟩
set_option maxRecDepth 100000 in
theorem js_must (p : Nat) (w : World) : Calls Tryz.prog 44 #[.pointer (some ⟨p, 0, none⟩), .bool true] w fun e w' => e = .returned (.tuple #[]) ∧ w = w' := by
  go_enter Tryz.func44, Tryz.ntmps44
  go_wp2
  go_end0
  exact ⟨rfl, rfl⟩
set_option maxRecDepth 100000 in
theorem js_mustnt (p : Nat) (w : World) : Calls Tryz.prog 44 #[.pointer (some ⟨p, 0, none⟩), .bool false] w fun e w' => Fails e ∧ w = w' := by
  go_enter Tryz.func44, Tryz.ntmps44
  go_wp2
  exact ⟨rfl, rfl, rfl⟩
set_option maxRecDepth 100000 in
set_option maxHeartbeats 1000000 in
theorem js_next_no (p : Nat) (w : World) (s : Bs) (deep most : Nat) (r : UInt8) (h : JS w p s deep most) (hn : nextB r s = none) :
    Calls Tryz.prog 109 #[.pointer (some ⟨p, 0, none⟩), .int .u8 (r.toNat : Int)] w fun e w' => e = .returned (.bool false) ∧ w = w' := by
  obtain ⟨sv, h⟩ := h
  obtain ⟨⟨c0, -, -⟩, f0, -, -⟩ := h.cells
  cases s with
  | nil =>
    obtain ⟨a, cap, rfl⟩ := h.back
    clear h hn
    go_enter Tryz.func109, Tryz.ntmps109
    go_wp2
    go_ret
    exact ⟨rfl, rfl⟩
  | cons c s =>
    obtain ⟨b, off, cap, rfl, h1, h2, hc, -⟩ := h.front
    have hne : ((c.toNat : Int) != (r.toNat : Int)) = true := by
      simp only [nextB] at hn
      split at hn
      · cases hn
      · rename_i hh
        rw [bne_iff_ne]
        intro e
        exact hh (UInt8.toNat_inj.1 (by omega))
    have hl : ((s.length + 1 : Nat) : Int) ≠ 0 := by omega
    have hl2 : (((s.length : Int) + 1) == 0) = false := by simp; omega
    clear h hn
    generalize s.length = n at *
    generalize (c.toNat : Int) = c' at *
    generalize (r.toNat : Int) = r' at *
    go_enter Tryz.func109, Tryz.ntmps109
    go_wp2
    go_ret
    exact ⟨rfl, rfl⟩
set_option maxRecDepth 100000 in
set_option maxHeartbeats 1000000 in
theorem js_next_yes (p : Nat) (w : World) (s : Bs) (deep most : Nat) (c : UInt8) (h : JS w p (c :: s) deep most) :
    Calls Tryz.prog 109 #[.pointer (some ⟨p, 0, none⟩), .int .u8 (c.toNat : Int)] w fun e w' => e = .returned (.bool true) ∧ JS w' p s deep most ∧ w.grownBy w' (some p) := by
  obtain ⟨sv, h⟩ := h
  obtain ⟨⟨c0, -, -⟩, f0, -, -⟩ := h.cells
  obtain ⟨b, off, cap, rfl, h1, h2, hc, hd⟩ := h.front
  have hl2 : (((s.length : Int) + 1) == 0) = false := by simp; omega
  have HN := Lib.hid (fun a' c' g1 g2 g3 w' e => h.next (w' := w') hd a' c' g1 g2 g3 e)
  unfold maxLen at h2
  clear h hd
  obtain ⟨n, hn⟩ : ∃ n, s.length = n := ⟨_, rfl⟩
  rw [hn] at HN c0 h1 hl2
  clear hn
  generalize (c.toNat : Int) = x at *
  have hne : (x != x) = false := by simp
  by_cases hcap : cap = 1
  · subst hcap
    obtain rfl : n = 0 := by omega
    go_enter Tryz.func109, Tryz.ntmps109
    go_wp2
    go_ret
    exact ⟨rfl, HN.out _ 0 (by omega) (by omega) (by omega) _ rfl⟩
  · have hcap2 : 1 < cap := by omega
    go_enter Tryz.func109, Tryz.ntmps109
    go_wp2
    go_ret
    exact ⟨rfl, HN.out _ (cap - 1) (by omega) (by omega) (fun _ => rfl) _ rfl⟩
/-- The byte in front; 0 at the end. -/
def headN : Bs → Nat
  | [] => 0
  | c :: _ => c.toNat
set_option maxRecDepth 100000 in
set_option maxHeartbeats 1000000 in
theorem js_peek (p : Nat) (w : World) (s : Bs) (deep most : Nat) (h : JS w p s deep most) :
    Calls Tryz.prog 76 #[.pointer (some ⟨p, 0, none⟩)] w fun e w' => e = .returned (.int .u8 (headN s : Int)) ∧ w = w' := by
  obtain ⟨sv, h⟩ := h
  obtain ⟨⟨c0, -, -⟩, f0, -, -⟩ := h.cells
  cases s with
  | nil =>
    obtain ⟨a, cap, rfl⟩ := h.back
    clear h
    go_enter Tryz.func76, Tryz.ntmps76
    go_wp2
    go_ret
    exact ⟨rfl, rfl⟩
  | cons c s =>
    obtain ⟨b, off, cap, rfl, h1, h2, hc, -⟩ := h.front
    have hl2 : (((s.length : Int) + 1) == 0) = false := by simp; omega
    have e : (headN (c :: s) : Int) = (c.toNat : Int) := rfl
    rw [e]
    clear h e
    generalize s.length = n at *
    generalize (c.toNat : Int) = c' at *
    go_enter Tryz.func76, Tryz.ntmps76
    go_wp2
    go_ret
    exact ⟨rfl, rfl⟩
theorem isW_iff {c : UInt8} : isW c = true ↔ (c.toNat = 32 ∨ c.toNat = 9 ∨ c.toNat = 10 ∨ c.toNat = 13) := by
  have e : ∀ n : UInt8, (c == n) = decide (c.toNat = n.toNat) := fun n => by
    by_cases h : c = n
    · subst h; simp
    · have : c.toNat ≠ n.toNat := fun e => h (UInt8.toNat_inj.1 e)
      simp [h, this]
  unfold isW
  rw [e, e, e, e]
  simp only [Bool.or_eq_true, decide_eq_true_eq]
  constructor
  · rintro (((h | h) | h) | h)
    · exact .inl h
    · exact .inr (.inl h)
    · exact .inr (.inr (.inl h))
    · exact .inr (.inr (.inr h))
  · rintro (h | h | h | h)
    · exact .inl (.inl (.inl h))
    · exact .inl (.inl (.inr h))
    · exact .inl (.inr h)
    · exact .inr h
set_option maxRecDepth 100000 in
set_option maxHeartbeats 8000000 in
theorem js_space (p : Nat) (w : World) (s : Bs) (deep most : Nat) (h : JS w p s deep most) :
    Calls Tryz.prog 75 #[.pointer (some ⟨p, 0, none⟩)] w fun e w' => e = .returned (.tuple #[]) ∧ JS w' p (sp s) deep most ∧ w.grownBy w' (some p) := by
  have H := Lib.hid h
  obtain ⟨S, hS⟩ : ∃ S, sp s = S := ⟨_, rfl⟩
  rw [hS]
  have HS := Lib.hid hS
  clear h hS
  go_enter Tryz.func75, Tryz.ntmps75
  go_wp2
  go_loopg [] s.length (fun gk wr => ∃ s', JS wr p s' deep most ∧ sp s' = S ∧ s'.length ≤ gk ∧ w.grownBy wr (some p))
  case atStart => exact ⟨s, H.out, HS.out, Nat.le_refl _, grown_refl w _⟩
  case round =>
    obtain ⟨s', hj, hs, hgk, hg⟩ := hrel
    have HJS := Lib.hid hj
    have HG := Lib.hid hg
    obtain ⟨sv, hj⟩ := hj
    obtain ⟨⟨c0, -, -⟩, f0, -, -⟩ := hj.cells
    clear hg
    cases s' with
    | nil =>
      obtain ⟨a, cap, rfl⟩ := hj.back
      have hs' : S = [] := hs.symm
      subst hs'
      clear hj hs hgk HS
      go_wp2
      go_end0
      exact ⟨rfl, HJS.out, HG.out⟩
    | cons c r =>
      obtain ⟨b, off, cap, rfl, h1, h2, hc, hd⟩ := hj.front
      have HN := Lib.hid (fun a' c' g1 g2 g3 w' e => hj.next (w' := w') hd a' c' g1 g2 g3 e)
      have hlt : decide ((0 : Int) < (r.length : Int) + 1) = true := decide_eq_true (by omega)
      have HGK := Lib.hid hgk
      unfold maxLen at h2
      cases hw : isW c with
      | false =>
        have hn := isW_iff (c := c)
        rw [hw] at hn
        have hs' : S = c :: r := by rw [← hs, sp_no r hw]
        have HS' := Lib.hid hs'
        have hne : ¬ (c.toNat = 32 ∨ c.toNat = 9 ∨ c.toNat = 10 ∨ c.toNat = 13) := fun e => by cases hn.2 e
        have e1 : ((c.toNat : Int) == 32) = false := by simp; omega
        have e2 : ((c.toNat : Int) == 9) = false := by simp; omega
        have e3 : ((c.toNat : Int) == 10) = false := by simp; omega
        have e4 : ((c.toNat : Int) == 13) = false := by simp; omega
        clear hj hs hgk HS hd hn hw hs' hne HN
        generalize (c.toNat : Int) = x at *
        generalize hrl : r.length = n at *
        go_wp2
        go_end0
        exact ⟨rfl, HS'.out ▸ HJS.out, HG.out⟩
      | true =>
        have hs' : sp r = S := by rw [← hs, sp_yes r hw]
        have HS' := Lib.hid hs'
        have hx := isW_iff.1 hw
        obtain ⟨x, ex⟩ : ∃ x : Int, (c.toNat : Int) = x := ⟨_, rfl⟩
        rw [ex] at hc
        have hx' : x = 32 ∨ x = 9 ∨ x = 10 ∨ x = 13 := by omega
        clear hj hs hgk HS hd hx hw hs' ex
        obtain ⟨n, hn⟩ : ∃ n, r.length = n := ⟨_, rfl⟩
        rw [hn] at HN c0 h1 hlt
        have HL := Lib.hid hn
        clear hn
        obtain ⟨k, rfl⟩ : ∃ k, gk = k + 1 := ⟨gk - 1, by have := HGK.out; simp at this; omega⟩
        rcases hx' with rfl | rfl | rfl | rfl
        all_goals
          by_cases hcap : cap = 1
          · subst hcap
            obtain rfl : n = 0 := by omega
            go_wp2
            go_roundg k
            case measure => omega
            case rel =>
              obtain ⟨g1, g2⟩ := HN.out _ 0 (by omega) (by omega) (by omega) _ rfl
              exact ⟨r, g1, HS'.out, by have := HGK.out; simp at this; omega, HG.out.trans g2⟩
          · have hcap2 : 1 < cap := by omega
            go_wp2
            go_roundg k
            case measure => omega
            case rel =>
              obtain ⟨g1, g2⟩ := HN.out _ (cap - 1) (by omega) (by omega) (fun _ => rfl) _ rfl
              exact ⟨r, g1, HS'.out, by have := HGK.out; simp at this; omega, HG.out.trans g2⟩
end Go.Proofs.YtljnbbdhmlfhjaaGreatDoor
/-
  The program's JSON parser: a word.
-/
namespace Go.Proofs.YtljnbbdhmlfhjaaGreatDoor
open Go.RowKit
theorem JSt.shape {w : World} {p : Nat} {sv : Value} {s : Bs} {deep most : Nat} (h : JSt w p sv s deep most) : ∃ a cap, sv = .slice a s.length cap ∧ s.length ≤ cap ∧ cap ≤ maxLen := by
  obtain ⟨hl, a, cap, e, h1, h2, hc⟩ := h.row w (Below.refl _ _)
  exact ⟨a, cap, e, h1, h2⟩
/-- The bytes at hand, and what is behind k of them. -/
theorem JSt.frontK {w : World} {p : Nat} {sv : Value} {s : Bs} {deep most : Nat} (h : JSt w p sv s deep most) (k : Nat) (hk : k ≤ s.length) (hs : 0 < s.length) :
    ∃ b off cap, sv = .slice (some ⟨b, off, none⟩) s.length cap ∧ s.length ≤ cap ∧ cap ≤ maxLen ∧ (∀ j (hj : j < s.length), w.cell? ⟨b, off + j, none⟩ = some (.int .u8 (s[j].toNat : Int))) ∧
      ∀ a' c', s.length - k ≤ c' → c' ≤ cap → (k < s.length → a' = some ⟨b, off + k, none⟩) → ∀ W, Below p w W → argRow W (.slice a' (s.length - k) c') (s.drop k).length 1 ((s.drop k).map bCell) := by
  obtain ⟨hl, a, cap, e, h1, h2, hc⟩ := h.row w (Below.refl _ _)
  obtain ⟨b, off, rfl, hb, hcs⟩ := hc (by simpa using hs)
  refine ⟨b, off, cap, e, h1, h2, fun j hj => ?_, fun a' c' g1 g2 ha W hW => ?_⟩
  · have := hcs j (by simpa using hj)
    rw [this, List.getElem_map]; rfl
  · have hr := h.row W hW
    rw [e] at hr
    have := argRow_drop (k := k) (a' := a') (c' := c') hr hk ⟨g1, g2⟩ (fun b' off' e' hlt => by
      cases e'
      rw [ha hlt, Nat.mul_one])
    simpa using this
theorem JSt.nextK {w w' : World} {p : Nat} {sv sv' : Value} {s : Bs} {deep most k : Nat} (h : JSt w p sv s deep most)
    (hd : ∀ W, Below p w W → argRow W sv' (s.drop k).length 1 ((s.drop k).map bCell)) (e : w' = w.setCell ⟨p, 0, none⟩ sv') : JS w' p (s.drop k) deep most ∧ w.grownBy w' (some p) := by
  subst e
  have hg := gset w p 0 sv'
  refine ⟨⟨_, ?_, fun W hW => hd W (Below.trans (grown_low hg (Nat.le_of_lt h.lt)) hW)⟩, hg⟩
  rw [heap_setCell_same _ _ _ _ _ _ h.own]
  rfl
theorem word_if : ∀ (wl : Bs) (j : J) (s : Bs), wordP wl j s = if wl.length ≤ s.length ∧ s.take wl.length = wl then some (j, s.drop wl.length) else none
  | [], j, s => by simp [wordP]
  | c :: wl, j, [] => by simp [wordP, nextB]
  | c :: wl, j, d :: s => by
    simp only [wordP, nextB, List.length_cons, List.take_succ_cons, List.drop_succ_cons]
    by_cases h : d = c
    · subst h
      rw [if_pos rfl]
      simp only []
      rw [word_if wl j s]
      simp
    · rw [if_neg h]
      simp [h]
def Word (p : Nat) (w : World) (v : Value) (deep most : Nat) : Option (J × Bs) → Ending → World → Prop
  | none, e, w' => Fell p w e w'
  | some (_, r), e, w' => e = .returned v ∧ JS w' p r deep most ∧ w.grownBy w' (some p)
set_option maxRecDepth 100000 in
set_option maxHeartbeats 8000000 in
theorem js_word (p : Nat) (w : World) (s : Bs) (deep most : Nat) (t : ByteArray) (v : Value) (j : J) (ht : 0 < t.size) (ht2 : t.size ≤ 1000) (h : JS w p s deep most) :
    Calls Tryz.prog 77 #[.pointer (some ⟨p, 0, none⟩), .string t, v] w (Word p w v deep most (wordP t.data.toList j s)) := by
  have hwl : t.data.toList.length = t.size := by simp [ByteArray.size_data]
  rw [word_if, hwl]
  obtain ⟨sv, h⟩ := h
  have HF := Lib.hid (grown_refl w (some p))
  obtain ⟨⟨c0, -, -⟩, f0, -, -⟩ := h.cells
  by_cases h1 : t.size ≤ s.length
  · obtain ⟨b, off, cap, rfl, g1, g2, hc, hd⟩ := h.frontK t.size h1 (by omega)
    have hcv : (convert 22 9 (.slice (some ⟨b, off, none⟩) t.size cap)).run Tryz.prog w = .ok (.string ⟨(s.take t.size).toArray⟩) w := by
      have := conv_cells (P := Tryz.prog) (w := w) (cap := cap) (src := 22) (dst := 9) (g := b) (off := off) (l := s.take t.size) Tryz.underlying22 Tryz.underlying5 Tryz.underlying9 (fun j hj => by
        rw [hc j (by simp only [List.length_take] at hj; omega)]; simp)
      rwa [List.length_take, Nat.min_eq_left h1] at this
    have d1 : decide (t.size ≤ s.length) = true := decide_eq_true h1
    by_cases h2 : s.take t.size = t.data.toList
    · rw [if_pos ⟨h1, h2⟩]
      have HN := Lib.hid (fun sv' hh w' e => JSt.nextK (w' := w') (sv' := sv') (k := t.size) h hh e)
      have HD := Lib.hid hd
      rw [h2, show (⟨t.data.toList.toArray⟩ : ByteArray) = t from by simp] at hcv
      have e1 : (t.toList == t.toList) = true := by simp
      clear h h2 hc hd hwl
      unfold maxLen at g2
      obtain ⟨n, hn⟩ : ∃ n, s.length = n := ⟨_, rfl⟩
      rw [hn] at HD c0 h1 d1 g1
      clear hn
      by_cases hcap : cap = t.size
      · subst hcap
        obtain rfl : n = t.size := by omega
        go_enter Tryz.func77, Tryz.ntmps77
        go_wp2_with (first | (go_at_call 44; refine (js_must p _).mono ?_; rintro e w3 ⟨rfl, rfl⟩))
        go_ret
        have HD' := HD.out
        rw [Nat.sub_self] at HD'
        exact ⟨rfl, HN.out _ (HD' _ 0 (by omega) (by omega) (by omega)) _ rfl⟩
      · have hcap2 : t.size < cap := by omega
        go_enter Tryz.func77, Tryz.ntmps77
        go_wp2_with (first | (go_at_call 44; refine (js_must p _).mono ?_; rintro e w3 ⟨rfl, rfl⟩))
        go_ret
        exact ⟨rfl, HN.out _ (HD.out _ (cap - t.size) (by omega) (by omega) (fun _ => rfl)) _ rfl⟩
    · rw [if_neg (fun hh => h2 hh.2)]
      show Calls _ _ _ _ (Fell p w)
      obtain ⟨t', ht'⟩ : ∃ t' : ByteArray, (⟨(s.take t.size).toArray⟩ : ByteArray) = t' := ⟨_, rfl⟩
      have hne : t' ≠ t := fun e => h2 (by have := congrArg (fun x : ByteArray => x.data.toList) (ht'.trans e); exact this)
      rw [ht'] at hcv
      have e1 : (t'.toList == t.toList) = false := by
        rw [beq_eq_false_iff_ne, ByteArray.toList_eq, ByteArray.toList_eq]
        exact fun e => hne (ByteArray.ext (Array.ext' e))
      clear h h2 hc hd hwl ht' hne
      unfold maxLen at g2
      generalize s.length = n at *
      generalize hm : t.size = m at *
      go_enter Tryz.func77, Tryz.ntmps77
      go_wp2_with (first | (go_at_call 44; refine (js_mustnt p _).mono ?_; rintro e w3 ⟨rfl, rfl⟩))
      exact ⟨rfl, rfl, HF.out⟩
  · obtain ⟨a, cap, rfl, g1, g2⟩ := h.shape
    rw [if_neg (fun hh => h1 hh.1)]
    have d1 : decide (t.size ≤ s.length) = false := decide_eq_false h1
    show Calls _ _ _ _ (Fell p w)
    clear h h1 hwl
    generalize s.length = n at *
    go_enter Tryz.func77, Tryz.ntmps77
    go_wp2_with (first | (go_at_call 44; refine (js_mustnt p _).mono ?_; rintro e w3 ⟨rfl, rfl⟩))
    exact ⟨rfl, rfl, HF.out⟩
end Go.Proofs.YtljnbbdhmlfhjaaGreatDoor
/-
  The program's JSON parser: digits, is.
-/
namespace Go.Proofs.YtljnbbdhmlfhjaaGreatDoor
open Go.RowKit
theorem digs_drop {b : Bs} {k : Nat} (h : k < b.length) : digs (b.drop k) = if isD b[k] then digs (b.drop (k + 1)) + 1 else 0 := by
  rw [List.drop_eq_getElem_cons h]
  rfl
theorem isD_int {c : UInt8} : isD c = (decide ((48 : Int) ≤ (c.toNat : Int)) && decide ((c.toNat : Int) ≤ 57)) := by
  unfold isD
  rw [Bool.eq_iff_iff]
  simp only [Bool.and_eq_true, decide_eq_true_eq]
  omega
set_option maxRecDepth 100000 in
set_option maxHeartbeats 4000000 in
theorem js_digits (v : Value) (b : Bs) (a : Nat) (w : World) (hb : argRow w v b.length 1 (b.map bCell)) (hl : b.length ≤ 1099511627776) (ha : a ≤ b.length) :
    Calls Tryz.prog 82 #[v, .int .i64 (a : Int)] w fun e w' => e = .returned (.int .i64 ((a + digs (b.drop a) : Nat) : Int)) ∧ w = w' := by
  obtain ⟨R, hR⟩ : ∃ R, a + digs (b.drop a) = R := ⟨_, rfl⟩
  rw [hR]
  have HR := Lib.hid hR
  clear hR
  obtain ⟨_, aa, ca, rfl, hca, hca2, hcs⟩ := hb
  go_enter Tryz.func82, Tryz.ntmps82
  go_wp2
  go_loop [1] (fun kv => ∃ k : Nat, kv = .int .i64 k ∧ k ≤ b.length ∧ k + digs (b.drop k) = R) (fun kv => b.length - (intOf kv).toNat)
  case atStart => exact ⟨a, rfl, ha, HR.out⟩
  case round =>
    obtain ⟨k, rfl, hk, hr⟩ := hrel
    by_cases hlt : k < b.length
    · obtain ⟨b0, off, rfl, hb0, hcell⟩ := hcs (by first | omega | (simp; omega))
      have g0 : w.cell? ⟨b0, off + k, none⟩ = some (.int .u8 (b[k].toNat : Int)) := by
        have := hcell k (by simpa using hlt)
        rw [this, List.getElem_map]; rfl
      rw [digs_drop hlt, isD_int] at hr
      clear hcs hcell
      generalize hc : (b[k].toNat : Int) = c at *
      cases h1 : decide ((48 : Int) ≤ c) with
      | false =>
        rw [h1] at hr
        have hr' : k = R := by simpa using hr
        subst hr'
        clear hr
        go_wp2
        go_ret
        exact ⟨rfl, rfl⟩
      | true =>
        cases h2 : decide (c ≤ 57) with
        | false =>
          rw [h1, h2] at hr
          have hr' : k = R := by simpa using hr
          subst hr'
          clear hr
          go_wp2
          go_ret
          exact ⟨rfl, rfl⟩
        | true =>
          rw [h1, h2] at hr
          have hr' : k + 1 + digs (b.drop (k + 1)) = R := by simp at hr; omega
          have HR' := Lib.hid hr'
          clear hr hr'
          go_wp2
          go_round
          case rel => exact ⟨k + 1, by go_num, by omega, HR'.out⟩
          case measure => simp [intOf]; omega
    · have he : b.drop k = [] := List.drop_of_length_le (by omega)
      rw [he] at hr
      have hr' : k = R := hr
      subst hr'
      clear hr he
      have hd : decide (k < b.length) = false := decide_eq_false hlt
      go_wp2
      go_ret
      exact ⟨rfl, rfl⟩
/-- Does one of the bytes stand there? -/
def isAt (b : Bs) (a : Nat) (set : Bs) : Bool := match b.drop a with
  | [] => false
  | c :: _ => decide (c ∈ set)
theorem drop_byteJ (s : ByteArray) (i : Nat) (h : i < s.size) : s.data.toList.drop i = s[i] :: s.data.toList.drop (i + 1) := by
  have hl : i < s.data.toList.length := by simpa [ByteArray.size_data] using h
  rw [List.drop_eq_getElem_cons hl]
  rfl
set_option maxRecDepth 100000 in
set_option maxHeartbeats 4000000 in
theorem js_is (v : Value) (b : Bs) (a : Nat) (t : ByteArray) (w : World) (hb : argRow w v b.length 1 (b.map bCell)) (hl : b.length ≤ 1099511627776) (ha : a ≤ b.length) (ht : t.size ≤ 1000) :
    Calls Tryz.prog 81 #[v, .int .i64 (a : Int), .string t] w fun e w' => e = .returned (.bool (isAt b a t.data.toList)) ∧ Below w.heap.size w w' := by
  obtain ⟨_, aa, ca, rfl, hca, hca2, hcs⟩ := hb
  by_cases hlt : a < b.length
  · have hR : isAt b a t.data.toList = decide (b[a] ∈ t.data.toList.drop 0) := by
      unfold isAt
      rw [List.drop_eq_getElem_cons hlt]
      rfl
    obtain ⟨b0, off, rfl, hb0, hcell⟩ := hcs (by first | omega | (simp; omega))
    have g0 : w.cell? ⟨b0, off + a, none⟩ = some (.int .u8 (b[a].toNat : Int)) := by
      have := hcell a (by simpa using hlt)
      rw [this, List.getElem_map]; rfl
    rw [hR]
    clear hR hcs hcell
    obtain ⟨c, hc⟩ : ∃ c, b[a] = c := ⟨_, rfl⟩
    rw [hc] at g0 ⊢
    clear hc
    obtain ⟨R, hR⟩ : ∃ R, decide (c ∈ t.data.toList.drop 0) = R := ⟨_, rfl⟩
    rw [hR]
    have HR := Lib.hid hR
    clear hR
    go_enter Tryz.func81, Tryz.ntmps81
    go_wp2
    go_loopw [7, 10] (fun _ iv wr => ∃ k q : Nat, iv = .int .i64 k ∧ k ≤ t.size ∧ decide (c ∈ t.data.toList.drop k) = R ∧ wr = w.drewN q) (fun _ iv _ => t.size - (intOf iv).toNat)
    case atStart => exact ⟨0, 0, rfl, by omega, HR.out, rfl⟩
    case round =>
      obtain ⟨k, q, rfl, hk, hr, rfl⟩ := hrel
      by_cases hkt : k < t.size
      · rw [drop_byteJ t k hkt] at hr
        have i1 : (0 : Int) ≤ (k : Int) := by omega
        have i2 : (k : Int) < (t.size : Int) := by omega
        have j1 : (0 : Int) ≤ (a : Int) := by omega
        have j2 : (a : Int) < (b.length : Int) := by omega
        have d1 : decide ((a : Int) < (b.length : Int)) = true := decide_eq_true j2
        by_cases hx : c = t[k]
        · have hr' : R = true := by rw [← hr]; simp [hx]
          subst hr'
          have he : (((c.toNat : Nat) : Int) == ((t[k].toNat : Nat) : Int)) = true := by rw [hx]; simp
          clear hr HR
          go_upto_region 4 with fail
          go_quiet (fail)
          go_wp2
          go_ret
          exact ⟨rfl, below_drewN (below_drewN (Below.refl _ _) _) _⟩
        · have hr' : decide (c ∈ t.data.toList.drop (k + 1)) = R := by rw [← hr]; simp [hx]
          have HR' := Lib.hid hr'
          have he : (((c.toNat : Nat) : Int) == ((t[k].toNat : Nat) : Int)) = false := by
            rw [beq_eq_false_iff_ne]
            exact fun e => hx (UInt8.toNat_inj.1 (by omega))
          clear hr HR hr' hx
          go_upto_region 4 with fail
          go_quiet (fail)
          go_wp2
          go_roundw
          case rel => exact ⟨k + 1, _, by go_num, by omega, HR'.out, rfl⟩
          case measure => simp [intOf]; omega
      · have he : t.data.toList.drop k = [] := List.drop_of_length_le (by simp [ByteArray.size_data]; omega)
        rw [he] at hr
        have hr' : R = false := by rw [← hr]; simp
        subst hr'
        clear hr he HR
        have hd : decide (k < t.size) = false := decide_eq_false hkt
        go_wp2
        go_ret
        exact ⟨rfl, below_drewN (Below.refl _ _) _⟩
  · have hR : isAt b a t.data.toList = false := by
      unfold isAt
      rw [List.drop_of_length_le (by omega)]
    rw [hR]
    have d1 : decide ((a : Int) < (b.length : Int)) = false := decide_eq_false (by omega)
    have d2 : decide (a < b.length) = false := decide_eq_false hlt
    clear hR hcs
    go_enter Tryz.func81, Tryz.ntmps81
    go_wp2
    go_loopw [7, 10] (fun _ iv wr => ∃ k q : Nat, iv = .int .i64 k ∧ k ≤ t.size ∧ wr = w.drewN q) (fun _ iv _ => t.size - (intOf iv).toNat)
    case atStart => exact ⟨0, 0, rfl, by omega, rfl⟩
    case round =>
      obtain ⟨k, q, rfl, hk, rfl⟩ := hrel
      by_cases hkt : k < t.size
      · go_upto_region 4 with fail
        go_quiet (fail)
        go_wp2
        go_roundw
        case rel => exact ⟨k + 1, _, by go_num, by omega, rfl⟩
        case measure => simp [intOf]; omega
      · have hd : decide (k < t.size) = false := decide_eq_false hkt
        go_wp2
        go_ret
        exact ⟨rfl, below_drewN (Below.refl _ _) _⟩
end Go.Proofs.YtljnbbdhmlfhjaaGreatDoor
/-
  The program's JSON parser: number.
-/
namespace Go.Proofs.YtljnbbdhmlfhjaaGreatDoor
open Go.RowKit
theorem isAt_one (b : Bs) (a : Nat) (c : UInt8) : isAt b a [c] = decide ((b.drop a).head? = some c) := by
  unfold isAt
  cases b.drop a with
  | nil => rfl
  | cons d s => simp
theorem isAt_two (b : Bs) (a : Nat) (c d : UInt8) : isAt b a [c, d] = decide ((b.drop a).head? = some c ∨ (b.drop a).head? = some d) := by
  unfold isAt
  cases b.drop a with
  | nil => rfl
  | cons d s => simp
theorem minus_at (b : Bs) : isAt b 0 [45] = decide (minusN b = 1) := by
  rw [isAt_one, List.drop_zero]
  unfold minusN
  split <;> simp [*]
theorem minus_two (b : Bs) : minusN b = 0 ∨ minusN b = 1 := by
  unfold minusN
  split
  · exact .inr rfl
  · exact .inl rfl
theorem sign_two (b : Bs) : signN b = 0 ∨ signN b = 1 := by
  unfold signN
  split
  · exact .inr rfl
  · exact .inl rfl
theorem sign_at (b : Bs) (a : Nat) : isAt b a [43, 45] = decide (signN (b.drop a) = 1) := by
  rw [isAt_two]
  unfold signN
  split
  · rename_i h; rw [decide_eq_true h]; rfl
  · rename_i h; rw [decide_eq_false h]; rfl
theorem sign_le (s : Bs) : signN s ≤ s.length := by
  unfold signN
  split
  · rename_i hh
    cases s with
    | nil => simp at hh
    | cons => simp
  · omega
theorem argRow_low {w w' : World} {v : Value} {b : Bs} (h : argRow w v b.length 1 (b.map bCell)) (hb : Below w.heap.size w w') : argRow w' v b.length 1 (b.map bCell) := argRow_below h hb
set_option maxRecDepth 100000 in
set_option maxHeartbeats 8000000 in
theorem js_number (v : Value) (b : Bs) (w : World) (hb : argRow w v b.length 1 (b.map bCell)) (hl : b.length ≤ 1099511627776) :
    Calls Tryz.prog 46 #[v] w fun e w' => e = .returned (.int .i64 (numN b : Int)) ∧ Below w.heap.size w w' := by
  obtain ⟨m, hm⟩ : ∃ m, minusN b = m := ⟨_, rfl⟩
  have hml := minus_le b
  have hm2 := minus_two b
  have ham := minus_at b
  rw [hm] at hml hm2 ham
  obtain ⟨n, hn⟩ : ∃ n, digs (b.drop m) = n := ⟨_, rfl⟩
  have hnl := digs_le (b.drop m)
  rw [hn, List.length_drop] at hnl
  obtain ⟨R, hR⟩ : ∃ R, numN b = R := ⟨_, rfl⟩
  have hR' := hR
  rw [hR]
  unfold numN at hR'
  rw [hm, hn] at hR'
  have HRR := Lib.hid hR'
  have HB := Lib.hid (fun (W : World) (h : Below w.heap.size w W) => argRow_low hb h)
  have C0 := js_is v b 0 ⟨#[45]⟩ w hb hl (Nat.zero_le _) (by decide)
  have CI := Lib.hid (fun (W : World) (h : Below w.heap.size w W) (a : Nat) (ha : a ≤ b.length) (t : ByteArray) (ht : t.size ≤ 1000) => js_is v b a t W (argRow_low hb h) hl ha ht)
  have CD := Lib.hid (fun (W : World) (h : Below w.heap.size w W) (a : Nat) (ha : a ≤ b.length) => js_digits v b a W (argRow_low hb h) hl ha)
  obtain ⟨_, aa, ca, rfl, hca, hca2, hcs⟩ := hb
  have HCS := Lib.hid hcs
  rw [show (⟨#[45]⟩ : ByteArray).data.toList = [45] from rfl, ham] at C0
  clear hR hR' hm hcs
  go_enter Tryz.func46, Tryz.ntmps46
  go_upto_if 7 with (go_at_call 81; refine C0.mono ?_; rintro e w2 ⟨rfl, hb2⟩)
  go_cut [3] from 7 to 9 (fun av wx => av = .int .i64 (m : Int) ∧ Below w.heap.size w wx)
  case first =>
    clear HRR CI CD HB HCS hca hca2 hnl hml hn
    rcases hm2 with rfl | rfl
    · go_wp2_with fail
      go_meet
      exact ⟨rfl, hb2⟩
    · go_wp2_with fail
      go_meet
      exact ⟨rfl, hb2⟩
  case rest =>
    obtain ⟨rfl, hb1⟩ := hcut
    obtain ⟨w1, hw1⟩ : ∃ w1 : World, w1 = wc := ⟨_, rfl⟩
    subst hw1
    have CD1 := CD.out w1 hb1 m hml
    rw [hn] at CD1
    obtain ⟨E, hE⟩ : ∃ E, m + n = E := ⟨_, rfl⟩
    have hrr := HRR.out
    rw [hE] at CD1 hrr
    clear C0 hm2 ham hb2
    by_cases hA : n = 0 ∨ ((b.drop m).head? = some 48 ∧ 1 < n)
    · rw [if_pos hA] at hrr
      subst hrr
      by_cases hn0 : n = 0
      · subst hn0
        have hE' : E = m := by omega
        subst hE'
        have q1 : ((E : Int) == (E : Int)) = true := by simp
        clear hA hE
        go_wp2_with (go_at_call 82; refine CD1.mono ?_; rintro e w2 ⟨rfl, rfl⟩)
        go_ret
        exact ⟨rfl, hb1⟩
      · obtain ⟨h48, h1n⟩ : (b.drop m).head? = some 48 ∧ 1 < n := hA.elim (fun h => absurd h hn0) id
        have hmb : m < b.length := by omega
        have hbm : b[m] = 48 := by
          rw [List.drop_eq_getElem_cons hmb, List.head?_cons] at h48
          exact Option.some.inj h48
        obtain ⟨b0, off, rfl, hb0, hcell⟩ := HCS.out (by first | omega | (simp; omega))
        have g0 : w1.cell? ⟨b0, off + m, none⟩ = some (.int .u8 48) := by
          rw [hb1.cell (p := ⟨b0, off + m, none⟩) hb0, hcell m (by simpa using hmb), List.getElem_map, hbm]
          rfl
        have q1 : ((E : Int) == (m : Int)) = false := by simp; omega
        have q2 : decide ((m : Int) + 1 < (E : Int)) = true := decide_eq_true (by omega)
        have q3 : decide (m + 1 < E) = true := decide_eq_true (by omega)
        have q4 : m + 1 < E := by omega
        clear hA h48 hbm hcell hn0
        go_wp2_with (go_at_call 82; refine CD1.mono ?_; rintro e w2 ⟨rfl, rfl⟩)
        go_ret
        exact ⟨rfl, hb1⟩
    · rw [if_neg hA] at hrr
      have hn1 : 0 < n := by omega
      have hmb : m < b.length := by omega
      have hmE : m < E := by omega
      have hEl : E ≤ b.length := by omega
      have hq : ((b.drop m).head? = some 48) → ¬ (m + 1 < E) := fun h hh => hA (.inr ⟨h, by omega⟩)
      rw [List.drop_eq_getElem_cons hmb, List.head?_cons] at hq
      obtain ⟨b0, off, rfl, hb0, hcell⟩ := HCS.out (by first | omega | (simp; omega))
      have g0 : w1.cell? ⟨b0, off + m, none⟩ = some (.int .u8 (b[m].toNat : Int)) := by
        rw [hb1.cell (p := ⟨b0, off + m, none⟩) hb0, hcell m (by simpa using hmb), List.getElem_map]
        rfl
      obtain ⟨c, hc⟩ : ∃ c, b[m] = c := ⟨_, rfl⟩
      rw [hc] at g0 hq
      have q1 : ((E : Int) == (m : Int)) = false := by simp; omega
      have HR2 := Lib.hid hrr
      obtain ⟨B, hB⟩ : ∃ B, decide (c = 48) = B := ⟨_, rfl⟩
      have q3 : ((c.toNat : Int) == 48) = B := by
        rw [← hB, Bool.eq_iff_iff]
        simp only [beq_iff_eq, decide_eq_true_eq]
        exact ⟨fun h => UInt8.toNat_inj.1 (by show c.toNat = 48; omega), fun h => by rw [h]; rfl⟩
      have q4 : B = true → decide ((m : Int) + 1 < (E : Int)) = false := fun h => decide_eq_false (fun hh => hq (by rw [of_decide_eq_true (hB.trans h)]) (by omega))
      have hE2 := Lib.hid hE
      clear hA hc hB hrr hq hE hcell CD1
      have CD1 := CD.out w1 hb1 m hml
      rw [hn, hE2.out] at CD1
      go_upto_region 5 with (go_at_call 82; refine CD1.mono ?_; rintro e w2 ⟨rfl, rfl⟩)
      go_cut [28] from 13 to 28 (fun vv wx => vv = .bool false ∧ wx = w1)
      case first =>
        clear HRR CI CD HB HCS hca hca2 HR2 CD1
        cases B with
        | false =>
          go_wp2_with fail
          go_meet
          exact ⟨rfl, rfl⟩
        | true =>
          have q5 := q4 rfl
          have q6 : decide (m + 1 < E) = false := decide_eq_false (by have := of_decide_eq_false q5; omega)
          clear q4
          go_wp2_with fail
          go_meet
          exact ⟨rfl, rfl⟩
      case rest =>
        obtain ⟨rfl, hwc⟩ := hcut
        subst hwc
        clear q1 q3 q4 g0 CD1
        have CP := CI.out wc hb1 E hEl ⟨#[46]⟩ (by decide)
        rw [show (⟨#[46]⟩ : ByteArray).data.toList = [46] from rfl, isAt_one] at CP
        have hrr := HR2.out
        cases hf : fracN E (b.drop E) with
        | none =>
          rw [hf] at hrr
          simp only at hrr
          subst hrr
          unfold fracN at hf
          split at hf
          · rename_i h46
            split at hf
            · rename_i hd0
              rw [decide_eq_true h46] at CP
              rw [List.drop_drop] at hd0
              have hEb : E < b.length := by
                rcases Nat.lt_or_ge E b.length with h | h
                · exact h
                · rw [List.drop_of_length_le h] at h46; cases h46
              have CD2 := fun W (h : Below w.heap.size w W) => CD.out W h (E + 1) hEb
              rw [hd0] at CD2
              simp only [Nat.add_zero, Int.natCast_add, Int.natCast_one] at CD2
              have CD2 := Lib.hid CD2
              have q2 : ((E : Int) + 1 == (E : Int) + 1) = true := by simp
              clear hf h46 hd0 HR2 CI CD HB HCS
              go_wp2_with (first | (go_at_call 81; refine CP.mono ?_; rintro e w2 ⟨rfl, hb2⟩) | (go_at_call 82; refine (CD2.out _ (hb1.trans (hb2.mono hb1.size))).mono ?_; rintro e w3 ⟨rfl, rfl⟩))
              go_ret
              exact ⟨rfl, hb1.trans (hb2.mono hb1.size)⟩
            · cases hf
          · cases hf
        | some K =>
          rw [hf] at hrr
          simp only at hrr
          have HX := Lib.hid hrr
          have hEK : E ≤ K ∧ K ≤ b.length := by
            obtain ⟨f, rfl, h1, -⟩ := frac_inv hf
            rw [List.length_drop] at h1
            omega
          obtain ⟨-, hKl⟩ := hEK
          obtain ⟨P, hP⟩ : ∃ P, decide ((b.drop E).head? = some 46) = P := ⟨_, rfl⟩
          rw [hP] at CP
          have HP := Lib.hid hP
          clear hP
          go_upto_if 32 with (go_at_call 81; refine CP.mono ?_; rintro e w2 ⟨rfl, hb2⟩)
          go_cut [3] from 32 to 41 (fun av wx => av = .int .i64 (K : Int) ∧ Below w.heap.size w wx)
          case first =>
            have hb2' := hb1.trans (hb2.mono hb1.size)
            unfold fracN at hf
            split at hf
            · rename_i h46
              split at hf
              · cases hf
              · rename_i hd0
                obtain rfl : P = true := by rw [← HP.out]; exact decide_eq_true h46
                rw [List.drop_drop] at hf hd0
                have hEb : E < b.length := by
                  rcases Nat.lt_or_ge E b.length with h | h
                  · exact h
                  · rw [List.drop_of_length_le h] at h46; cases h46
                obtain ⟨D, hD⟩ : ∃ D, digs (b.drop (E + 1)) = D := ⟨_, rfl⟩
                have CD2 := CD.out w2 hb2' (E + 1) hEb
                rw [hD] at CD2 hf hd0
                simp only [Nat.add_zero, Int.natCast_add, Int.natCast_one, Option.some.injEq] at CD2 hf
                have hK : (E : Int) + 1 + (D : Int) = (K : Int) := by omega
                rw [hK] at CD2
                have q2 : ((K : Int) == (E : Int) + 1) = false := by simp; omega
                clear hf h46 hd0 HR2 CI CD HB HCS hrr HX CP
                go_wp2_with (first | (go_at_call 82; refine CD2.mono ?_; rintro e w3 ⟨rfl, rfl⟩))
                go_meet
                exact ⟨rfl, hb2'⟩
            · rename_i h46
              obtain rfl : P = false := by rw [← HP.out]; exact decide_eq_false h46
              cases hf
              clear h46 HR2 CI CD HB HCS hrr HX CP
              go_wp2_with fail
              go_meet
              exact ⟨rfl, hb2'⟩
          case rest =>
            obtain ⟨rfl, hb3⟩ := hcut
            obtain ⟨w3, hw3⟩ : ∃ w3 : World, w3 = wc := ⟨_, rfl⟩
            subst hw3
            clear CP HP hf hrr hb2 HR2 hb1
            have CE := CI.out w3 hb3 K hKl ⟨#[101, 69]⟩ (by show 2 ≤ 1000; decide)
            rw [show (⟨#[101, 69]⟩ : ByteArray).data.toList = [101, 69] from rfl, isAt_two] at CE
            have hX := HX.out
            unfold expN at hX
            by_cases he : (b.drop K).head? = some 101 ∨ (b.drop K).head? = some 69
            · rw [decide_eq_true he] at CE
              rw [if_pos he, List.drop_drop, List.drop_drop] at hX
              have hKb : K < b.length := by
                rcases Nat.lt_or_ge K b.length with h | h
                · exact h
                · rw [List.drop_of_length_le h] at he; rcases he with he | he <;> cases he
              obtain ⟨g, hg⟩ : ∃ g, signN (b.drop (K + 1)) = g := ⟨_, rfl⟩
              have hg2 := sign_two (b.drop (K + 1))
              have hgl := sign_le (b.drop (K + 1))
              rw [hg] at hX hg2 hgl
              rw [List.length_drop] at hgl
              have CS := fun W (h : Below w.heap.size w W) => CI.out W h (K + 1) hKb ⟨#[43, 45]⟩ (by show 2 ≤ 1000; decide)
              rw [show (⟨#[43, 45]⟩ : ByteArray).data.toList = [43, 45] from rfl, sign_at, hg] at CS
              simp only [Int.natCast_add, Int.natCast_one] at CS
              have CS := Lib.hid CS
              obtain ⟨P, hP⟩ : ∃ P, decide (g = 1) = P := ⟨_, rfl⟩
              rw [hP] at CS
              have HP := Lib.hid hP
              clear hP he
              go_upto_region 14 with (go_at_call 81; refine CE.mono ?_; rintro e w4 ⟨rfl, hb4⟩)
              have hb4' := hb3.trans (hb4.mono hb3.size)
              have CS4 := CS.out w4 hb4'
              go_upto_if 49 with (go_at_call 81; refine CS4.mono ?_; rintro e w5 ⟨rfl, hb5⟩)
              have hb5' := hb4'.trans (hb5.mono hb4'.size)
              go_cut [3] from 49 to 51 (fun av wx => av = .int .i64 ((K : Int) + 1 + (g : Int)) ∧ Below w.heap.size w wx)
              case first =>
                clear CE CS CS4 HB HCS HX hX CI CD
                rcases hg2 with rfl | rfl
                · obtain rfl : P = false := by rw [← HP.out]; rfl
                  go_wp2_with fail
                  go_meet
                  exact ⟨by simp, hb5'⟩
                · obtain rfl : P = true := by rw [← HP.out]; rfl
                  go_wp2_with fail
                  go_meet
                  exact ⟨by first | rfl | (congr 1; omega), hb5'⟩
              case rest =>
                obtain ⟨rfl, hb6⟩ := hcut
                obtain ⟨w6, hw6⟩ : ∃ w6 : World, w6 = wc := ⟨_, rfl⟩
                subst hw6
                have CD6 := CD.out w6 hb6 (K + 1 + g) (by omega)
                rw [show K + (1 + g) = K + 1 + g by omega] at hX
                obtain ⟨D, hD⟩ : ∃ D, digs (b.drop (K + 1 + g)) = D := ⟨_, rfl⟩
                rw [hD] at CD6 hX
                simp only [Int.natCast_add, Int.natCast_one] at CD6
                obtain ⟨Z, hZ⟩ : ∃ Z : Int, (K : Int) + 1 + (g : Int) = Z := ⟨_, rfl⟩
                obtain ⟨Y, hY⟩ : ∃ Y : Int, Z + (D : Int) = Y := ⟨_, rfl⟩
                rw [hZ, hY] at CD6
                rw [hZ]
                have HBL := Lib.hid hb6
                clear CE CS CS4 HB HCS HX CI CD hb4 hb5 hb4' hb5' hb6 hD
                by_cases hd0 : D = 0
                · rw [if_pos hd0] at hX
                  simp only at hX
                  subst hX
                  have q : (Y == Z) = true := by rw [beq_iff_eq]; omega
                  clear hY hZ hd0
                  go_wp2_with (go_at_call 82; refine CD6.mono ?_; rintro e w7 ⟨rfl, rfl⟩)
                  go_ret
                  exact ⟨rfl, HBL.out⟩
                · rw [if_neg hd0] at hX
                  simp only at hX
                  have q : (Y == Z) = false := by rw [beq_eq_false_iff_ne]; omega
                  have hR : Y = (R : Int) := by omega
                  have HR := Lib.hid hR
                  clear hY hZ hd0 hR hX
                  go_wp2_with (go_at_call 82; refine CD6.mono ?_; rintro e w7 ⟨rfl, rfl⟩)
                  go_ret
                  exact ⟨ret_intE HR.out, HBL.out⟩
            · rw [decide_eq_false he] at CE
              rw [if_neg he] at hX
              simp only at hX
              subst hX
              clear CI CD HB HCS HX he
              go_wp2_with (go_at_call 81; refine CE.mono ?_; rintro e w4 ⟨rfl, hb4⟩)
              go_ret
              exact ⟨rfl, hb3.trans (hb4.mono hb3.size)⟩
end Go.Proofs.YtljnbbdhmlfhjaaGreatDoor
/-
  strconv.ParseUint at base 16, of one to eight hexadecimal digits, great or small.
-/
namespace Go.Proofs.YtljnbbdhmlfhjaaGreatDoor
open Go.RowKit
def hexW (c : UInt8) : Nat := (hexV' c).getD 0
def isH (c : UInt8) : Bool := (hexV' c).isSome
/-- The number of hexadecimal digits. -/
def hexQ (l : Bs) : Nat := l.foldl (fun n c => 16 * n + hexW c) 0
theorem hexQ_snoc (l : Bs) (c : UInt8) : hexQ (l ++ [c]) = 16 * hexQ l + hexW c := by
  unfold hexQ
  rw [List.foldl_append]; rfl
theorem hexW_lt (c : UInt8) : hexW c < 16 := by
  unfold hexW
  cases h : hexV' c with
  | none => decide
  | some n => exact (hexV_low h).2
theorem hexQ_lt : ∀ (l : Bs), hexQ l < 16 ^ l.length := by
  have : ∀ n (l : Bs), l.length = n → hexQ l < 16 ^ l.length := by
    intro n
    induction n with
    | zero =>
      intro l hl
      have : l = [] := List.eq_nil_of_length_eq_zero hl
      subst this
      decide
    | succ n ih =>
      intro l hl
      have hne : l ≠ [] := by intro e; subst e; cases hl
      have e := List.dropLast_concat_getLast hne
      have h1 := ih l.dropLast (by rw [List.length_dropLast]; omega)
      have h2 := hexW_lt (l.getLast hne)
      rw [← e, hexQ_snoc, List.length_append, List.length_singleton, Nat.pow_succ]
      omega
  exact fun l => this l.length l rfl
theorem isH_cases {c : UInt8} (h : isH c = true) : (48 ≤ c.toNat ∧ c.toNat ≤ 57 ∧ hexW c = c.toNat - 48) ∨ (97 ≤ c.toNat ∧ c.toNat ≤ 102 ∧ hexW c = c.toNat - 87) ∨ (65 ≤ c.toNat ∧ c.toNat ≤ 70 ∧ hexW c = c.toNat - 55) := by
  unfold isH at h
  unfold hexW
  unfold hexV' at h ⊢
  split at h
  · rename_i h1
    left
    rw [if_pos h1]
    exact ⟨h1.1, h1.2, rfl⟩
  · rename_i h1
    rw [if_neg h1]
    split at h
    · rename_i h2
      right; left
      rw [if_pos h2]
      exact ⟨h2.1, h2.2, rfl⟩
    · rename_i h2
      rw [if_neg h2]
      split at h
      · rename_i h3
        right; right
        rw [if_pos h3]
        exact ⟨h3.1, h3.2, rfl⟩
      · cases h
set_option maxHeartbeats 1000000 in
theorem lower_hexJ (c : Nat) (h : 97 ≤ c ∧ c ≤ 102 ∨ 65 ≤ c ∧ c ≤ 70) (w : World) : Calls Tryz.prog 142 #[.int .u8 (c : Int)] w fun e w' => e = .returned (.int .u8 ((if c ≤ 70 then c + 32 else c : Nat) : Int)) ∧ w = w' := by
  rcases (by omega : c = 97 ∨ c = 98 ∨ c = 99 ∨ c = 100 ∨ c = 101 ∨ c = 102 ∨ c = 65 ∨ c = 66 ∨ c = 67 ∨ c = 68 ∨ c = 69 ∨ c = 70) with rfl | rfl | rfl | rfl | rfl | rfl | rfl | rfl | rfl | rfl | rfl | rfl
  all_goals
    go_enter Tryz.func142, Tryz.ntmps142
    go_wp2
    go_ret
    exact ⟨rfl, rfl⟩
theorem ret_twoJ {k : IntKind} {a b : Int} {v : Value} (h : a = b) : Ending.returned (.tuple #[.int k a, v]) = .returned (.tuple #[.int k b, v]) := by rw [h]
set_option maxRecDepth 100000 in
set_option maxHeartbeats 8000000 in
theorem parse_uintJ (t : ByteArray) (w : World) (h1 : 1 ≤ t.size) (h8 : t.size ≤ 7) (hx : ∀ c ∈ t.data.toList, isH c = true) :
    Calls Tryz.prog 111 #[.string t, .int .i64 16, .int .i64 32] w fun e w' => e = .returned (.tuple #[.int .u64 (hexQ t.data.toList), .nilIface]) ∧ Below w.heap.size w w' := by
  have hemp : t.toList.isEmpty = false := by
    rw [← decide_eq_emptyBytes]
    exact decide_eq_false (fun h => by rw [h] at h1; cases h1)
  have hcv := Lib.run_convert_string_bytes (P := Tryz.prog) w 9 22 5 t (u := .string) Tryz.underlying9 Tryz.underlying22 Tryz.underlying5
  have hB : ∀ j, j < t.size → (Lib.bytesWorld w 5 t).cell? ⟨w.heap.size, j, none⟩ = some (.int .u8 (t.data.toList.getD j 0).toNat) := fun j hj => Lib.bytesWorld_cell w 5 t j hj
  have hbw : Below w.heap.size w (Lib.bytesWorld w 5 t) := Joins.below_bytesWorld _ _ _ _ (Nat.le_refl _)
  generalize Lib.bytesWorld w 5 t = W1 at *
  have hLn : t.data.toList.length = t.size := by simp [ByteArray.size_data]
  obtain ⟨bs, hL⟩ : ∃ bs, bs = t.data.toList := ⟨_, rfl⟩
  rw [← hL] at hLn hB hx ⊢
  clear hL
  have HLN := Lib.hid hLn
  have HX := Lib.hid hx
  have HB := Lib.hid hB
  have HBW := Lib.hid hbw
  clear hLn hx hB hbw
  obtain ⟨R, hR⟩ : ∃ R : Nat, hexQ bs = R := ⟨_, rfl⟩
  rw [hR]
  have HR := Lib.hid hR
  clear hR
  have hmv : IntKind.u64.wrap (IntKind.u64.wrap 4294967296 - 1) = 4294967295 := by
    rw [IntKind.wrap_u64, IntKind.wrap_u64]
    decide
  go_enter Tryz.func111, Tryz.ntmps111
  go_wp2
  go_loop [12, 13, 101] (fun vu vn vi => ∃ (k : Nat) (a : Int), vu = .bool false ∧ vn = .int .u64 a ∧ vi = .int .i64 k ∧ k ≤ t.size ∧ 0 ≤ a ∧ a < 268435456 ∧ Hid (a = (hexQ (bs.take k) : Int))) (fun _ _ vi => t.size - (intOf vi).toNat)
  case atStart => exact ⟨0, 0, rfl, rfl, rfl, by omega, by omega, by omega, rfl⟩
  case round =>
    obtain ⟨k, a, rfl, rfl, rfl, hk, a0, a1, hh⟩ := hrel
    by_cases hkn : k < t.size
    · have hkl : k < bs.length := by rw [HLN.out]; exact hkn
      have hc := HB.out k hkn
      have hget : bs.getD k 0 = bs[k] := by simp [List.getD, List.getElem?_eq_getElem hkl]
      rw [hget] at hc
      have hxk := HX.out bs[k] (List.getElem_mem _)
      have hsn : hexQ (bs.take (k + 1)) = 16 * hexQ (bs.take k) + hexW bs[k] := by rw [List.take_succ_eq_append_getElem hkl, hexQ_snoc]
      have hlt := hexQ_lt (bs.take (k + 1))
      have hlt8 : hexQ (bs.take (k + 1)) < 268435456 := by
        refine Nat.lt_of_lt_of_le hlt ?_
        rw [List.length_take]
        have : min (k + 1) bs.length ≤ 7 := by omega
        exact Nat.le_trans (Nat.pow_le_pow_right (by decide) this) (by decide)
      clear hlt hget
      generalize bs[k] = c at *
      have hc256 : c.toNat < 256 := c.toNat_lt
      rcases isH_cases hxk with ⟨hd0, hd1, hv⟩ | ⟨hd0, hd1, hv⟩ | ⟨hd0, hd1, hv⟩
      · have HN : Hid (a * 16 + ((c.toNat : Int) - 48) = (hexQ (bs.take (k + 1)) : Int)) := Lib.hid (by have := hh.out; rw [hsn, hv]; omega)
        have hb1 : a * 16 + ((c.toNat : Int) - 48) < 268435456 := by have := HN.out; omega
        clear hsn hlt8 hv hxk hh
        go_wp2
        go_round
        case rel => exact ⟨k + 1, a * 16 + ((c.toNat : Int) - 48), rfl, by first | rfl | (congr 1; omega), by go_num, by omega, by omega, by omega, HN⟩
        case measure => simp [intOf]; omega
      · have HN : Hid (a * 16 + ((c.toNat : Int) - 97 + 10) = (hexQ (bs.take (k + 1)) : Int)) := Lib.hid (by have := hh.out; rw [hsn, hv]; omega)
        have hb1 : a * 16 + ((c.toNat : Int) - 97 + 10) < 268435456 := by have := HN.out; omega
        have cL := fun W => lower_hexJ c.toNat (.inl ⟨hd0, hd1⟩) W
        simp only [if_neg (show ¬ c.toNat ≤ 70 by omega)] at cL
        clear hsn hlt8 hv hxk hh
        go_wp2_with (go_at_call 142; refine (cL _).mono ?_; rintro e w' ⟨rfl, rfl⟩)
        go_round
        case rel => exact ⟨k + 1, a * 16 + ((c.toNat : Int) - 97 + 10), rfl, by first | rfl | (congr 1; omega), by go_num, by omega, by omega, by omega, HN⟩
        case measure => simp [intOf]; omega
      · have HN : Hid (a * 16 + ((c.toNat : Int) + 32 - 97 + 10) = (hexQ (bs.take (k + 1)) : Int)) := Lib.hid (by have := hh.out; rw [hsn, hv]; omega)
        have hb1 : a * 16 + ((c.toNat : Int) + 32 - 97 + 10) < 268435456 := by have := HN.out; omega
        have cL := fun W => lower_hexJ c.toNat (.inr ⟨hd0, hd1⟩) W
        simp only [if_pos (show c.toNat ≤ 70 by omega), Int.natCast_add, Int.cast_ofNat_Int] at cL
        clear hsn hlt8 hv hxk hh
        go_wp2_with (go_at_call 142; refine (cL _).mono ?_; rintro e w' ⟨rfl, rfl⟩)
        go_round
        case rel => exact ⟨k + 1, a * 16 + ((c.toNat : Int) + 32 - 97 + 10), rfl, by first | rfl | (congr 1; omega), by go_num, by omega, by omega, by omega, HN⟩
        case measure => simp [intOf]; omega
    · obtain rfl : k = t.size := by omega
      have hfin : a = (R : Int) := by
        have := hh.out
        rw [List.take_of_length_le (by rw [HLN.out]; exact Nat.le_refl _), HR.out] at this
        exact this
      have HF := Lib.hid hfin
      clear hfin hh
      go_wp2
      go_ret2
      exact ⟨ret_twoJ HF.out, HBW.out⟩
set_option maxRecDepth 100000 in
set_option maxHeartbeats 4000000 in
theorem strconv_parseJ (t : ByteArray) (w : World) (h1 : 1 ≤ t.size) (h8 : t.size ≤ 7) (hx : ∀ c ∈ t.data.toList, isH c = true) :
    Calls Tryz.prog 167 #[.string t, .int .i64 16, .int .i64 32] w fun e w' => e = .returned (.tuple #[.int .u64 (hexQ t.data.toList), .nilIface]) ∧ Below w.heap.size w w' := by
  have cU := parse_uintJ t w h1 h8 hx
  generalize (hexQ t.data.toList : Int) = R at *
  go_enter Tryz.func167, Tryz.ntmps167
  go_wp2_with (go_at_call 111; refine cU.mono ?_; rintro e w1 ⟨rfl, hb1⟩)
  go_ret2
  exact ⟨rfl, hb1⟩
end Go.Proofs.YtljnbbdhmlfhjaaGreatDoor
/-
  The program's JSON parser: hex.
-/
namespace Go.Proofs.YtljnbbdhmlfhjaaGreatDoor
open Go.RowKit
theorem hex4_if : ∀ s : Bs, hex4 s = if 4 ≤ s.length ∧ (s.take 4).all isH = true then some (hexQ (s.take 4), s.drop 4) else none
  | [] => rfl
  | [_] => rfl
  | [_, _] => rfl
  | [_, _, _] => rfl
  | a :: b :: c :: d :: s => by
    have h4 : 4 ≤ (a :: b :: c :: d :: s).length := by simp
    simp only [hex4, List.take_succ_cons, List.take_zero, List.drop_succ_cons, List.drop_zero, List.all_cons, List.all_nil, Bool.and_true, Bool.and_eq_true, h4, true_and]
    cases ha : hexV' a with
    | none => simp [isH, ha]
    | some va =>
      cases hb : hexV' b with
      | none => simp [isH, hb]
      | some vb =>
        cases hc : hexV' c with
        | none => simp [isH, hc]
        | some vc =>
          cases hd : hexV' d with
          | none => simp [isH, hd]
          | some vd =>
            rw [if_pos (by simp [isH, ha, hb, hc, hd])]
            simp only [hexQ, List.foldl_cons, List.foldl_nil, hexW, ha, hb, hc, hd, Option.getD_some]
            congr 2
            omega
def HexR (p : Nat) (w : World) (deep most : Nat) : Option (Nat × Bs) → Ending → World → Prop
  | none, e, w' => Fell p w e w'
  | some (n, r), e, w' => e = .returned (.int .i32 (n : Int)) ∧ JS w' p r deep most ∧ w.grownBy w' (some p)
theorem isH_not {c : UInt8} (h : isH c = false) : c.toNat < 48 ∨ (57 < c.toNat ∧ c.toNat < 65) ∨ (70 < c.toNat ∧ c.toNat < 97) ∨ 102 < c.toNat := by
  unfold isH hexV' at h
  split at h
  · cases h
  · split at h
    · cases h
    · split at h
      · cases h
      · omega
set_option maxRecDepth 100000 in
set_option maxHeartbeats 8000000 in
theorem js_hex (p : Nat) (w : World) (s : Bs) (deep most : Nat) (h : JS w p s deep most) :
    Calls Tryz.prog 140 #[.pointer (some ⟨p, 0, none⟩)] w (HexR p w deep most (hexP s)) := by
  cases hn : nextB 117 s with
  | none =>
    have C := js_next_no p w s deep most 117 h hn
    have e : hexP s = none := by
      cases s with
      | nil => rfl
      | cons c r =>
        simp only [nextB] at hn
        simp only [hexP]
        split at hn
        · cases hn
        · rename_i h0; rw [if_neg h0]
    rw [e]
    show Calls _ _ _ _ (Fell p w)
    have HF := Lib.hid (grown_refl w (some p))
    clear h hn e
    go_enter Tryz.func140, Tryz.ntmps140
    go_wp2_with (first | (go_at_call 109; refine C.mono ?_; rintro e w2 ⟨rfl, rfl⟩) | (go_at_call 44; refine (js_mustnt p _).mono ?_; rintro e w3 ⟨rfl, rfl⟩))
    exact ⟨rfl, rfl, HF.out⟩
  | some s1 =>
    obtain rfl := next_inv hn
    have C := js_next_yes p w s1 deep most 117 h
    have e : hexP (117 :: s1) = hex4 s1 := rfl
    rw [e, hex4_if]
    clear h hn e
    by_cases h4 : 4 ≤ s1.length
    · obtain ⟨X, hX⟩ : ∃ X, (if 4 ≤ s1.length ∧ (s1.take 4).all isH = true then some (hexQ (s1.take 4), s1.drop 4) else none) = X := ⟨_, rfl⟩
      rw [hX]
      have hXg : (∀ j (hj : j < s1.length), j < 4 → isH s1[j] = true) → X = some (hexQ (s1.take 4), s1.drop 4) := fun hh => by
        have hall : (s1.take 4).all isH = true := by
          rw [List.all_eq_true]
          intro c hc
          obtain ⟨j, hj, rfl⟩ := List.mem_iff_getElem.1 hc
          rw [List.length_take] at hj
          rw [List.getElem_take]
          exact hh j (by omega) (by omega)
        rw [← hX, if_pos ⟨h4, hall⟩]
      have hXb : ∀ j (hj : j < s1.length), j < 4 → isH s1[j] = false → X = none := fun j hj hj4 hh => by
        rw [← hX, if_neg]
        rintro ⟨-, h2⟩
        rw [List.all_eq_true] at h2
        have := h2 s1[j] (List.mem_iff_getElem.2 ⟨j, by rw [List.length_take]; omega, List.getElem_take⟩)
        rw [hh] at this
        cases this
      have HXG := Lib.hid hXg
      have HXB := Lib.hid hXb
      have d1 : decide ((4 : Int) ≤ (s1.length : Int)) = true := decide_eq_true (by omega)
      have HL4 := Lib.hid h4
      clear hX hXg hXb
      have C1 : Calls Tryz.prog 109 #[.pointer (some ⟨p, 0, none⟩), .int .u8 (((117 : UInt8)).toNat : Int)] w fun e w' => e = .returned (.bool true) ∧ (∃ b off cap, p < w'.heap.size ∧ s1.length ≤ cap ∧ cap ≤ maxLen ∧ w'.cell? ⟨p, 0, none⟩ = some (.slice (some ⟨b, off, none⟩) s1.length cap) ∧ w'.frozen? ⟨p, 0, none⟩ = false ∧ (∀ j (hj : j < s1.length), w'.cell? ⟨b, off + j, none⟩ = some (.int .u8 (s1[j].toNat : Int))) ∧
          (∀ a' c', s1.length - 4 ≤ c' → c' ≤ cap → (4 < s1.length → a' = some ⟨b, off + 4, none⟩) → ∀ W, Below w'.heap.size w' W → JS (W.setCell ⟨p, 0, none⟩ (.slice a' (s1.length - 4) c')) p (s1.drop 4) deep most ∧ w'.grownBy (W.setCell ⟨p, 0, none⟩ (.slice a' (s1.length - 4) c')) (some p))) ∧ w.grownBy w' (some p) := by
        refine C.mono ?_
        rintro e w' ⟨h1, ⟨sv, hj⟩, h3⟩
        obtain ⟨b, off, cap, rfl, g1, g2, g3, g4⟩ := hj.frontK 4 h4 (by omega)
        refine ⟨h1, ⟨b, off, cap, hj.lt, g1, g2, hj.cells.1.1, hj.cells.2.1, g3, fun a' c' k1 k2 k3 W hW => ?_⟩, h3⟩
        obtain ⟨i1, i2⟩ := (hj.keptB hW).nextK (k := 4) (sv' := .slice a' (s1.length - 4) c') (fun W' hW' => g4 a' c' k1 k2 k3 W' ((hW.mono (Nat.le_of_lt hj.lt)).trans hW')) rfl
        exact ⟨i1, (grown_of_below hW _).trans i2⟩
      clear C
      go_enter Tryz.func140, Tryz.ntmps140
      go_upto_region 2 with (first | (go_at_call 109; refine C1.mono ?_; rintro e w2 ⟨rfl, ⟨b, off, cap, hplt, hc1, hc2, hcell, hfz, hby, hst⟩, hg⟩) | (go_at_call 44; refine (js_must p _).mono ?_; rintro e w3 ⟨rfl, rfl⟩))
      have HBY := Lib.hid hby
      have HST := Lib.hid hst
      have HG := Lib.hid hg
      have hcap4 : 4 ≤ cap := by omega
      unfold maxLen at hc2
      clear C1 hby hst hg
      go_upto_region 3 with fail
      go_loop [25] (fun iv => ∃ k : Nat, iv = .int .i64 k ∧ k ≤ 4 ∧ Hid (∀ j (hj : j < s1.length), j < k → isH s1[j] = true)) (fun iv => 4 - (intOf iv).toNat)
      case atStart => exact ⟨0, rfl, by omega, Lib.hid (fun j _ hj => by omega)⟩
      case round =>
        obtain ⟨k, rfl, hk, hK⟩ := hrel
        by_cases hk4 : k < 4
        · have hkl : k < s1.length := by have := HL4.out; omega
          have hc := HBY.out k hkl
          have hK1 : isH s1[k] = true → ∀ j (hj : j < s1.length), j < k + 1 → isH s1[j] = true := fun h0 j hj hjk => by
            by_cases e : j = k
            · subst e; exact h0
            · exact hK.out j hj (by omega)
          have HK1 := Lib.hid hK1
          have HB1 := Lib.hid (HXB.out k hkl hk4)
          clear hK1
          obtain ⟨c, hcc⟩ : ∃ c, s1[k] = c := ⟨_, rfl⟩
          rw [hcc] at hc HK1 HB1
          clear hcc
          cases hh : isH c with
          | true =>
            rcases isH_cases hh with ⟨hd0, hd1, -⟩ | ⟨hd0, hd1, -⟩ | ⟨hd0, hd1, -⟩
            · obtain ⟨f1, f2, f3, f4, f5, f6⟩ : decide ((48 : Int) ≤ (c.toNat : Int)) = true ∧ decide ((c.toNat : Int) ≤ 57) = true ∧ decide ((97 : Int) ≤ (c.toNat : Int)) = false ∧ decide ((c.toNat : Int) ≤ 102) = true ∧ decide ((65 : Int) ≤ (c.toNat : Int)) = false ∧ decide ((c.toNat : Int) ≤ 70) = true := ⟨decide_eq_true (by omega), decide_eq_true (by omega), decide_eq_false (by omega), decide_eq_true (by omega), decide_eq_false (by omega), decide_eq_true (by omega)⟩
              clear hd0 hd1
              go_wp2_with (go_at_call 44; refine (js_must p _).mono ?_; rintro e w3 ⟨rfl, rfl⟩)
              go_round
              case rel => exact ⟨k + 1, by go_num, by omega, Lib.hid (HK1.out hh)⟩
              case measure => simp [intOf]; omega
            · obtain ⟨f1, f2, f3, f4, f5, f6⟩ : decide ((48 : Int) ≤ (c.toNat : Int)) = true ∧ decide ((c.toNat : Int) ≤ 57) = false ∧ decide ((97 : Int) ≤ (c.toNat : Int)) = true ∧ decide ((c.toNat : Int) ≤ 102) = true ∧ decide ((65 : Int) ≤ (c.toNat : Int)) = true ∧ decide ((c.toNat : Int) ≤ 70) = false := ⟨decide_eq_true (by omega), decide_eq_false (by omega), decide_eq_true (by omega), decide_eq_true (by omega), decide_eq_true (by omega), decide_eq_false (by omega)⟩
              clear hd0 hd1
              go_wp2_with (go_at_call 44; refine (js_must p _).mono ?_; rintro e w3 ⟨rfl, rfl⟩)
              go_round
              case rel => exact ⟨k + 1, by go_num, by omega, Lib.hid (HK1.out hh)⟩
              case measure => simp [intOf]; omega
            · obtain ⟨f1, f2, f3, f4, f5, f6⟩ : decide ((48 : Int) ≤ (c.toNat : Int)) = true ∧ decide ((c.toNat : Int) ≤ 57) = false ∧ decide ((97 : Int) ≤ (c.toNat : Int)) = false ∧ decide ((c.toNat : Int) ≤ 102) = true ∧ decide ((65 : Int) ≤ (c.toNat : Int)) = true ∧ decide ((c.toNat : Int) ≤ 70) = true := ⟨decide_eq_true (by omega), decide_eq_false (by omega), decide_eq_false (by omega), decide_eq_true (by omega), decide_eq_true (by omega), decide_eq_true (by omega)⟩
              clear hd0 hd1
              go_wp2_with (go_at_call 44; refine (js_must p _).mono ?_; rintro e w3 ⟨rfl, rfl⟩)
              go_round
              case rel => exact ⟨k + 1, by go_num, by omega, Lib.hid (HK1.out hh)⟩
              case measure => simp [intOf]; omega
          | false =>
            obtain rfl : X = none := HB1.out hh
            rcases isH_not hh with hd0 | ⟨hd0, hd1⟩ | ⟨hd0, hd1⟩ | hd0
            · obtain ⟨f1, f2, f3, f4, f5, f6⟩ : decide ((48 : Int) ≤ (c.toNat : Int)) = false ∧ decide ((c.toNat : Int) ≤ 57) = true ∧ decide ((97 : Int) ≤ (c.toNat : Int)) = false ∧ decide ((c.toNat : Int) ≤ 102) = true ∧ decide ((65 : Int) ≤ (c.toNat : Int)) = false ∧ decide ((c.toNat : Int) ≤ 70) = true := ⟨decide_eq_false (by omega), decide_eq_true (by omega), decide_eq_false (by omega), decide_eq_true (by omega), decide_eq_false (by omega), decide_eq_true (by omega)⟩
              clear hd0
              go_wp2_with (go_at_call 44; refine (js_mustnt p _).mono ?_; rintro e w3 ⟨rfl, rfl⟩)
              exact ⟨rfl, rfl, HG.out⟩
            · obtain ⟨f1, f2, f3, f4, f5, f6⟩ : decide ((48 : Int) ≤ (c.toNat : Int)) = true ∧ decide ((c.toNat : Int) ≤ 57) = false ∧ decide ((97 : Int) ≤ (c.toNat : Int)) = false ∧ decide ((c.toNat : Int) ≤ 102) = true ∧ decide ((65 : Int) ≤ (c.toNat : Int)) = false ∧ decide ((c.toNat : Int) ≤ 70) = true := ⟨decide_eq_true (by omega), decide_eq_false (by omega), decide_eq_false (by omega), decide_eq_true (by omega), decide_eq_false (by omega), decide_eq_true (by omega)⟩
              clear hd0
              go_wp2_with (go_at_call 44; refine (js_mustnt p _).mono ?_; rintro e w3 ⟨rfl, rfl⟩)
              exact ⟨rfl, rfl, HG.out⟩
            · obtain ⟨f1, f2, f3, f4, f5, f6⟩ : decide ((48 : Int) ≤ (c.toNat : Int)) = true ∧ decide ((c.toNat : Int) ≤ 57) = false ∧ decide ((97 : Int) ≤ (c.toNat : Int)) = false ∧ decide ((c.toNat : Int) ≤ 102) = true ∧ decide ((65 : Int) ≤ (c.toNat : Int)) = true ∧ decide ((c.toNat : Int) ≤ 70) = false := ⟨decide_eq_true (by omega), decide_eq_false (by omega), decide_eq_false (by omega), decide_eq_true (by omega), decide_eq_true (by omega), decide_eq_false (by omega)⟩
              clear hd0
              go_wp2_with (go_at_call 44; refine (js_mustnt p _).mono ?_; rintro e w3 ⟨rfl, rfl⟩)
              exact ⟨rfl, rfl, HG.out⟩
            · obtain ⟨f1, f2, f3, f4, f5, f6⟩ : decide ((48 : Int) ≤ (c.toNat : Int)) = true ∧ decide ((c.toNat : Int) ≤ 57) = false ∧ decide ((97 : Int) ≤ (c.toNat : Int)) = true ∧ decide ((c.toNat : Int) ≤ 102) = false ∧ decide ((65 : Int) ≤ (c.toNat : Int)) = true ∧ decide ((c.toNat : Int) ≤ 70) = false := ⟨decide_eq_true (by omega), decide_eq_false (by omega), decide_eq_true (by omega), decide_eq_false (by omega), decide_eq_true (by omega), decide_eq_false (by omega)⟩
              clear hd0
              go_wp2_with (go_at_call 44; refine (js_mustnt p _).mono ?_; rintro e w3 ⟨rfl, rfl⟩)
              exact ⟨rfl, rfl, HG.out⟩
        · obtain rfl : k = 4 := by omega
          obtain rfl : X = some (hexQ (s1.take 4), s1.drop 4) := HXG.out (fun j hj hj4 => hK.out j hj hj4)
          have hl4 := HL4.out
          have hcv : (convert 22 9 (.slice (some ⟨b, off, none⟩) 4 cap)).run Tryz.prog w2 = .ok (.string ⟨(s1.take 4).toArray⟩) w2 := by
            have := conv_cells (P := Tryz.prog) (w := w2) (cap := cap) (src := 22) (dst := 9) (g := b) (off := off) (l := s1.take 4) Tryz.underlying22 Tryz.underlying5 Tryz.underlying9 (fun j hj => by
              rw [HBY.out j (by simp only [List.length_take] at hj; omega)]; simp)
            rwa [List.length_take, Nat.min_eq_left hl4] at this
          have CP := strconv_parseJ ⟨(s1.take 4).toArray⟩ w2 (by show 1 ≤ (s1.take 4).length; rw [List.length_take]; omega) (by show (s1.take 4).length ≤ 7; rw [List.length_take]; omega) (fun c hc => by
            obtain ⟨j, hj, rfl⟩ := List.mem_iff_getElem.1 hc
            have hj' : j < (s1.take 4).length := hj
            rw [List.length_take] at hj'
            show isH ((s1.take 4)[j]'_) = true
            rw [List.getElem_take]
            exact hK.out j (by omega) (by omega))
          have hv : hexQ (s1.take 4) < 65536 := by
            have := hexQ_lt (s1.take 4)
            rw [List.length_take, Nat.min_eq_left hl4] at this
            exact this
          have e4 : (⟨(s1.take 4).toArray⟩ : ByteArray).data.toList = s1.take 4 := by simp
          rw [e4] at CP
          obtain ⟨V, hV⟩ : ∃ V, hexQ (s1.take 4) = V := ⟨_, rfl⟩
          obtain ⟨T, hT⟩ : ∃ T : ByteArray, (⟨(s1.take 4).toArray⟩ : ByteArray) = T := ⟨_, rfl⟩
          rw [hV] at CP hv
          have HV := Lib.hid hV
          rw [hT] at CP hcv
          have hw : IntKind.i32.wrap (V : Int) = (V : Int) := by rw [IntKind.wrap_i32]; omega
          have HST2 := HST.out
          clear e4 hV hT hK HXG HXB HBY
          go_upto_region 8 with (go_at_call 167; refine CP.mono ?_; rintro e w3 ⟨rfl, hb3⟩)
          have hcell3 := (hb3.cell (p := ⟨p, 0, none⟩) hplt).trans hcell
          have hfz3 := (hb3.frozen (p := ⟨p, 0, none⟩) hplt).trans hfz
          have HB3 := Lib.hid hb3
          clear hcell hfz hb3 hcv CP
          obtain ⟨N, hN⟩ : ∃ N, s1.length = N := ⟨_, rfl⟩
          rw [hN] at HST2 hcell3 hc1 hl4
          have HST3 := Lib.hid HST2
          clear HST2 HST hN d1
          by_cases hcap : cap = 4
          · subst hcap
            obtain rfl : N = 4 := by omega
            go_wp2
            go_ret
            obtain ⟨i1, i2⟩ := HST3.out _ 0 (by omega) (by omega) (fun h => absurd h (by omega)) _ HB3.out
            exact ⟨ret_intE (by rw [HV.out]), i1, HG.out.trans i2⟩
          · have hcap2 : 4 < cap := by omega
            go_wp2
            go_ret
            obtain ⟨i1, i2⟩ := HST3.out _ (cap - 4) (by omega) (by omega) (fun _ => rfl) _ HB3.out
            exact ⟨ret_intE (by rw [HV.out]), i1, HG.out.trans i2⟩
    · rw [if_neg (fun hh => h4 hh.1)]
      show Calls _ _ _ _ (Fell p w)
      have C1 : Calls Tryz.prog 109 #[.pointer (some ⟨p, 0, none⟩), .int .u8 (((117 : UInt8)).toNat : Int)] w fun e w' => e = .returned (.bool true) ∧ (∃ a cap, w'.cell? ⟨p, 0, none⟩ = some (.slice a s1.length cap)) ∧ w.grownBy w' (some p) := by
        refine C.mono ?_
        rintro e w' ⟨h1, ⟨sv, hj⟩, h3⟩
        obtain ⟨a, cap, rfl, -⟩ := hj.shape
        exact ⟨h1, ⟨a, cap, hj.cells.1.1⟩, h3⟩
      have d1 : decide ((4 : Int) ≤ (s1.length : Int)) = false := decide_eq_false (by omega)
      clear C
      generalize s1.length = n at *
      go_enter Tryz.func140, Tryz.ntmps140
      go_wp2_with (first | (go_at_call 109; refine C1.mono ?_; rintro e w2 ⟨rfl, ⟨a, cap, hcell⟩, hg⟩) | (go_at_call 44; refine (js_mustnt p _).mono ?_; rintro e w3 ⟨rfl, rfl⟩))
      exact ⟨rfl, rfl, hg⟩
end Go.Proofs.YtljnbbdhmlfhjaaGreatDoor
