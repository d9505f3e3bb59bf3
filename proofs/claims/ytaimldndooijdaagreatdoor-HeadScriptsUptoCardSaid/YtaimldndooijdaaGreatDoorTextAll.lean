/-
  Plain laws of words: the runs of word runes of a text. No program in sight.
-/
import Derived.Test.YtaimldndooijdaaGreatDoorUtfP
import Derived.Lib.SlicesCompact
import Derived.Test.YtaimldndooijdaaGreatDoorUtfE
import Derived.Laws.OwnMore
import Derived.OneCell
import Derived.Laws.Cover4
import Derived.Lib.OthersKept
import Derived.Deep.RegionLaw
import Derived.Deep.AppendLies
import Derived.Outline
import Derived.Deep.DeepCutAuto
import Derived.Sort.OwnSorted
import Derived.Test.YtaimldndooijdaaGreatDoorKitC
import Derived.Test.YtaimldndooijdaaGreatDoorShelf
import Derived.BigQuiet
import Derived.Sort.Walk0
import Derived.Test.YtaimldndooijdaaGreatDoorKitB
import Derived.Test.YtaimldndooijdaaGreatDoorProg
import Derived.Deep.QuietTactic
import Derived.Lib.SlicesS
namespace Go.Proofs.YtaimldndooijdaaGreatDoor
open Go.Lib

/-- A rune of words. -/
def wordN (r : Nat) : Bool := decide ((48 ≤ r ∧ r ≤ 57) ∨ (97 ≤ r ∧ r ≤ 122) ∨ (65 ≤ r ∧ r ≤ 90) ∨ r = 95 ∨ (192 ≤ r ∧ r ≠ 215 ∧ r ≠ 247 ∧ ¬ (8192 ≤ r ∧ r ≤ 8303) ∧ ¬ (12288 ≤ r ∧ r ≤ 12351) ∧ r ≠ 65533 ∧ ¬ (55296 ≤ r ∧ r ≤ 57343) ∧ r ≤ 1114111))

/-- The runs of a row of runes: the place of each in the row, and its runes. -/
def segs : Nat → List Nat → List (Nat × List Nat)
  | _, [] => []
  | k, r :: t =>
    if wordN r then
      match segs (k + 1) t with
      | (j, run) :: rest => if j = k + 1 then (k, r :: run) :: rest else (k, [r]) :: (j, run) :: rest
      | [] => [(k, [r])]
    else segs (k + 1) t
/-- A run's word. -/
def wordOf (run : List Nat) : List UInt8 := enc ((run.take 32).map smallN)
def words (l : List UInt8) : List (List UInt8) := (segs 0 (runes l)).map fun x => wordOf x.2
def innerR (n : Nat) (x : Nat × List Nat) : Bool := decide (0 < x.1 ∧ x.1 + x.2.length < n)
theorem segs_skip {r : Nat} (h : wordN r = false) (k : Nat) (t : List Nat) : segs k (r :: t) = segs (k + 1) t := by
  simp [segs, h]
theorem segs_ge : ∀ (l : List Nat) (k : Nat), ∀ x ∈ segs k l, k ≤ x.1
  | [], _, x, h => by cases h
  | r :: t, k, x, h => by
    have ih := segs_ge t (k + 1)
    by_cases hw : wordN r = true
    · simp only [segs, hw, if_true] at h
      cases hs : segs (k + 1) t with
      | nil => rw [hs] at h; simp at h; subst h; exact Nat.le_refl _
      | cons y rest =>
        rw [hs] at h ih
        obtain ⟨j, run⟩ := y
        simp only at h
        split at h
        · rcases List.mem_cons.1 h with h | h
          · subst h; exact Nat.le_refl _
          · have := ih x (by simp [h]); omega
        · rcases List.mem_cons.1 h with h | h
          · subst h; exact Nat.le_refl _
          · have := ih x (by simpa using h); omega
    · have hw' : wordN r = false := by simpa using hw
      rw [segs_skip hw'] at h
      have := ih x h; omega
/-- Where the row behind a run begins with no word rune, or is at its end. -/
def stops (l : List Nat) : Prop := l = [] ∨ ∃ r t, l = r :: t ∧ wordN r = false
theorem segs_stops {l : List Nat} (h : stops l) (k : Nat) : ∀ x ∈ segs k l, k < x.1 := by
  intro x hx
  rcases h with rfl | ⟨r, t, rfl, hr⟩
  · cases hx
  · rw [segs_skip hr] at hx
    exact segs_ge t (k + 1) x hx
/-- A run in front. -/
theorem segs_run : ∀ (run : List Nat) (rest : List Nat) (k : Nat), run ≠ [] → (∀ r ∈ run, wordN r = true) → stops rest → segs k (run ++ rest) = (k, run) :: segs (k + run.length) rest
  | [], _, _, h, _, _ => absurd rfl h
  | [r], rest, k, _, hw, hs => by
    have hr := hw r (by simp)
    have hst := segs_stops hs (k + 1)
    rw [List.cons_append, List.nil_append]
    simp only [segs, hr, if_true, List.length_cons, List.length_nil]
    cases e : segs (k + 1) rest with
    | nil => simp
    | cons y ys =>
      rw [e] at hst
      obtain ⟨j, ru⟩ := y
      have hj : k + 1 < j := hst (j, ru) (by simp)
      simp only
      rw [if_neg (by omega)]
  | r :: r2 :: run, rest, k, _, hw, hs => by
    have hr := hw r (by simp)
    have ih := segs_run (r2 :: run) rest (k + 1) (by simp) (fun x hx => hw x (by simp at hx ⊢; exact .inr hx)) hs
    rw [List.cons_append]
    show (if wordN r = true then _ else _) = _
    rw [if_pos hr, ih]
    simp only [if_true, List.length_cons]
    have : k + 1 + (run.length + 1) = k + (run.length + 1 + 1) := by omega
    rw [this]

/-- The runes in front that make words, and what is behind them. -/
theorem take_run (l : List Nat) : ∃ run rest, l = run ++ rest ∧ (∀ r ∈ run, wordN r = true) ∧ stops rest := by
  induction l with
  | nil => exact ⟨[], [], rfl, (fun _ h => by cases h), .inl rfl⟩
  | cons r t ih =>
    by_cases hr : wordN r = true
    · obtain ⟨run, rest, rfl, h1, h2⟩ := ih
      exact ⟨r :: run, rest, rfl, (fun x hx => by rcases List.mem_cons.1 hx with h | h; exact h ▸ hr; exact h1 x h), h2⟩
    · exact ⟨[], r :: t, rfl, (fun _ h => by cases h), .inr ⟨r, t, rfl, by simpa using hr⟩⟩

/-- An induction over runs. -/
theorem segs_shift : ∀ (l : List Nat) (k d : Nat), segs (k + d) l = (segs k l).map fun x => (x.1 + d, x.2)
  | [], _, _ => rfl
  | r :: t, k, d => by
    have ih := segs_shift t (k + 1) d
    have e : k + d + 1 = k + 1 + d := by omega
    by_cases hw : wordN r = true
    · simp only [segs, hw, if_true]
      rw [e, ih]
      cases hs : segs (k + 1) t with
      | nil => simp
      | cons y ys =>
        obtain ⟨j, run⟩ := y
        simp only [List.map_cons]
        by_cases hj : j = k + 1
        · subst hj; simp
        · rw [if_neg hj, if_neg (by omega)]
          simp
    · have hw' : wordN r = false := by simpa using hw
      rw [segs_skip hw', segs_skip hw', e, ih]

end Go.Proofs.YtaimldndooijdaaGreatDoor
/-
  Plain laws of lists of texts in order, each once. No program in sight.
-/
namespace Go.Proofs.YtaimldndooijdaaGreatDoor

abbrev Txt := List UInt8
theorem tlt_irrefl (a : Txt) : ¬ a < a := List.lt_irrefl a
theorem tlt_trans {a b c : Txt} (h : a < b) (k : b < c) : a < c := List.lt_trans h k
theorem tlt_asymm {a b : Txt} (h : a < b) : ¬ b < a := fun k => tlt_irrefl a (tlt_trans h k)
theorem tlt_tri (a b : Txt) : a < b ∨ a = b ∨ b < a := by
  by_cases h : a < b
  · exact .inl h
  · by_cases k : b < a
    · exact .inr (.inr k)
    · exact .inr (.inl (List.le_antisymm k h))

def strict (l : List Txt) : Prop := l.Pairwise (· < ·)
theorem txt_unique : ∀ {a b : List Txt}, strict a → strict b → (∀ x, x ∈ a ↔ x ∈ b) → a = b
  | [], [], _, _, _ => rfl
  | [], y :: b, _, _, h => by have := (h y).2 (by simp); cases this
  | x :: a, [], _, _, h => by have := (h x).1 (by simp); cases this
  | x :: a, y :: b, ha, hb, h => by
    have ha' := List.pairwise_cons.1 ha
    have hb' := List.pairwise_cons.1 hb
    have e : x = y := by
      rcases List.mem_cons.1 ((h x).1 (by simp)) with e | hx
      · exact e
      · rcases List.mem_cons.1 ((h y).2 (by simp)) with e | hy
        · exact e.symm
        · exact absurd (ha'.1 y hy) (tlt_asymm (hb'.1 x hx))
    subst e
    congr 1
    refine txt_unique ha'.2 hb'.2 fun z => ⟨fun hz => ?_, fun hz => ?_⟩
    · rcases List.mem_cons.1 ((h z).1 (by simp [hz])) with e | hz'
      · subst e; exact absurd (ha'.1 z hz) (tlt_irrefl z)
      · exact hz'
    · rcases List.mem_cons.1 ((h z).2 (by simp [hz])) with e | hz'
      · subst e; exact absurd (hb'.1 z hz) (tlt_irrefl z)
      · exact hz'

/-- A text put into a strict list, where it is none of its own. -/
def insU (x : Txt) (out : List Txt) : List Txt :=
  let a := out.takeWhile (fun y => decide (y < x))
  let b := out.drop a.length
  if b.head? = some x then out else a ++ x :: b
def onceL (l : List Txt) : List Txt := l.foldl (fun out x => insU x out) []

theorem insU_nil (x : Txt) : insU x [] = [x] := rfl
theorem insU_cons (x y : Txt) (out : List Txt) : insU x (y :: out) = if y < x then y :: insU x out else if y = x then y :: out else x :: y :: out := by
  unfold insU
  by_cases h : y < x
  · rw [if_pos h, List.takeWhile_cons_of_pos (by simpa using h)]
    simp only [List.length_cons, List.drop_succ_cons]
    split <;> simp
  · rw [if_neg h, List.takeWhile_cons_of_neg (by simpa using h)]
    simp only [List.length_nil, List.drop_zero, List.head?_cons, Option.some.injEq, List.nil_append]
theorem insU_mem (x : Txt) : ∀ (out : List Txt) (z : Txt), z ∈ insU x out ↔ z = x ∨ z ∈ out
  | [], z => by simp [insU_nil]
  | y :: out, z => by
    rw [insU_cons]
    by_cases h : y < x
    · rw [if_pos h, List.mem_cons, insU_mem x out z, List.mem_cons]
      exact ⟨fun h => by rcases h with h | h | h; exact .inr (.inl h); exact .inl h; exact .inr (.inr h), fun h => by rcases h with h | h | h; exact .inr (.inl h); exact .inl h; exact .inr (.inr h)⟩
    · rw [if_neg h]
      by_cases e : y = x
      · subst e
        rw [if_pos rfl]
        exact ⟨fun h => .inr h, fun h => by rcases h with rfl | h; exact List.mem_cons_self; exact h⟩
      · rw [if_neg e]; simp
theorem insU_strict (x : Txt) : ∀ (out : List Txt), strict out → strict (insU x out)
  | [], _ => by rw [insU_nil]; exact List.pairwise_singleton _ _
  | y :: out, h => by
    have h' := List.pairwise_cons.1 h
    rw [insU_cons]
    by_cases c : y < x
    · rw [if_pos c]
      refine List.pairwise_cons.2 ⟨fun z hz => ?_, insU_strict x out h'.2⟩
      rcases (insU_mem x out z).1 hz with rfl | hz
      · exact c
      · exact h'.1 z hz
    · rw [if_neg c]
      by_cases e : y = x
      · rw [if_pos e]; exact h
      · rw [if_neg e]
        have hxy : x < y := by
          rcases tlt_tri y x with k | k | k
          · exact absurd k c
          · exact absurd k e
          · exact k
        refine List.pairwise_cons.2 ⟨fun z hz => ?_, h⟩
        rcases List.mem_cons.1 hz with rfl | hz
        · exact hxy
        · exact tlt_trans hxy (h'.1 z hz)
theorem onceGo : ∀ (l out : List Txt), strict out → strict (l.foldl (fun out x => insU x out) out) ∧ ∀ z, z ∈ l.foldl (fun out x => insU x out) out ↔ z ∈ l ∨ z ∈ out
  | [], out, h => ⟨h, fun z => by simp⟩
  | x :: l, out, h => by
    have ih := onceGo l (insU x out) (insU_strict x out h)
    refine ⟨ih.1, fun z => ?_⟩
    rw [List.foldl_cons, ih.2 z, insU_mem, List.mem_cons]
    exact ⟨fun h => by rcases h with h | h | h; exact .inl (.inr h); exact .inl (.inl h); exact .inr h, fun h => by rcases h with (h | h) | h; exact .inr (.inl h); exact .inl h; exact .inr (.inr h)⟩
theorem once_strict (l : List Txt) : strict (onceL l) := (onceGo l [] List.Pairwise.nil).1
theorem once_mem (l : List Txt) (z : Txt) : z ∈ onceL l ↔ z ∈ l := by
  have := (onceGo l [] List.Pairwise.nil).2 z
  simpa [onceL] using this
theorem once_unique {l m : List Txt} (hm : strict m) (h : ∀ z, z ∈ m ↔ z ∈ l) : m = onceL l :=
  txt_unique hm (once_strict l) fun z => (h z).trans (once_mem l z).symm

/-- A sorted list without its doubles. -/
theorem compact_once (zs : List Txt) (hs : zs.Pairwise (· ≤ ·)) : Lib.compact zs = onceL zs := by
  have hget : ∀ i, i < zs.length → zs.toArray[i]! = zs.getD i [] := by
    intro i hi
    simp [hi]
  have hle : ∀ i j, i ≤ j → j < zs.length → zs.getD i [] ≤ zs.getD j [] := by
    intro i j hij hj
    rcases Nat.eq_or_lt_of_le hij with rfl | hlt
    · exact List.le_refl _
    · have := List.pairwise_iff_getElem.1 hs i j (by omega) hj hlt
      simpa [List.getD_eq_getElem?_getD, List.getElem?_eq_getElem (show i < zs.length by omega), List.getElem?_eq_getElem hj] using this
  refine once_unique ?_ ?_
  · unfold strict Lib.compact Lib.compactUpTo
    refine List.pairwise_map.2 ?_
    have h1 : ((List.range zs.length).filter (Lib.keeps zs.toArray)).Pairwise (· < ·) := List.Pairwise.filter _ List.pairwise_lt_range
    refine List.Pairwise.imp_of_mem ?_ h1
    intro i j hi hj hij
    obtain ⟨hi1, _⟩ := List.mem_filter.1 hi
    obtain ⟨hj1, hj2⟩ := List.mem_filter.1 hj
    have hj1' := List.mem_range.1 hj1
    have hk : zs.toArray[j]! ≠ zs.toArray[j - 1]! := by
      have : j = 0 ∨ zs.toArray[j]! ≠ zs.toArray[j - 1]! := by simpa [Lib.keeps] using hj2
      rcases this with h | h
      · omega
      · exact h
    rw [hget j hj1', hget (j - 1) (by omega)] at hk
    rw [hget i (by omega), hget j hj1']
    have a := hle i (j - 1) (by omega) (by omega)
    have b := hle (j - 1) j (by omega) hj1'
    rcases tlt_tri (zs.getD i []) (zs.getD j []) with h | h | h
    · exact h
    · exfalso
      rw [h] at a
      exact hk (List.le_antisymm a b)
    · exact absurd h (List.le_trans a b)
  · intro z
    unfold Lib.compact Lib.compactUpTo
    constructor
    · intro h
      obtain ⟨i, hi, rfl⟩ := List.mem_map.1 h
      have hi' := List.mem_range.1 (List.mem_filter.1 hi).1
      rw [hget i hi', List.getD_eq_getElem?_getD, List.getElem?_eq_getElem hi']
      exact List.getElem_mem _
    · intro h
      obtain ⟨n, hn, e⟩ := List.mem_iff_getElem.1 h
      have : ∀ m, m < zs.length → ∃ i, i ∈ (List.range zs.length).filter (Lib.keeps zs.toArray) ∧ zs.toArray[i]! = zs.toArray[m]! := by
        intro m
        induction m with
        | zero =>
          intro hm
          exact ⟨0, List.mem_filter.2 ⟨List.mem_range.2 hm, by simp [Lib.keeps]⟩, rfl⟩
        | succ m ih =>
          intro hm
          by_cases c : zs.toArray[m + 1]! = zs.toArray[m]!
          · obtain ⟨i, hi, e⟩ := ih (by omega)
            exact ⟨i, hi, e.trans c.symm⟩
          · exact ⟨m + 1, List.mem_filter.2 ⟨List.mem_range.2 hm, by simp only [Lib.keeps, Nat.add_sub_cancel]; exact decide_eq_true (.inr c)⟩, rfl⟩
      obtain ⟨i, hi, e2⟩ := this n hn
      refine List.mem_map.2 ⟨i, hi, ?_⟩
      rw [e2, hget n hn, List.getD_eq_getElem?_getD, List.getElem?_eq_getElem hn]
      exact e
theorem once_sorted (l : List Txt) : Lib.compact (l.mergeSort fun x y => decide (x ≤ y)) = onceL l := by
  have hs : (l.mergeSort fun x y => decide (x ≤ y)).Pairwise (· ≤ ·) := by
    have := List.pairwise_mergeSort (le := fun x y : Txt => decide (x ≤ y)) (fun a b c h1 h2 => by
      simp only [decide_eq_true_eq] at *
      exact List.le_trans h1 h2) (fun a b => by
      simp only [Bool.or_eq_true, decide_eq_true_eq]
      exact List.le_total a b) l
    exact this.imp (by intro a b h; simpa using h)
  rw [compact_once _ hs]
  refine (once_unique (once_strict _) fun z => ?_)
  rw [once_mem]
  exact List.mem_mergeSort
end Go.Proofs.YtaimldndooijdaaGreatDoor
/-
  Plain laws of words: runs of joined rows, of folded rows; a word's own words. No program in sight.
-/
namespace Go.Proofs.YtaimldndooijdaaGreatDoor
open Go.Lib

def runsOf (l : List Nat) : List (List Nat) := (segs 0 l).map (·.2)
theorem runsOf_any (l : List Nat) (k : Nat) : (segs k l).map (·.2) = runsOf l := by
  have := segs_shift l 0 k
  rw [Nat.zero_add] at this
  rw [this, List.map_map]
  rfl
theorem runsOf_skip {r : Nat} (h : wordN r = false) (t : List Nat) : runsOf (r :: t) = runsOf t := by
  unfold runsOf
  rw [segs_skip h]
  exact runsOf_any t 1
theorem runsOf_run (run rest : List Nat) (h : run ≠ []) (hw : ∀ r ∈ run, wordN r = true) (hs : stops rest) : runsOf (run ++ rest) = run :: runsOf rest := by
  have := segs_run run rest 0 h hw hs
  unfold runsOf
  rw [this, List.map_cons]
  exact congrArg (run :: ·) (runsOf_any rest _)
/-- An induction over the runs of a row. -/
theorem runs_rec {P : List Nat → Prop} (h0 : P []) (h1 : ∀ r t, wordN r = false → P t → P (r :: t))
    (h2 : ∀ run rest, run ≠ [] → (∀ r ∈ run, wordN r = true) → stops rest → P rest → P (run ++ rest)) : ∀ l, P l := by
  have : ∀ n (l : List Nat), l.length ≤ n → P l := by
    intro n
    induction n with
    | zero => intro l hl; have : l = [] := List.eq_nil_of_length_eq_zero (by omega); subst this; exact h0
    | succ n ih =>
      intro l hl
      obtain ⟨run, rest, rfl, ha, hs⟩ := take_run l
      by_cases hr : run = []
      · subst hr
        rw [List.nil_append] at hl ⊢
        rcases hs with rfl | ⟨r, t, rfl, hw⟩
        · exact h0
        · exact h1 r t hw (ih t (by simp at hl; omega))
      · refine h2 run rest hr ha hs (ih rest ?_)
        have : 0 < run.length := List.length_pos_iff.2 hr
        rw [List.length_append] at hl
        omega
  exact fun l => this l.length l (Nat.le_refl _)

/-- Every run is of word runes, and holds one at least. -/
theorem runsOf_word (l : List Nat) : ∀ run ∈ runsOf l, run ≠ [] ∧ (∀ r ∈ run, wordN r = true) ∧ ∀ r ∈ run, r ∈ l := by
  refine runs_rec (P := fun l => ∀ run ∈ runsOf l, run ≠ [] ∧ (∀ r ∈ run, wordN r = true) ∧ ∀ r ∈ run, r ∈ l) ?_ ?_ ?_ l
  · intro run h; cases h
  · intro r t hr ih run h
    rw [runsOf_skip hr] at h
    obtain ⟨a, b, c⟩ := ih run h
    exact ⟨a, b, fun x hx => by simp [c x hx]⟩
  · intro run rest hne hw hs ih u h
    rw [runsOf_run run rest hne hw hs] at h
    rcases List.mem_cons.1 h with rfl | h
    · exact ⟨hne, hw, fun x hx => by simp [hx]⟩
    · obtain ⟨a, b, c⟩ := ih u h
      exact ⟨a, b, fun x hx => by simp [c x hx]⟩
theorem words_runs (l : List UInt8) : words l = (runsOf (runes l)).map wordOf := by
  unfold words runsOf
  rw [List.map_map]; rfl
end Go.Proofs.YtaimldndooijdaaGreatDoor
/-
  Plain laws of runs: a rune more at the end. No program in sight.
-/
namespace Go.Proofs.YtaimldndooijdaaGreatDoor

end Go.Proofs.YtaimldndooijdaaGreatDoor
/-
  What the list of runs that text.runs builds looks like in memory, step by step.
-/
namespace Go.Proofs.YtaimldndooijdaaGreatDoor
open Go.RowKit

/-- A run as it is kept: its word's runes, and where it begins and ends. -/
def wr32 (run : List Nat) : List Nat := (run.take 32).map smallN
theorem wr32_len (run : List Nat) : (wr32 run).length ≤ 32 := by
  unfold wr32
  rw [List.length_map, List.length_take]
  omega
theorem wr32_snoc (run : List Nat) (r : Nat) : wr32 (run ++ [r]) = if (wr32 run).length < 32 then wr32 run ++ [smallN r] else wr32 run := by
  unfold wr32
  rw [List.length_map, List.length_take]
  by_cases h : run.length < 32
  · rw [if_pos (by omega), List.take_of_length_le (by simp; omega), List.take_of_length_le (by omega), List.map_append]
    rfl
  · rw [if_neg (by omega), List.take_append_of_le_length (by omega)]
/-- The cells of a list of runs. -/
def flat3 (E : List (Value × Nat × Nat)) : List Value := E.flatMap fun x => [x.1, .int .i64 (x.2.1 : Int), .int .i64 (x.2.2 : Int)]
theorem flat3_len (E : List (Value × Nat × Nat)) : (flat3 E).length = E.length * 3 := by
  induction E with
  | nil => rfl
  | cons x E ih => simp only [flat3, List.flatMap_cons, List.length_append] at ih ⊢; rw [ih]; simp; omega
theorem flat3_app (E F : List (Value × Nat × Nat)) : flat3 (E ++ F) = flat3 E ++ flat3 F := by simp [flat3]
theorem flat3_get (E : List (Value × Nat × Nat)) (j : Nat) (h : j < E.length) :
    (flat3 E)[j * 3]? = some E[j].1 ∧ (flat3 E)[j * 3 + 1]? = some (.int .i64 (E[j].2.1 : Int)) ∧ (flat3 E)[j * 3 + 2]? = some (.int .i64 (E[j].2.2 : Int)) := by
  have e : E = E.take j ++ (E[j] :: E.drop (j + 1)) := by simp
  have hl : (flat3 (E.take j)).length = j * 3 := by rw [flat3_len, List.length_take]; congr 1; omega
  have : flat3 E = flat3 (E.take j) ++ ([E[j].1, .int .i64 (E[j].2.1 : Int), .int .i64 (E[j].2.2 : Int)] ++ flat3 (E.drop (j + 1))) := by
    conv => lhs; rw [e]
    rw [flat3_app]
    rfl
  rw [this]
  refine ⟨?_, ?_, ?_⟩
  · rw [List.getElem?_append_right (by omega), hl]; simp
  · rw [List.getElem?_append_right (by omega), hl]; simp
  · rw [List.getElem?_append_right (by omega), hl]; simp

/-- A word that is done: its runes lie in a block of their own, from B on and below K. -/
def Done (w : World) (B K : Nat) (v : Value) (run : List Nat) : Prop := w.ownsRow B 21 1 v (wr32 run).length ((wr32 run).map runeCell) ∧ ∀ k, v.ownBlock = some k → k < K
/-- All runs but the last are done; the last one's word lies behind them. -/
def RunsMem (w : World) (B : Nat) (l : Value) (L : List (List Nat × Nat × Nat)) : Prop :=
  (L = [] ∧ l = .slice none 0 0) ∨
  ∃ (L0 : List (List Nat × Nat × Nat)) (run : List Nat) (f t : Nat) (E : List Value) (wv : Value) (K g cap : Nat), L = L0 ++ [(run, f, t)] ∧ E.length = L0.length ∧ l = .slice (some ⟨g, 0, none⟩) (L0.length + 1) cap ∧ g < K ∧
    w.ownsRow B 87 3 l (L0.length + 1) (flat3 (E.zip (L0.map (·.2))) ++ [wv, .int .i64 (f : Int), .int .i64 (t : Int)]) ∧
    (∀ j (h : j < L0.length) (h' : j < E.length), Done w B K E[j] L0[j].1) ∧ w.ownsRow K 21 1 wv (wr32 run).length ((wr32 run).map runeCell) ∧ B ≤ K ∧ K ≤ w.heap.size

theorem block_ne {w : World} {A B : Nat} {v u : Value} {n m sz : Nat} {xs ys : List Value} {e e' : TypeId} (h : w.ownsRow A e sz v n xs) (k : w.ownsRow B e' 1 u m ys) (hne : e ≠ e') {g : Nat} (hg : v.ownBlock = some g) : u.ownBlock ≠ some g := by
  intro hu
  rcases h.2 with ⟨rfl, _⟩ | ⟨g1, c1, cur1, rfl, _, h1, _⟩
  · cases hg
  · rcases k.2 with ⟨rfl, _⟩ | ⟨g2, c2, cur2, rfl, _, h2, _⟩
    · cases hu
    · simp only [Value.ownBlock, Option.some.injEq] at hg hu
      rw [hg] at h1
      rw [hu] at h2
      rw [h1] at h2
      simp only [Option.some.injEq, Obj.cells.injEq] at h2
      exact hne h2.2.1
theorem Done.kept {w w' : World} {B K : Nat} {v : Value} {run : List Nat} (h : Done w B K v run) {row : Option Nat} (hg : w.grownBy w' row) (hne : v.ownBlock = none ∨ v.ownBlock ≠ row) : Done w' B K v run := ⟨h.1.kept hg hne, h.2⟩
theorem Done.mono {w : World} {B K K' : Nat} {v : Value} {run : List Nat} (h : Done w B K v run) (hK : K ≤ K') : Done w B K' v run := ⟨h.1, fun k hk => Nat.lt_of_lt_of_le (h.2 k hk) hK⟩

/-- A world in which blocks below B alone may have turned, and new ones came. -/
theorem runsMem_above {w w' : World} {B : Nat} {l : Value} {L : List (List Nat × Nat × Nat)} (h : RunsMem w B l L) (hs : w.heap.size ≤ w'.heap.size) (hb : ∀ k, B ≤ k → k < w.heap.size → w'.heap[k]? = w.heap[k]?) : RunsMem w' B l L := by
  have hk : ∀ {A : Nat} {e : TypeId} {sz n : Nat} {v : Value} {xs : List Value}, B ≤ A → w.ownsRow A e sz v n xs → w'.ownsRow A e sz v n xs := by
    intro A e sz n v xs hA h
    refine ⟨h.1, ?_⟩
    rcases h.2 with h2 | ⟨g, cap, cur, rfl, hg, hh, r⟩
    · exact .inl h2
    · exact .inr ⟨g, cap, cur, rfl, hg, by rw [hb g (by omega) (Array.getElem?_eq_some_iff.1 hh).1]; exact hh, r⟩
  rcases h with h | ⟨L0, run, f, t, E, wv, K, g, cap, e1, e2, e3, hg, hown, hd, hw, hB, hK⟩
  · exact .inl h
  · exact .inr ⟨L0, run, f, t, E, wv, K, g, cap, e1, e2, e3, hg, hk (Nat.le_refl _) hown, fun j h h' => ⟨hk (Nat.le_refl _) (hd j h h').1, (hd j h h').2⟩, hk hB hw, hB, by omega⟩

/-- All of the list's cells, whatever it holds. -/
theorem runsMem_owns {w : World} {B : Nat} {l : Value} {L : List (List Nat × Nat × Nat)} (h : RunsMem w B l L) :
    ∃ E : List Value, E.length = L.length ∧ w.ownsRow B 87 3 l L.length (flat3 (E.zip (L.map (·.2)))) ∧ ∀ j (hj : j < L.length) (h' : j < E.length), Done w B w.heap.size E[j] L[j].1 := by
  rcases h with ⟨rfl, rfl⟩ | ⟨L0, run, f, t, E, wv, K, g, cap, rfl, e2, e3, hg, hown, hd, hw, hB, hK⟩
  · exact ⟨[], rfl, World.ownsRow_nil _ _ _ _, fun j hj => by cases hj⟩
  · refine ⟨E ++ [wv], by simp [e2], ?_, fun j hj h' => ?_⟩
    · rw [List.length_append, List.map_append, List.zip_append (by simp [e2]), flat3_app]
      exact hown
    · by_cases c : j < L0.length
      · rw [List.getElem_append_left (by omega)]
        have := hd j c (by omega)
        rw [show (L0 ++ [(run, f, t)])[j] = L0[j] from List.getElem_append_left c]
        exact this.mono hK
      · simp only [List.length_append, List.length_singleton] at hj
        obtain rfl : j = L0.length := by omega
        have e4 : (E ++ [wv])[L0.length]'h' = wv := by simp [← e2]
        have e5 : (L0 ++ [(run, f, t)])[L0.length]'(by simp) = (run, f, t) := by simp
        rw [e4, e5]
        exact ⟨owns_base hw hB, fun k hk => (hw.lt k hk).2⟩

/-- A new run. -/
theorem runsMem_new {w w1 : World} {B g cap : Nat} {l : Value} {L : List (List Nat × Nat × Nat)} (h : RunsMem w B l L) (o : Obj) (f t : Nat) (hB : B ≤ w.heap.size)
    (hown : ∀ E : List Value, E.length = L.length → w.ownsRow B 87 3 l L.length (flat3 (E.zip (L.map (·.2)))) →
      w1.ownsRow B 87 3 (.slice (some ⟨g, 0, none⟩) (L.length + 1) cap) (L.length + 1) (flat3 (E.zip (L.map (·.2))) ++ [.slice none 0 0, .int .i64 (f : Int), .int .i64 (t : Int)]))
    (hgr : (w.alloc o).grownBy w1 l.ownBlock) : RunsMem w1 B (.slice (some ⟨g, 0, none⟩) (L.length + 1) cap) (L ++ [([], f, t)]) := by
  obtain ⟨E, hE, ho, hd⟩ := runsMem_owns h
  have hown1 := hown E hE ho
  have hlt := (hown1.lt g rfl).2
  have hsz := hgr.size
  simp at hsz
  refine .inr ⟨L, [], f, t, E, .slice none 0 0, w1.heap.size, g, cap, rfl, hE, rfl, hlt, hown1, fun j hj h' => ?_, World.ownsRow_nil _ _ _ _, by omega, Nat.le_refl _⟩
  have hdj := hd j hj h'
  have hda : Done (w.alloc o) B w.heap.size E[j] L[j].1 := ⟨hdj.1.alloc o, hdj.2⟩
  refine (hda.kept hgr ?_).mono (by omega)
  cases hv : l.ownBlock with
  | none => cases hu : E[j].ownBlock <;> simp
  | some g' => exact .inr (block_ne ho hdj.1 (by decide) hv)

/-- The last run's word, and what becomes of the list where it is turned; where its end is. -/
theorem runsMem_last {w : World} {B : Nat} {l : Value} {L0 : List (List Nat × Nat × Nat)} {run : List Nat} {f t : Nat} (h : RunsMem w B l (L0 ++ [(run, f, t)])) :
    ∃ wv K g cap, l = .slice (some ⟨g, 0, none⟩) (L0.length + 1) cap ∧ B ≤ g ∧ g < w.heap.size ∧ K ≤ w.heap.size ∧ w.ownsRow K 21 1 wv (wr32 run).length ((wr32 run).map runeCell) ∧
      w.cell? ⟨g, L0.length * 3, none⟩ = some wv ∧ w.cell? ⟨g, L0.length * 3 + 2, none⟩ = some (.int .i64 (t : Int)) ∧ (∀ j, w.frozen? ⟨g, j, none⟩ = false) ∧ (∀ k, wv.ownBlock = some k → k ≠ g ∧ B ≤ k) ∧ B ≤ K ∧
      (∀ t' : Nat, RunsMem (w.setCell ⟨g, L0.length * 3 + 2, none⟩ (.int .i64 (t' : Int))) B l (L0 ++ [(run, f, t')])) ∧
      ∀ (o : Obj) (w1 : World) (run' : List Nat) (wv1 : Value), (w.alloc o).grownBy w1 wv.ownBlock → w1.ownsRow K 21 1 wv1 (wr32 run').length ((wr32 run').map runeCell) →
        RunsMem (w1.setCell ⟨g, L0.length * 3, none⟩ wv1) B l (L0 ++ [(run', f, t)]) := by
  rcases h with ⟨e, _⟩ | ⟨L0', run0, f0, t0, E, wv, K, g, cap, e1, e2, e3, hg, hown, hd, hw, hB, hK⟩
  · simp at e
  · obtain ⟨rfl, e4⟩ := List.append_inj' e1 rfl
    simp only [List.cons.injEq, Prod.mk.injEq, and_true] at e4
    obtain ⟨rfl, rfl, rfl⟩ := e4
    have hfl : (flat3 (E.zip (L0.map (·.2)))).length = L0.length * 3 := by rw [flat3_len, List.length_zip, List.length_map]; congr 1; omega
    subst e3
    have hc0 := hown.cellAt (L0.length * 3) (by omega)
    have hc2 := hown.cellAt (L0.length * 3 + 2) (by omega)
    rw [List.getElem?_append_right (by omega), hfl] at hc0 hc2
    have hset : ∀ {W : World} {A j n : Nat} {u v : Value} {xs : List Value}, W.ownsRow A 21 1 v n xs → v.ownBlock ≠ some g → (W.setCell ⟨g, j, none⟩ u).ownsRow A 21 1 v n xs := by
      intro W A j n u v xs h hv
      exact ownsRow_setCell_other h (a := ⟨g, _, none⟩) hv _
    refine ⟨wv, K, g, cap, rfl, (hown.lt g rfl).1, (hown.lt g rfl).2, hK, hw, by rw [hc0]; simp, by rw [hc2]; simp, fun j => hown.frozenAt j, fun k hk => by have := (hw.lt k hk).1; omega, hB, ?_, ?_⟩
    · intro t'
      have h3 := (hown.stored (L0.length * 3 + 2) (.int .i64 (t' : Int))).1
      rw [List.set_append_right _ _ (by omega), hfl, show L0.length * 3 + 2 - L0.length * 3 = 2 from by omega] at h3
      refine .inr ⟨L0, run, f, t', E, wv, K, g, cap, rfl, e2, rfl, hg, h3, fun j hj h' => ?_, hset hw ?_, hB, by simp; omega⟩
      · have hdj := hd j hj h'
        exact ⟨hset hdj.1 (block_ne hown hdj.1 (by decide) rfl), hdj.2⟩
      · intro e
        have := (hw.lt g e).1
        omega
    · intro o w1 run' wv1 hgr hw1
      have hgn : ∀ k, wv.ownBlock = some k → k ≠ g := fun k hk => by have := (hw.lt k hk).1; omega
      have h1 : w1.ownsRow B 87 3 (.slice (some ⟨g, 0, none⟩) (L0.length + 1) cap) (L0.length + 1) (flat3 (E.zip (L0.map (·.2))) ++ [wv, .int .i64 (f : Int), .int .i64 (t : Int)]) :=
        (hown.alloc o).kept hgr (by
          cases hv : wv.ownBlock with
          | none => exact .inr (by simp [Value.ownBlock])
          | some k => exact .inr (by simp only [Value.ownBlock, ne_eq, Option.some.injEq]; exact fun e => hgn k hv e.symm))
      have h2 := (h1.stored (L0.length * 3) wv1).1
      rw [List.set_append_right _ _ (by omega), hfl, Nat.sub_self] at h2
      have hsz := hgr.size
      simp at hsz
      refine .inr ⟨L0, run', f, t, E, wv1, K, g, cap, rfl, e2, rfl, hg, h2, fun j hj h' => ?_, hset hw1 ?_, hB, by simp; omega⟩
      · have hdj := hd j hj h'
        have hda : Done (w.alloc o) B K E[j] L0[j].1 := ⟨hdj.1.alloc o, hdj.2⟩
        have hdk := hda.kept hgr (by
          cases hv : wv.ownBlock with
          | none => cases hu : E[j].ownBlock <;> simp
          | some k => exact .inr (fun e => by have := hdj.2 k e; have := (hw.lt k hv).1; omega))
        exact ⟨hset hdk.1 (block_ne h1 hdk.1 (by decide) rfl), hdk.2⟩
      · intro e
        have := (hw1.lt g e).1
        omega
theorem runsMem_full {w : World} {B : Nat} {l : Value} {L0 : List (List Nat × Nat × Nat)} {run run' : List Nat} {f t : Nat} (h : RunsMem w B l (L0 ++ [(run, f, t)])) (e : wr32 run' = wr32 run) : RunsMem w B l (L0 ++ [(run', f, t)]) := by
  rcases h with ⟨e, _⟩ | ⟨L0', run0, f0, t0, E, wv, K, g, cap, e1, e2, e3, hg, hown, hd, hw, hB, hK⟩
  · simp at e
  · obtain ⟨rfl, e4⟩ := List.append_inj' e1 rfl
    simp only [List.cons.injEq, Prod.mk.injEq, and_true] at e4
    obtain ⟨rfl, rfl, rfl⟩ := e4
    exact .inr ⟨L0, run', f, t, E, wv, K, g, cap, rfl, e2, e3, hg, hown, hd, by rw [e]; exact hw, hB, hK⟩
end Go.Proofs.YtaimldndooijdaaGreatDoor
/-
  Plain laws of runs: what text.runs gathers, byte by byte, are the runs of the text's runes. No program in sight.
-/
namespace Go.Proofs.YtaimldndooijdaaGreatDoor
open Go.Lib

theorem decodeL_pos (l : List UInt8) : 1 ≤ (decodeL l).2 := by
  unfold decodeL
  exact Lib.width_pos _ _
/-- The runes of a text, with their places and widths. -/
def marksGo : Nat → Nat → List UInt8 → List (Nat × Nat × Nat)
  | 0, _, _ => []
  | _ + 1, _, [] => []
  | n + 1, p, b :: t => ((decodeL (b :: t)).1, p, (decodeL (b :: t)).2) :: marksGo n (p + (decodeL (b :: t)).2) ((b :: t).drop (decodeL (b :: t)).2)
def marks (p : Nat) (l : List UInt8) : List (Nat × Nat × Nat) := marksGo l.length p l
theorem marksGo_nil (n p : Nat) : marksGo n p [] = [] := by cases n <;> rfl
theorem marksGo_fuel : ∀ (n m p : Nat) (l : List UInt8), l.length ≤ n → l.length ≤ m → marksGo n p l = marksGo m p l := by
  intro n
  induction n with
  | zero =>
    intro m p l h _
    have : l = [] := List.eq_nil_of_length_eq_zero (by omega)
    subst this
    rw [marksGo_nil, marksGo_nil]
  | succ n ih =>
    intro m p l hn hm
    cases l with
    | nil => rw [marksGo_nil, marksGo_nil]
    | cons b t =>
      cases m with
      | zero => simp at hm
      | succ m =>
        have hw := decodeL_le (b :: t) (by simp)
        have hp := decodeL_pos (b :: t)
        simp only [marksGo]
        rw [ih m _ _ (by rw [List.length_drop]; simp only [List.length_cons] at *; omega) (by rw [List.length_drop]; simp only [List.length_cons] at *; omega)]
theorem marks_step (p : Nat) (l : List UInt8) (hne : l ≠ []) : marks p l = ((decodeL l).1, p, (decodeL l).2) :: marks (p + (decodeL l).2) (l.drop (decodeL l).2) := by
  cases l with
  | nil => exact absurd rfl hne
  | cons b t =>
    have hp := decodeL_pos (b :: t)
    unfold marks
    simp only [List.length_cons, marksGo]
    rw [marksGo_fuel t.length _ _ _ (by rw [List.length_drop]; simp only [List.length_cons]; omega) (Nat.le_refl _)]
theorem marks_runes (l : List UInt8) : ∀ p, (marks p l).map (·.1) = runes l := by
  refine runes_ind (P := fun l => ∀ p, (marks p l).map (·.1) = runes l) ?_ ?_ l
  · intro p; rfl
  · intro l hne ih p
    rw [marks_step p l hne, runes_step l hne, List.map_cons, ih]
/-- Each place is behind the one before. -/
def chain : Nat → Nat → List (Nat × Nat × Nat) → Prop
  | p, q, [] => p = q
  | p, q, x :: M => x.2.1 = p ∧ 1 ≤ x.2.2 ∧ chain (p + x.2.2) q M
theorem marks_chain (l : List UInt8) : ∀ p, chain p (p + l.length) (marks p l) := by
  refine runes_ind (P := fun l => ∀ p, chain p (p + l.length) (marks p l)) ?_ ?_ l
  · intro p; rfl
  · intro l hne ih p
    rw [marks_step p l hne]
    have hw := decodeL_le l hne
    refine ⟨rfl, decodeL_pos l, ?_⟩
    have := ih (p + (decodeL l).2)
    rwa [List.length_drop, show p + (decodeL l).2 + (l.length - (decodeL l).2) = p + l.length from by omega] at this
theorem chain_le : ∀ (M : List (Nat × Nat × Nat)) (p q : Nat), chain p q M → p + M.length ≤ q
  | [], p, q, h => by simp only [chain] at h; simp; omega
  | x :: M, p, q, h => by
    have := chain_le M _ _ h.2.2
    have h2 := h.2.1
    simp only [List.length_cons]; omega
theorem chain_app : ∀ (M N : List (Nat × Nat × Nat)) (p q : Nat), chain p q (M ++ N) → ∃ m, chain p m M ∧ chain m q N
  | [], N, p, q, h => ⟨p, rfl, h⟩
  | x :: M, N, p, q, h => by
    obtain ⟨m, h1, h2⟩ := chain_app M N _ _ h.2.2
    exact ⟨m, ⟨h.1, h.2.1, h1⟩, h2⟩

abbrev Run := List Nat × Nat × Nat
/-- A rune more. -/
def gather (st : Bool × List Run) (x : Nat × Nat × Nat) : Bool × List Run :=
  if wordN x.1 then
    if st.1 then (true, st.2.dropLast ++ [((st.2.getLast?.getD ([], 0, 0)).1 ++ [x.1], (st.2.getLast?.getD ([], 0, 0)).2.1, x.2.1 + x.2.2)])
    else (true, st.2 ++ [([x.1], x.2.1, x.2.1 + x.2.2)])
  else (false, st.2)
def gathered (st : Bool × List Run) (M : List (Nat × Nat × Nat)) : List Run := (M.foldl gather st).2
theorem gather_no (o : Bool) (L : List Run) (x : Nat × Nat × Nat) (h : wordN x.1 = false) : gather (o, L) x = (false, L) := by simp [gather, h]
theorem gather_new (L : List Run) (x : Nat × Nat × Nat) (h : wordN x.1 = true) : gather (false, L) x = (true, L ++ [([x.1], x.2.1, x.2.1 + x.2.2)]) := by simp [gather, h]
theorem gather_more (L : List Run) (run : List Nat) (f t : Nat) (x : Nat × Nat × Nat) (h : wordN x.1 = true) : gather (true, L ++ [(run, f, t)]) x = (true, L ++ [(run ++ [x.1], f, x.2.1 + x.2.2)]) := by simp [gather, h]
theorem gathered_cons (st : Bool × List Run) (x : Nat × Nat × Nat) (M : List (Nat × Nat × Nat)) : gathered st (x :: M) = gathered (gather st x) M := rfl
theorem gathered_flag (o : Bool) (L : List Run) (M : List (Nat × Nat × Nat)) (hs : stops (M.map (·.1))) : gathered (o, L) M = gathered (false, L) M := by
  rcases hs with h | ⟨r, t, h, hr⟩
  · have : M = [] := List.map_eq_nil_iff.1 h
    subst this; rfl
  · cases M with
    | nil => cases h
    | cons x M =>
      simp only [List.map_cons, List.cons.injEq] at h
      rw [gathered_cons, gathered_cons, gather_no _ _ _ (by rw [h.1]; exact hr), gather_no _ _ _ (by rw [h.1]; exact hr)]
theorem gathered_more : ∀ (R : List (Nat × Nat × Nat)) (L : List Run) (run : List Nat) (f t q : Nat) (M : List (Nat × Nat × Nat)), (∀ x ∈ R, wordN x.1 = true) → chain t q R →
    gathered (true, L ++ [(run, f, t)]) (R ++ M) = gathered (true, L ++ [(run ++ R.map (·.1), f, q)]) M
  | [], L, run, f, t, q, M, _, hc => by simp only [chain] at hc; subst hc; simp
  | x :: R, L, run, f, t, q, M, hw, hc => by
    rw [List.cons_append, gathered_cons, gather_more _ _ _ _ _ (hw x (by simp)), hc.1, gathered_more R L _ f _ q M (fun y hy => hw y (by simp [hy])) hc.2.2]
    simp
theorem gathered_run (R : List (Nat × Nat × Nat)) (L : List Run) (p q : Nat) (M : List (Nat × Nat × Nat)) (hne : R ≠ []) (hw : ∀ x ∈ R, wordN x.1 = true) (hc : chain p q R) :
    gathered (false, L) (R ++ M) = gathered (true, L ++ [(R.map (·.1), p, q)]) M := by
  cases R with
  | nil => exact absurd rfl hne
  | cons x R =>
    rw [List.cons_append, gathered_cons, gather_new _ _ (hw x (by simp)), hc.1, gathered_more R L _ p _ q M (fun y hy => hw y (by simp [hy])) hc.2.2]
    simp

/-- All of what is gathered: beside each run its place among the runes; whether it is an inner one. -/
theorem gathered_all : ∀ (n : Nat) (M : List (Nat × Nat × Nat)) (k0 p0 S N : Nat) (L : List Run), M.length ≤ n → (p0 = 0 ↔ k0 = 0) → chain p0 S M → k0 + M.length = N →
    ∃ L4 : List (Nat × Run), gathered (false, L) M = L ++ L4.map (·.2) ∧ L4.map (fun x => (x.1, x.2.1)) = segs k0 (M.map (·.1)) ∧
      ∀ x ∈ L4, (0 < x.2.2.1 ∧ x.2.2.2 < S ↔ 0 < x.1 ∧ x.1 + x.2.1.length < N) ∧ x.2.2.2 ≤ S := by
  intro n
  induction n with
  | zero =>
    intro M k0 p0 S N L hn _ _ _
    have : M = [] := List.eq_nil_of_length_eq_zero (by omega)
    subst this
    exact ⟨[], by simp [gathered], rfl, fun x hx => by cases hx⟩
  | succ n ih =>
    intro M k0 p0 S N L hn hz hc hN
    obtain ⟨run, rest, hrr, hall, hstop⟩ := take_run (M.map (·.1))
    obtain ⟨R, M', rfl, hR, hM'⟩ := List.map_eq_append_iff.1 hrr
    by_cases h0 : R = []
    · subst h0
      simp only [List.map_nil] at hR
      subst hR
      rw [List.nil_append] at hn hc hN ⊢
      cases M' with
      | nil => exact ⟨[], by simp [gathered], rfl, fun x hx => by cases hx⟩
      | cons x M' =>
        have hx : wordN x.1 = false := by
          rcases hstop with h | ⟨r, t, h, hr⟩
          · rw [h] at hM'; cases hM'
          · rw [h] at hM'
            simp only [List.map_cons, List.cons.injEq] at hM'
            rw [hM'.1]; exact hr
        have h1 := hc.2.1
        obtain ⟨L4, e1, e2, e3⟩ := ih M' (k0 + 1) (p0 + x.2.2) S N L (by simp at hn; omega) (by omega) hc.2.2 (by simp at hN; omega)
        exact ⟨L4, by rw [gathered_cons, gather_no _ _ _ hx]; exact e1, by rw [List.map_cons, segs_skip hx]; exact e2, e3⟩
    · obtain ⟨m, c1, c2⟩ := chain_app R M' _ _ hc
      have hRl : 0 < R.length := List.length_pos_iff.2 h0
      have hle := chain_le R _ _ c1
      have hle2 := chain_le M' _ _ c2
      have hrl : run.length = R.length := by rw [← hR, List.length_map]
      rw [List.length_append] at hn hN
      have hwR : ∀ x ∈ R, wordN x.1 = true := fun x hx => hall x.1 (by rw [← hR]; exact List.mem_map_of_mem hx)
      obtain ⟨L4, e1, e2, e3⟩ := ih M' (k0 + R.length) m S N (L ++ [(run, p0, m)]) (by omega) (by omega) c2 (by omega)
      refine ⟨(k0, (run, p0, m)) :: L4, ?_, ?_, ?_⟩
      · rw [gathered_run R L p0 m M' h0 hwR c1, gathered_flag _ _ _ (by rw [hM']; exact hstop), hR, e1]
        simp
      · rw [List.map_append, hR, hM', segs_run run rest k0 (by intro e; rw [e] at hrl; simp at hrl; omega) hall hstop, List.map_cons, e2, hrl, hM']
      · intro x hx
        rcases List.mem_cons.1 hx with rfl | hx
        · refine ⟨?_, by simp only; omega⟩
          simp only
          have : m < S ↔ k0 + run.length < N := by
            cases M' with
            | nil => simp only [chain] at c2; simp at hN; omega
            | cons y M' => simp only [List.length_cons] at *; omega
          rw [this]
          omega
        · exact e3 x hx
/-- The runs of a text as text.runs has them. -/
def runsOfText (l : List UInt8) : List Run := gathered (false, []) (marks 0 l)
theorem runsOfText_words (l : List UInt8) : (runsOfText l).map (fun x => wordOf x.1) = words l := by
  obtain ⟨L4, e1, e2, _⟩ := gathered_all _ (marks 0 l) 0 0 l.length (runes l).length [] (Nat.le_refl _) (by omega) (by have := marks_chain l 0; rwa [Nat.zero_add] at this) (by rw [Nat.zero_add, ← marks_runes l 0, List.length_map])
  unfold runsOfText words
  rw [e1, List.nil_append, ← marks_runes l 0, ← e2, List.map_map, List.map_map]
  rfl
theorem runsOfText_le (l : List UInt8) : ∀ x ∈ runsOfText l, x.2.2 ≤ l.length ∧ scalars x.1 := by
  obtain ⟨L4, e1, e2, e3⟩ := gathered_all _ (marks 0 l) 0 0 l.length (runes l).length [] (Nat.le_refl _) (by omega) (by have := marks_chain l 0; rwa [Nat.zero_add] at this) (by rw [Nat.zero_add, ← marks_runes l 0, List.length_map])
  intro x hx
  unfold runsOfText at hx
  rw [e1, List.nil_append] at hx
  obtain ⟨y, hy, rfl⟩ := List.mem_map.1 hx
  refine ⟨(e3 y hy).2, ?_⟩
  have hm : y.2.1 ∈ runsOf (runes l) := by
    unfold runsOf
    rw [← marks_runes l 0, ← e2, List.map_map]
    exact List.mem_map.2 ⟨y, hy, rfl⟩
  obtain ⟨_, _, h⟩ := runsOf_word _ _ hm
  exact fun r hr => runes_scalars l r (h r hr)
theorem segs_len : ∀ (l : List Nat) (k : Nat), (segs k l).length ≤ l.length
  | [], _ => Nat.le_refl _
  | r :: t, k => by
    have ih := segs_len t (k + 1)
    by_cases hw : wordN r = true
    · simp only [segs, hw, if_true]
      cases hs : segs (k + 1) t with
      | nil => simp
      | cons y ys =>
        rw [hs] at ih
        obtain ⟨j, run⟩ := y
        simp only
        split <;> simp at ih ⊢ <;> omega
    · have hw' : wordN r = false := by simpa using hw
      rw [segs_skip hw']
      simp only [List.length_cons]; omega
theorem runsOfText_len (l : List UInt8) : (runsOfText l).length ≤ l.length := by
  have h := congrArg List.length (runsOfText_words l)
  unfold words at h
  rw [List.length_map, List.length_map] at h
  have h1 := segs_len (runes l) 0
  have h2 := runes_length l
  omega
end Go.Proofs.YtaimldndooijdaaGreatDoor
/-
  The contract of the reference's All.
-/
namespace Go.Proofs.YtaimldndooijdaaGreatDoor
open Go.RowKit

theorem wordB_nat (r : Nat) : wordB (r : Int) = wordN r := by
  unfold wordB wordN
  refine decide_eq_decide.2 ?_
  unfold wordRP
  omega
def strV (l : List UInt8) : Value := .string ⟨l.toArray⟩
/-- Of the runs those that are asked for, as words. -/
def pickW (inner : Bool) (n : Nat) (sg : List (Nat × List Nat)) : List (List UInt8) := (sg.filter fun x => !inner || innerR n x).map fun x => wordOf x.2
theorem pickW_cons (inner : Bool) (n : Nat) (x : Nat × List Nat) (sg : List (Nat × List Nat)) :
    pickW inner n (x :: sg) = if (!inner || innerR n x) = true then wordOf x.2 :: pickW inner n sg else pickW inner n sg := by
  unfold pickW
  rw [List.filter_cons]
  split <;> rfl
theorem app_mk' (a b : List UInt8) : (⟨(a ++ b).toArray⟩ : ByteArray) = (⟨a.toArray⟩ : ByteArray) ++ (⟨b.toArray⟩ : ByteArray) := by
  apply ByteArray.ext
  rw [ByteArray.data_append]
  simp
theorem info_str : (Tryz.prog.info? 9).map (fun i => (i.zero, i.size, i.bytes)) = some (some (.string ⟨#[]⟩), 1, 16) := by kernel_rfl
theorem wordOf_take (run : List Nat) (m : Nat) (h : m < run.length) :
    wordOf (run.take (m + 1)) = if m < 32 then wordOf (run.take m) ++ encR (smallN run[m]) else wordOf (run.take m) := by
  unfold wordOf
  by_cases c : m < 32
  · rw [if_pos c, List.take_take, List.take_take, Nat.min_eq_right (by omega), Nat.min_eq_right (by omega), List.take_succ_eq_append_getElem h, List.map_append, enc_append]
    simp [enc]
  · rw [if_neg c, List.take_take, List.take_take, Nat.min_eq_left (by omega), Nat.min_eq_left (by omega)]
theorem wordOf_len (run : List Nat) : (wordOf run).length ≤ 128 := by
  unfold wordOf
  have h := (enc_length ((run.take 32).map smallN)).2
  rw [List.length_map, List.length_take] at h
  omega

set_option maxRecDepth 100000 in
set_option maxHeartbeats 4000000 in
theorem ref_All (s : ByteArray) (inner : Bool) (w : World) (hs : s.size ≤ 1000000000) :
    Calls Tryz.prog 73 #[.string s, .bool inner] w fun e w' => ∃ v, e = .returned v ∧
      w'.ownsRow w.heap.size 9 1 v (pickW inner (runes s.data.toList).length (segs 0 (runes s.data.toList))).length ((pickW inner (runes s.data.toList).length (segs 0 (runes s.data.toList))).map strV) ∧ Below w.heap.size w w' := by
  obtain ⟨i0, hi, hz0, hz1, hz2⟩ := info_parts info_str
  have cR := ref_Runes s w (by omega)
  have hrl := runes_length s.data.toList
  have hsl : s.data.toList.length = s.size := by simp [ByteArray.size_data]
  rw [hsl] at hrl
  clear hsl
  have hsc := runes_scalars s.data.toList
  generalize Lib.validD s.data.toList = V at cR
  generalize runes s.data.toList = rs at *
  obtain ⟨TOT, hTOT⟩ : ∃ T, pickW inner rs.length (segs 0 rs) = T := ⟨_, rfl⟩
  rw [hTOT]
  have HT := Lib.hid hTOT; clear hTOT
  have HSC := Lib.hid hsc; clear hsc
  go_enter Tryz.func73, Tryz.ntmps73
  go_wp2_with (go_at_call 48; refine cR.mono ?_; rintro e w1 ⟨v, rfl, hown, hb⟩)
  have hrow := argRow_owns hown
  obtain ⟨_, a, cap, rfl, _, hcm, hcell⟩ := hrow
  have HC := Lib.hid hcell
  clear hcell hcm hown cR
  have hb1 := hb.size
  go_loopw [7, 8] (fun l i wr => ∃ (k : Nat) (A : List (List UInt8)), k ≤ rs.length ∧ i = .int .i64 k ∧ wr.ownsRow w1.heap.size 9 1 l A.length (A.map strV) ∧
    A ++ pickW inner rs.length (segs k (rs.drop k)) = TOT ∧ A.length ≤ k ∧ Below w1.heap.size w1 wr) (fun _ i _ => rs.length - (intOf i).toNat)
  case atStart => exact ⟨0, [], by omega, rfl, World.ownsRow_nil _ _ _ _, by rw [List.drop_zero, HT.out]; rfl, by simp, Below.refl _ _⟩
  case round =>
    obtain ⟨k, A, hk, rfl, hown, hA, hAk, hbr⟩ := hrel
    have HA := Lib.hid hA
    clear hA
    by_cases hlt : k < rs.length
    · obtain ⟨b, off, rfl, hbl, hcs⟩ := HC.out (by omega)
      have hcell : ∀ m (hm : m < rs.length) W, Below wr.heap.size wr W → W.cell? ⟨b, off + m, none⟩ = some (.int .i32 ((rs[m] : Nat) : Int)) := by
        intro m hm W hW
        rw [hW.cell (p := ⟨b, off + m, none⟩) (Nat.lt_of_lt_of_le hbl hbr.size), hbr.cell (p := ⟨b, off + m, none⟩) hbl, hcs m (by simpa using hm)]
        simp [runeCell]
      have HCL := Lib.hid hcell
      clear hcell hcs
      have hc := HCL.out k hlt wr (Below.refl _ _)
      have hd : rs.drop k = rs[k] :: rs.drop (k + 1) := List.drop_eq_getElem_cons hlt
      have hsk : scalar rs[k] := HSC.out _ (List.getElem_mem _)
      have hsk' : rs[k] ≤ 1114111 := by unfold scalar at hsk; omega
      have cW := fun W => ref_Word ((rs[k] : Nat) : Int) W (by omega) (by omega)
      rw [wordB_nat] at cW
      by_cases hw : wordN rs[k] = true
      · obtain ⟨run, rest, hrr, hall, hstop⟩ := take_run (rs.drop k)
        have hrun : 0 < run.length := by
          rcases Nat.eq_zero_or_pos run.length with h | h
          · have : run = [] := List.eq_nil_of_length_eq_zero h
            subst this
            rw [List.nil_append, hd] at hrr
            rcases hstop with e | ⟨r, t, e, hr⟩
            · rw [e] at hrr; cases hrr
            · rw [e] at hrr
              injection hrr with e1 e2
              rw [e1, hr] at hw; cases hw
          · exact h
        have hseg : segs k (rs.drop k) = (k, run) :: segs (k + run.length) rest := by rw [hrr]; exact segs_run run rest k (by intro e; rw [e] at hrun; cases hrun) hall hstop
        have hrest : rest = rs.drop (k + run.length) := by
          have := congrArg (List.drop run.length) hrr
          rw [List.drop_drop, List.drop_left] at this
          exact this.symm
        have hlen : k + run.length ≤ rs.length := by
          have := congrArg List.length hrr
          rw [List.length_drop, List.length_append] at this
          omega
        have hget : ∀ m (hm : m < run.length), rs[k + m]'(by omega) = run[m] := by
          intro m hm
          have h1 : (rs.drop k)[m]'(by rw [List.length_drop]; omega) = rs[k + m]'(by omega) := List.getElem_drop
          rw [← h1]
          have h2 : (rs.drop k)[m]? = run[m]? := by rw [hrr, List.getElem?_append_left hm]
          rw [List.getElem?_eq_getElem (by rw [List.length_drop]; omega), List.getElem?_eq_getElem hm] at h2
          exact Option.some.inj h2
        have hend : ∀ h : k + run.length < rs.length, wordN (rs[k + run.length]'h) = false := by
          intro h
          rcases hstop with e | ⟨r, t, e, hr⟩
          · rw [hrest] at e
            have := congrArg List.length e
            rw [List.length_drop, List.length_nil] at this
            omega
          · rw [hrest, List.drop_eq_getElem_cons h] at e
            injection e with e1 e2
            rw [e1]; exact hr
        have hscr : ∀ m (hm : m < run.length), scalar run[m] := fun m hm => by rw [← hget m hm]; exact HSC.out _ (List.getElem_mem _)
        rw [hrest] at hseg
        have HSEG := Lib.hid hseg
        have HALL := Lib.hid hall
        have HGET := Lib.hid hget
        have HEND := Lib.hid hend
        have HSCR := Lib.hid hscr
        rw [hw] at cW
        clear hseg hall hget hend hscr hrr hstop hrest hd hsk hsk' hw
        generalize rs[k] = r0 at *
        obtain ⟨wo, hwo⟩ : ∃ wo : World, wo = wr := ⟨_, rfl⟩
        subst hwo
        go_wp2_with (go_at_call 94; refine (cW _).mono ?_; rintro e w' ⟨rfl, rfl⟩)
        clear cW
        go_loopw [8, 10] (fun i wv wi => ∃ m : Nat, m ≤ run.length ∧ i = .int .i64 ((k : Int) + (m : Int)) ∧ wv = .string ⟨(wordOf (run.take m)).toArray⟩ ∧ Below wo.heap.size wo wi) (fun i _ _ => k + run.length - (intOf i).toNat)
        case atStart => exact ⟨0, by omega, by go_num, rfl, Below.refl _ _⟩
        case round =>
          obtain ⟨m, hm, rfl, rfl, hbi⟩ := hrel
          have hszi := hbi.size
          by_cases hml : m < run.length
          · have hc2 : wr.cell? ⟨b, off + (k + m), none⟩ = some (.int .i32 ((run[m] : Nat) : Int)) := by rw [HCL.out (k + m) (by omega) wr hbi, HGET.out m hml]
            have hws : wordN run[m] = true := HALL.out _ (List.getElem_mem _)
            have hsc := HSCR.out m hml
            have hsc' : run[m] ≤ 1114111 := by unfold scalar at hsc; omega
            have cW2 := fun W => ref_Word ((run[m] : Nat) : Int) W (by omega) (by omega)
            rw [wordB_nat, hws] at cW2
            have cS2 := fun W => ref_Small ((run[m] : Nat) : Int) W (by omega) (by omega)
            rw [smallZ_nat] at cS2
            have cB2 := fun W => ref_Bytes' (smallN run[m]) (smallN_scalar hsc) W
            have hT := wordOf_take run m hml
            have hwl := wordOf_len (run.take m)
            have hel := encR_len (smallN run[m])
            have hsubZ : (k : Int) + (m : Int) - (k : Int) = (m : Int) := by omega
            clear hws hsc hsc'
            by_cases h32 : m < 32
            · rw [if_pos h32] at hT
              have HT2 := Lib.hid hT
              clear hT
              generalize encR (smallN run[m]) = E at *
              generalize smallN run[m] = sr at *
              generalize run[m] = r at *
              generalize wordOf (run.take m) = WO at *
              have hWE : WO.length + E.length ≤ 1000 := by omega
              have h32' : (m : Int) < 32 := by omega
              go_wp2_with (first | (go_at_call 94; refine (cW2 _).mono ?_; rintro e w' ⟨rfl, rfl⟩) | (go_at_call 96; refine (cS2 _).mono ?_; rintro e w' ⟨rfl, rfl⟩) | (go_at_call 95; refine (cB2 _).mono ?_; rintro e w2 ⟨v2, rfl, hown2, hb2⟩; have hcv := conv_owned (P := Tryz.prog) (dst := 9) Tryz.underlying131 Tryz.underlying5 Tryz.underlying9 hown2))
              go_roundw
              case rel => exact ⟨m + 1, by omega, by go_num, by rw [HT2.out, app_mk'], below_seq hbi hb2⟩
              case measure => simp [intOf]; omega
            · rw [if_neg h32] at hT
              have HT2 := Lib.hid hT
              clear hT
              generalize run[m] = r at *
              generalize wordOf (run.take m) = WO at *
              have h32' : (32 : Int) ≤ (m : Int) := by omega
              go_wp2_with (first | (go_at_call 94; refine (cW2 _).mono ?_; rintro e w' ⟨rfl, rfl⟩))
              go_roundw
              case rel => exact ⟨m + 1, by omega, by go_num, by rw [HT2.out], hbi⟩
              case measure => simp [intOf]; omega
          · obtain rfl : m = run.length := by omega
            rw [List.take_length]
            have hcur := owns_below hown hbi
            have hbw : Below w1.heap.size w1 wr := hbr.trans (hbi.mono hbr.size)
            have hbw1 := hbw.size
            have hpk := pickW_cons inner rs.length (k, run) (segs (k + run.length) (rs.drop (k + run.length)))
            rw [← HSEG.out] at hpk
            have hAA := HA.out
            rw [hpk] at hAA
            have hwl := wordOf_len run
            clear hpk hml hown hszi hc hbr
            generalize wordOf run = WO at *
            have hkZ : (k : Int) + (run.length : Int) = ((k + run.length : Nat) : Int) := by omega
            by_cases hend' : k + run.length < rs.length
            · have hc3 : wr.cell? ⟨b, off + (k + run.length), none⟩ = some (.int .i32 ((rs[k + run.length] : Nat) : Int)) := HCL.out (k + run.length) hend' wr (by assumption)
              have hsc3 : scalar rs[k + run.length] := HSC.out _ (List.getElem_mem _)
              have hsc3' : rs[k + run.length] ≤ 1114111 := by unfold scalar at hsc3; omega
              have cW3 := fun W => ref_Word ((rs[k + run.length] : Nat) : Int) W (by omega) (by omega)
              rw [wordB_nat, HEND.out hend'] at cW3
              have hsel : (!inner || innerR rs.length (k, run)) = (!inner || decide (0 < k)) := by
                have : innerR rs.length (k, run) = decide (0 < k) := by unfold innerR; exact decide_eq_decide.2 (by simp; omega)
                rw [this]
              rw [hsel] at hAA
              clear hsel hsc3 hsc3'
              generalize rs[k + run.length] = r1 at *
              cases inner
              · simp only [Bool.not_false, Bool.true_or, if_true] at hAA
                have hAA' : (A ++ [WO]) ++ pickW false rs.length (segs (k + run.length) (rs.drop (k + run.length))) = TOT := by rw [← hAA]; simp
                have HAA := Lib.hid hAA'
                clear hAA hAA' hkZ
                go_wp2_with (first | (go_at_call 94; refine (cW3 _).mono ?_; rintro e w' ⟨rfl, rfl⟩) | (at_builtin; refine wpList_append_own _ rfl _ _ 49 rfl w1.heap.size 9 i0 (.string ⟨#[]⟩) 1 16 Tryz.underlying49 hi hz0 hz1 hz2 rfl (by decide) _ _ _ rfl (hcur.alloc _) ⟨wr.heap.size, 0, none⟩ 1 1 [strV WO] rfl rfl (cell_one_new _ _ _) (by simp [strV, Value.oneCell']) (by unfold maxLen; omega) (by omega) (by simp; omega) ?_; intro v' w3 hown3 hgr _))
                go_roundw
                case rel => exact ⟨k + run.length, A ++ [WO], by omega, by go_num, by rw [List.length_append, List.map_append]; exact hown3, HAA.out, by rw [List.length_append]; simp; omega, grown_below hbw hbw1 _ hcur hgr⟩
                case measure => simp [intOf]; omega
              · by_cases hk0 : 0 < k
                · have hk0' : (0 : Int) < (k : Int) := by omega
                  simp only [Bool.not_true, Bool.false_or, hk0, decide_true, if_true] at hAA
                  have hAA' : (A ++ [WO]) ++ pickW true rs.length (segs (k + run.length) (rs.drop (k + run.length))) = TOT := by rw [← hAA]; simp
                  have HAA := Lib.hid hAA'
                  clear hAA hAA' hkZ
                  go_wp2_with (first | (go_at_call 94; refine (cW3 _).mono ?_; rintro e w' ⟨rfl, rfl⟩) | (at_builtin; refine wpList_append_own _ rfl _ _ 49 rfl w1.heap.size 9 i0 (.string ⟨#[]⟩) 1 16 Tryz.underlying49 hi hz0 hz1 hz2 rfl (by decide) _ _ _ rfl (hcur.alloc _) ⟨wr.heap.size, 0, none⟩ 1 1 [strV WO] rfl rfl (cell_one_new _ _ _) (by simp [strV, Value.oneCell']) (by unfold maxLen; omega) (by omega) (by simp; omega) ?_; intro v' w3 hown3 hgr _))
                  go_roundw
                  case rel => exact ⟨k + run.length, A ++ [WO], by omega, by go_num, by rw [List.length_append, List.map_append]; exact hown3, HAA.out, by rw [List.length_append]; simp; omega, grown_below hbw hbw1 _ hcur hgr⟩
                  case measure => simp [intOf]; omega
                · have hk0' : (k : Int) ≤ 0 := by omega
                  have hkd : decide (0 < k) = false := decide_eq_false hk0
                  rw [hkd] at hAA
                  have HAA : Hid (A ++ pickW true rs.length (segs (k + run.length) (rs.drop (k + run.length))) = TOT) := by rw [← hAA]; simp [Hid]
                  clear hAA hkZ hkd
                  go_wp2_with (go_at_call 94; refine (cW3 _).mono ?_; rintro e w' ⟨rfl, rfl⟩)
                  go_roundw
                  case rel => exact ⟨k + run.length, A, by omega, by go_num, hcur, HAA.out, by omega, hbw⟩
                  case measure => simp [intOf]; omega
            · have hb2 : ((k : Int) + (run.length : Int) < (rs.length : Int)) = False := by simp; omega
              have hsel : (!inner || innerR rs.length (k, run)) = !inner := by
                have : innerR rs.length (k, run) = false := by unfold innerR; exact decide_eq_false (by simp; omega)
                rw [this, Bool.or_false]
              rw [hsel] at hAA
              cases inner
              · have hAA' : (A ++ [WO]) ++ pickW false rs.length (segs (k + run.length) (rs.drop (k + run.length))) = TOT := by rw [← hAA]; simp
                have HAA := Lib.hid hAA'
                clear hAA hAA' hsel hkZ
                go_wp2_with (at_builtin; refine wpList_append_own _ rfl _ _ 49 rfl w1.heap.size 9 i0 (.string ⟨#[]⟩) 1 16 Tryz.underlying49 hi hz0 hz1 hz2 rfl (by decide) _ _ _ rfl (hcur.alloc _) ⟨wr.heap.size, 0, none⟩ 1 1 [strV WO] rfl rfl (cell_one_new _ _ _) (by simp [strV, Value.oneCell']) (by unfold maxLen; omega) (by omega) (by simp; omega) ?_; intro v' w3 hown3 hgr _)
                go_roundw
                case rel => exact ⟨k + run.length, A ++ [WO], by omega, by go_num, by rw [List.length_append, List.map_append]; exact hown3, HAA.out, by rw [List.length_append]; simp; omega, grown_below hbw hbw1 _ hcur hgr⟩
                case measure => simp [intOf]; omega
              · have hAA' : A ++ pickW true rs.length (segs (k + run.length) (rs.drop (k + run.length))) = TOT := by rw [← hAA]; simp
                have HAA := Lib.hid hAA'
                clear hAA hAA' hsel hkZ
                by_cases hk0 : 0 < k
                all_goals
                  go_wp2
                  go_roundw
                  case rel => exact ⟨k + run.length, A, by omega, by go_num, hcur, HAA.out, by omega, hbw⟩
                  case measure => simp [intOf]; omega
      · have hw' : wordN rs[k] = false := by simpa using hw
        have hskip : segs k (rs.drop k) = segs (k + 1) (rs.drop (k + 1)) := by rw [hd, segs_skip hw']
        have HS := Lib.hid hskip
        rw [hw'] at cW
        clear hw hw' hskip hd hsk hsk'
        generalize rs[k] = r at *
        go_wp2_with (go_at_call 94; refine (cW _).mono ?_; rintro e w' ⟨rfl, rfl⟩)
        go_roundw
        case rel => exact ⟨k + 1, A, by omega, by go_num, hown, by rw [← HS.out]; exact HA.out, by omega, hbr⟩
        case measure => simp [intOf]; omega
    · obtain rfl : k = rs.length := by omega
      have e := HA.out
      rw [List.drop_length] at e
      have e2 : A = TOT := by rw [← e]; simp [segs, pickW]
      subst e2
      go_wp2
      go_ret
      exact ⟨_, rfl, owns_base hown hb1, hb.trans (hbr.mono hb1)⟩

end Go.Proofs.YtaimldndooijdaaGreatDoor
/-
  The contract of text.Words, of that of text.runs.
-/
namespace Go.Proofs.YtaimldndooijdaaGreatDoor
open Go.RowKit

/-- A list of runs that can be read: of each its runes, and where it begins and ends. -/
def RunsRow (w : World) (v : Value) (L : List (List Nat × Nat × Nat)) : Prop :=
  ∃ a cap, v = .slice a L.length cap ∧ L.length ≤ cap ∧ cap ≤ maxLen ∧ (0 < L.length → ∃ b off, a = some ⟨b, off, none⟩ ∧ b < w.heap.size ∧ ∀ j (h : j < L.length),
    ∃ wv, w.cell? ⟨b, off + j * 3, none⟩ = some wv ∧ w.cell? ⟨b, off + j * 3 + 1, none⟩ = some (.int .i64 (L[j].2.1 : Int)) ∧ w.cell? ⟨b, off + j * 3 + 2, none⟩ = some (.int .i64 (L[j].2.2 : Int)) ∧
      argRow w wv L[j].1.length 1 (L[j].1.map runeCell))

theorem cell_new2 (w : World) (o : Obj) (v : Value) (t : TypeId) : ∀ j u, [v][j]? = some u → ((w.alloc o).alloc (.cells #[v] t)).cell? ((⟨w.heap.size + 1, 0, none⟩ : Addr).add j) = some u := by
  have h := cell_one_new (w.alloc o) v t
  rw [World.size_alloc] at h
  exact h
theorem u8_of (n : Nat) (a : UInt8) (h : a.toNat = n) : UInt8.ofNat n = a := by
  subst h; simp
theorem utf8_encode (r : Nat) (h : scalar r) : Utf8.encode (r : Int) = ⟨(encR r).toArray⟩ := by
  have hv : Utf8.valid (r : Int) = true := by
    unfold scalar at h
    simp only [Utf8.valid, Bool.or_eq_true, Bool.and_eq_true, decide_eq_true_eq]
    omega
  unfold Utf8.encode
  simp only [hv, if_true, Int.toNat_natCast]
  rcases encR_shape r h with ⟨hr, a, e, ha⟩ | ⟨hr, hr', a, b, e, ha, hb⟩ | ⟨hr, hr', a, b, c, e, ha, hb, hc⟩ | ⟨hr, hr', a, b, c, d, e, ha, hb, hc, hd⟩
  · rw [if_pos (by omega), e, u8_of _ a ha]
  · rw [if_neg (by omega), if_pos (by omega), e, u8_of _ a ha, u8_of _ b hb]
  · rw [if_neg (by omega), if_neg (by omega), if_pos (by omega), e, u8_of _ a ha, u8_of _ b hb, u8_of _ c hc]
  · rw [if_neg (by omega), if_neg (by omega), if_neg (by omega), e, u8_of _ a ha, u8_of _ b hb, u8_of _ c hc, u8_of _ d hd]
theorem runesBytes_go (rs : List Nat) (h : scalars rs) : ∀ s : ByteArray, (rs.map fun (r : Nat) => (r : Int)).foldl (fun r n => r ++ Utf8.encode n) s = s ++ ⟨(enc rs).toArray⟩ := by
  induction rs with
  | nil =>
    intro s
    apply ByteArray.ext
    rw [ByteArray.data_append]
    simp [enc]
  | cons r rs ih =>
    intro s
    rw [scalars_cons] at h
    rw [List.map_cons, List.foldl_cons, utf8_encode r h.1, ih h.2, enc_cons, app_mk']
    apply ByteArray.ext
    simp only [ByteArray.data_append]
    simp
theorem conv_runes {P : Program} {w : World} {src dst e : TypeId} {v : Value} {rs : List Nat} (hs : P.underlying src = some (.slice e)) (he : P.underlying e = some (.int .i32)) (hd : P.underlying dst = some .string)
    (hrow : argRow w v rs.length 1 (rs.map runeCell)) (hsc : scalars rs) : (convert src dst v).run P w = .ok (.string ⟨(enc rs).toArray⟩) w := by
  have hrb : runesBytes (rs.map fun (r : Nat) => (r : Int)) = ⟨(enc rs).toArray⟩ := by
    unfold runesBytes
    rw [runesBytes_go rs hsc]
    apply ByteArray.ext
    rw [ByteArray.data_append]
    simp
  obtain ⟨_, a, cap, rfl, _, _, hc⟩ := hrow
  by_cases h0 : rs.length = 0
  · have : rs = [] := List.eq_nil_of_length_eq_zero h0
    subst this
    cases a with
    | none =>
      rw [show (([] : List Nat).length) = 0 from rfl, run_convert_runes_nil w src dst e 0 cap hs he hd]
      rfl
    | some a =>
      have := run_convert_runes w src dst e a 0 cap [] (Nat.le_refl _) hs he hd (fun j hj => by simp at hj)
      rw [show (([] : List Nat).length) = 0 from rfl, this]
      rfl
  · obtain ⟨b, off, rfl, _, hcl⟩ := hc (by omega)
    have := run_convert_runes w src dst e ⟨b, off, none⟩ rs.length cap (rs.map fun (r : Nat) => (r : Int)) (by simp) hs he hd (fun j hj => by
      rw [WideShapes.add_plain, hcl j (by simpa using hj)]
      simp at hj
      simp [runeCell, List.getD_eq_getElem?_getD, List.getElem?_eq_getElem hj])
    rw [this, List.take_of_length_le (by simp), hrb]

set_option maxRecDepth 100000 in
set_option maxHeartbeats 2000000 in
theorem text_Words (s : ByteArray) (L : List (List Nat × Nat × Nat)) (w : World) (hL : L.length ≤ 1000000000) (hsc : ∀ x ∈ L, scalars x.1)
    (cR : Calls Tryz.prog 51 #[.string s] w fun e w' => ∃ v, e = .returned v ∧ RunsRow w' v L ∧ Below w.heap.size w w') :
    Calls Tryz.prog 33 #[.string s] w fun e w' => ∃ v, e = .returned v ∧ w'.ownsRow w.heap.size 9 1 v L.length (L.map fun x => strV (enc x.1)) ∧ Below w.heap.size w w' := by
  obtain ⟨i0, hi, hz0, hz1, hz2⟩ := info_parts info_str
  go_enter Tryz.func33, Tryz.ntmps33
  go_wp2_with (go_at_call 51; refine cR.mono ?_; rintro e w1 ⟨v, rfl, ⟨a, cap, rfl, hlc, hcm, hcell⟩, hb⟩; have HC := Lib.hid hcell; clear hcell)
  clear cR hcm
  have hb1 := hb.size
  go_loopw [3, 9] (fun l i wr => ∃ k : Nat, k ≤ L.length ∧ i = .int .i64 k ∧ wr.ownsRow w1.heap.size 9 1 l k ((L.take k).map fun x => strV (enc x.1)) ∧ Below w1.heap.size w1 wr) (fun _ i _ => L.length - (intOf i).toNat)
  case atStart => exact ⟨0, by omega, rfl, World.ownsRow_nil _ _ _ _, Below.refl _ _⟩
  case round =>
    obtain ⟨k, hk, rfl, hown, hbr⟩ := hrel
    by_cases hlt : k < L.length
    · obtain ⟨b, off, rfl, hbl, hcs⟩ := HC.out (by omega)
      obtain ⟨wv, h0, h1, h2, hrow⟩ := hcs k hlt
      have g0 : wr.cell? ⟨b, off + k * 3, none⟩ = some wv := by rw [hbr.cell (p := ⟨b, _, none⟩) hbl]; exact h0
      have g1 : wr.cell? ⟨b, off + k * 3 + 1, none⟩ = some (.int .i64 (L[k].2.1 : Int)) := by rw [hbr.cell (p := ⟨b, _, none⟩) hbl]; exact h1
      have g2 : wr.cell? ⟨b, off + k * 3 + 2, none⟩ = some (.int .i64 (L[k].2.2 : Int)) := by rw [hbr.cell (p := ⟨b, _, none⟩) hbl]; exact h2
      clear h0 h1 h2 hcs
      obtain ⟨_, ra, rc, rfl, _, _, hrc⟩ := hrow
      have HRC := Lib.hid hrc
      clear hrc
      have hcv : ∀ o, (convert 81 9 (.slice ra L[k].1.length rc)).run Tryz.prog (wr.alloc o) = .ok (.string ⟨(enc L[k].1).toArray⟩) (wr.alloc o) := fun o =>
        conv_runes Tryz.underlying81 Tryz.underlying21 Tryz.underlying9 (argRow_below (w := w1) ⟨by simp, _, _, rfl, by omega, by assumption, HRC.out⟩ ((hbr).alloc (hbr.size) o)) (hsc _ (List.getElem_mem _))
      have htk : (L.take (k + 1)).map (fun x => strV (enc x.1)) = (L.take k).map (fun x => strV (enc x.1)) ++ [strV (enc L[k].1)] := by rw [List.take_succ_eq_append_getElem hlt, List.map_append]; rfl
      have HTK := Lib.hid htk
      clear htk
      generalize L[k] = x at *
      have hszr := hbr.size
      go_wp2_with (at_builtin; refine wpList_append_own _ rfl _ _ 49 rfl w1.heap.size 9 i0 (.string ⟨#[]⟩) 1 16 Tryz.underlying49 hi hz0 hz1 hz2 rfl (by decide) _ _ _ rfl ((hown.alloc _).alloc _) ⟨wr.heap.size + 1, 0, none⟩ 1 1 [strV (enc x.1)] rfl rfl (cell_new2 _ _ _ _) (by simp [strV, Value.oneCell']) (by unfold maxLen; omega) (by omega) (by simp; omega) ?_; intro v' w3 hown3 hgr _)
      go_roundw
      case rel => exact ⟨k + 1, by omega, by go_num, by rw [HTK.out]; exact hown3, (((hbr.alloc hszr _).alloc (by simp; omega) _)).grown hgr (by simp; omega) (fun j hj => (hown.lt j hj).1)⟩
      case measure => simp [intOf]; omega
    · obtain rfl : k = L.length := by omega
      rw [List.take_length] at hown
      go_wp2
      go_ret
      exact ⟨_, rfl, owns_base hown hb1, hb.trans (hbr.mono hb1)⟩

end Go.Proofs.YtaimldndooijdaaGreatDoor
/-
  The contract of text.runs.
-/
namespace Go.Proofs.YtaimldndooijdaaGreatDoor
open Go.RowKit

theorem word_width (l : List UInt8) (hne : l ≠ []) (hw : wordN (Lib.decodeL l).1 = true) : (encR (Lib.decodeL l).1).length = (Lib.decodeL l).2 := by
  have hv : ¬ ((Lib.decodeL l).1 = 65533 ∧ (Lib.decodeL l).2 = 1) := by
    intro h
    rw [h.1] at hw
    revert hw
    decide
  have hl := Lib.decodeL_le l hne
  unfold encR
  rw [Lib.encode_decode l hne hv, List.length_take]
  omega
theorem marks_pos (s : ByteArray) (pos : Nat) (h : pos < s.size) :
    marks pos (s.data.toList.drop pos) = ((Utf8.decode s pos).1, pos, (Utf8.decode s pos).2) :: marks (pos + (Utf8.decode s pos).2) (s.data.toList.drop (pos + (Utf8.decode s pos).2)) := by
  have hl : s.data.toList.length = s.size := by simp [ByteArray.size_data]
  rw [marks_step _ _ (by intro e; have := congrArg List.length e; simp only [List.length_drop, List.length_nil, hl] at this; omega), ← decode_drop, List.drop_drop]
theorem marks_end (s : ByteArray) (pos : Nat) (h : ¬ pos < s.size) : marks pos (s.data.toList.drop pos) = [] := by
  have hl : s.data.toList.length = s.size := by simp [ByteArray.size_data]
  rw [List.drop_of_length_le (by omega)]; rfl
theorem mem_iterAt {w : World} {B : Nat} {l : Value} {L : List Run} (h : RunsMem w B l L) {k : Nat} (hk : k < B) (s : ByteArray) (p : Nat) : RunsMem (w.iterAt k s p) B l L :=
  runsMem_above h (by rw [Lib.iterAt_size]; exact Nat.le_refl _) fun j hj _ => by
    unfold World.iterAt
    simp only
    rw [Array.getElem?_setIfInBounds_ne (by omega)]
theorem info_run : (Tryz.prog.info? 87).map (fun i => (i.zero, i.size, i.bytes)) = some (some (.agg #[.slice none 0 0, .int .i64 0, .int .i64 0]), 3, 40) := by kernel_rfl
theorem info_rune : (Tryz.prog.info? 21).map (fun i => (i.zero, i.size, i.bytes)) = some (some (.int .i32 0), 1, 4) := by kernel_rfl

theorem runsMem_shape {w : World} {B : Nat} {l : Value} {L0 : List Run} {x : Run} (h : RunsMem w B l (L0 ++ [x])) : ∃ g cap, l = .slice (some ⟨g, 0, none⟩) (L0.length + 1) cap := by
  obtain ⟨_, _, g, cap, e, _⟩ := runsMem_last (run := x.1) (f := x.2.1) (t := x.2.2) h
  exact ⟨g, cap, e⟩
theorem flat_of_owns {w : World} {A B : Nat} {e : TypeId} {sz : Nat} {v : Value} {n : Nat} {xs ys : List Value} (h : w.ownsRow A e sz v n xs) (k : w.ownsRow B e sz v n ys) : xs = ys := by
  have h1 := h.1
  have k1 := k.1
  rcases h.2 with ⟨rfl, h0⟩ | ⟨g, cap, cur, rfl, _, hh, _, _, _, ht⟩
  · subst h0
    rw [List.eq_nil_of_length_eq_zero (by omega : xs.length = 0), List.eq_nil_of_length_eq_zero (by omega : ys.length = 0)]
  · rcases k.2 with ⟨e2, _⟩ | ⟨g', cap', cur', e2, _, hh', _, _, _, ht'⟩
    · cases e2
    · injection e2 with e2 _ _
      injection e2 with e2
      injection e2 with e2 _ _
      subst e2
      rw [hh] at hh'
      injection hh' with hh'
      injection hh' with hh' _ _
      rw [← ht, ← ht', hh']
theorem grown_undrew {w w1 : World} {o : Obj} {r : Option Nat} (h : (w.alloc o).drew.grownBy w1 r) : (w.alloc o).grownBy w1 r := ⟨h.os, h.tape, h.output, h.size, h.block⟩
theorem grown_cells {W2 : World} {g i j : Nat} {u v x : Value} (hg : g < W2.heap.size) (h0 : W2.cell? ⟨g, i, none⟩ = some u) (f0 : W2.frozen? ⟨g, i, none⟩ = false) (h2 : W2.cell? ⟨g, j, none⟩ = some v) (f2 : W2.frozen? ⟨g, j, none⟩ = false)
    (hne : ∀ k, x.ownBlock = some k → k ≠ g) : ∀ (o : Obj) (w1 : World), (W2.alloc o).grownBy w1 x.ownBlock →
      w1.cell? ⟨g, i, none⟩ = some u ∧ w1.frozen? ⟨g, i, none⟩ = false ∧ w1.cell? ⟨g, j, none⟩ = some v ∧ w1.frozen? ⟨g, j, none⟩ = false := by
  intro o w1 hgr
  have hn : some g ≠ x.ownBlock := fun e => hne g e.symm rfl
  have hb : Below W2.heap.size W2 (W2.alloc o) := (Below.refl _ _).alloc (Nat.le_refl _) o
  have hs : ∀ k, (⟨g, k, none⟩ : Addr).block < (W2.alloc o).heap.size := fun k => by simp; omega
  refine ⟨?_, ?_, ?_, ?_⟩
  · rw [hgr.cell_far _ (hs i) hn, hb.cell (p := ⟨g, i, none⟩) hg]; exact h0
  · rw [hgr.frozen_far _ (hs i) hn, hb.frozen (p := ⟨g, i, none⟩) hg]; exact f0
  · rw [hgr.cell_far _ (hs j) hn, hb.cell (p := ⟨g, j, none⟩) hg]; exact h2
  · rw [hgr.frozen_far _ (hs j) hn, hb.frozen (p := ⟨g, j, none⟩) hg]; exact f2
def RunsRel (s : ByteArray) (B : Nat) (TOT : List Run) (w : World) (l o : Value) (wr : World) : Prop :=
  ∃ (pos : Nat) (op : Bool) (L : List Run), pos ≤ s.size ∧ o = .bool op ∧ wr.heap[w.heap.size]? = some (.stringIter s pos) ∧ RunsMem wr B l L ∧ gathered (op, L) (marks pos (s.data.toList.drop pos)) = TOT ∧
    (op = true → ∃ L0 run f t, L = L0 ++ [(run, f, t)]) ∧ L.length ≤ pos ∧ Below w.heap.size w wr ∧ w.heap.size < wr.heap.size

theorem rel_more {s : ByteArray} {TOT : List Run} {w W3 : World} {l : Value} {L0 : List Run} {run : List Nat} {f t pos n r : Nat} (hpl : pos + n ≤ s.size) (hT : gathered (true, L0 ++ [(run, f, t)]) (marks pos (s.data.toList.drop pos)) = TOT)
    (hmk : marks pos (s.data.toList.drop pos) = (r, pos, n) :: marks (pos + n) (s.data.toList.drop (pos + n))) (hw : wordN r = true) (hlen : L0.length + 1 ≤ pos + n) (hit : W3.heap[w.heap.size]? = some (.stringIter s (pos + n)))
    (hmem : RunsMem W3 (w.heap.size + 1) l (L0 ++ [(run ++ [r], f, pos + n)])) (hb : Below w.heap.size w W3) (hs : w.heap.size < W3.heap.size) : RunsRel s (w.heap.size + 1) TOT w l (.bool true) W3 :=
  ⟨pos + n, true, _, hpl, rfl, hit, hmem, by rw [← hT, hmk, gathered_cons, gather_more _ _ _ _ _ hw], fun _ => ⟨_, _, _, _, rfl⟩, by simp; omega, hb, hs⟩
theorem rel_new {s : ByteArray} {TOT : List Run} {w W3 : World} {l : Value} {L : List Run} {pos n r : Nat} (hpl : pos + n ≤ s.size) (hT : gathered (false, L) (marks pos (s.data.toList.drop pos)) = TOT)
    (hmk : marks pos (s.data.toList.drop pos) = (r, pos, n) :: marks (pos + n) (s.data.toList.drop (pos + n))) (hw : wordN r = true) (hlen : L.length + 1 ≤ pos + n) (hit : W3.heap[w.heap.size]? = some (.stringIter s (pos + n)))
    (hmem : RunsMem W3 (w.heap.size + 1) l (L ++ [([] ++ [r], pos, pos + n)])) (hb : Below w.heap.size w W3) (hs : w.heap.size < W3.heap.size) : RunsRel s (w.heap.size + 1) TOT w l (.bool true) W3 :=
  ⟨pos + n, true, _, hpl, rfl, hit, hmem, by rw [← hT, hmk, gathered_cons, gather_new _ _ hw]; rfl, fun _ => ⟨_, _, _, _, rfl⟩, by simp; omega, hb, hs⟩
theorem rel_no {s : ByteArray} {TOT : List Run} {w W3 : World} {l : Value} {L : List Run} {o : Bool} {pos n r : Nat} (hpl : pos + n ≤ s.size) (hT : gathered (o, L) (marks pos (s.data.toList.drop pos)) = TOT)
    (hmk : marks pos (s.data.toList.drop pos) = (r, pos, n) :: marks (pos + n) (s.data.toList.drop (pos + n))) (hw : wordN r = false) (hlen : L.length ≤ pos) (hit : W3.heap[w.heap.size]? = some (.stringIter s (pos + n)))
    (hmem : RunsMem W3 (w.heap.size + 1) l L) (hb : Below w.heap.size w W3) (hs : w.heap.size < W3.heap.size) : RunsRel s (w.heap.size + 1) TOT w l (.bool false) W3 :=
  ⟨pos + n, false, L, hpl, rfl, hit, hmem, by rw [← hT, hmk, gathered_cons, gather_no _ _ _ hw], (fun h => by cases h), by omega, hb, hs⟩
theorem heap_grown {W2 w3 : World} {k : Nat} {o : Obj} {x : Value} (hk : k < W2.heap.size) (hx : x.ownBlock ≠ some k) (h : (W2.alloc o).grownBy w3 x.ownBlock) : w3.heap[k]? = W2.heap[k]? := by
  rw [h.block k (by simp; omega) (fun e => hx e.symm), Below.heap_alloc _ _ _ hk]
theorem heap_set {W : World} {k g j : Nat} {u : Value} (hk : k < g) : (W.setCell ⟨g, j, none⟩ u).heap[k]? = W.heap[k]? :=
  ((Below.refl (k + 1) W).setCell (p := ⟨g, j, none⟩) hk u).block k (by omega)

set_option maxRecDepth 100000 in
set_option maxHeartbeats 4000000 in
theorem text_runs (s : ByteArray) (w : World) (hs : s.size ≤ 1000000000) :
    Calls Tryz.prog 51 #[.string s] w fun e w' => ∃ v, e = .returned v ∧ RunsMem w' (w.heap.size + 1) v (runsOfText s.data.toList) ∧ Below w.heap.size w w' := by
  obtain ⟨i0, hi, hz0, hz1, hz2⟩ := info_parts info_run
  obtain ⟨j0, ji, jz0, jz1, jz2⟩ := info_parts info_rune
  obtain ⟨TOT, hTOT⟩ : ∃ F, runsOfText s.data.toList = F := ⟨_, rfl⟩
  rw [hTOT]
  have HTOT := Lib.hid hTOT; clear hTOT
  go_enter Tryz.func51, Tryz.ntmps51
  go_wp2
  go_loopw [3, 4] (fun l o wr => RunsRel s (w.heap.size + 1) TOT w l o wr) (fun _ _ w' => s.size - w'.iterPos w.heap.size)
  case atStart => exact ⟨0, false, [], by omega, rfl, World.iter_heap _ _ _, .inl ⟨rfl, rfl⟩, by rw [List.drop_zero]; exact HTOT.out, by simp, by simp, below_iter w s 0, by simp [World.iter]⟩
  case round =>
    obtain ⟨pos, o, L, hpos, rfl, hit, hmem, hT, ho, hLp, hb, hsz⟩ := hrel
    have HT := Lib.hid hT
    have HIT := Lib.hid hit
    clear hT
    by_cases hp : pos < s.size
    · have hnx : ∀ ty, (Instr.next (.pointer (some ⟨w.heap.size, 0, none⟩)) true ty).run Tryz.prog wr = _ := fun ty => Lib.run_next_any_at wr w.heap.size s pos ty hit hp
      have hwd := width_pos' s pos
      have hpl := pos_le s pos hp
      have HMK := Lib.hid (marks_pos s pos hp)
      have hsc := decodeL_scalar (s.data.toList.drop pos)
      have hww := word_width (s.data.toList.drop pos) (by intro e; have := congrArg List.length e; simp [ByteArray.size_data] at this; omega)
      rw [← decode_drop] at hsc hww
      have hsm := smallN_scalar hsc
      have hmem2 := mem_iterAt hmem (k := w.heap.size) (by omega) s (pos + (Utf8.decode s pos).2)
      have hb2 := Lib.below_iterAt hb (Nat.le_refl _) s (pos + (Utf8.decode s pos).2)
      have hit2 := Lib.iterAt_heap wr w.heap.size s pos (pos + (Utf8.decode s pos).2) hit
      have hsz2 : w.heap.size < (wr.iterAt w.heap.size s (pos + (Utf8.decode s pos).2)).heap.size := by rw [Lib.iterAt_size]; exact hsz
      have HM := Lib.hid (iterPos_of hit)
      clear hit hmem hb hsz
      have cW := fun W => utf_Word (((Utf8.decode s pos).1 : Nat) : Int) W (by omega) (by unfold scalar at hsc; omega)
      rw [wordB_nat] at cW
      have cS := fun W => utf_Small (((Utf8.decode s pos).1 : Nat) : Int) W (by omega) (by unfold scalar at hsc; omega)
      rw [smallZ_nat] at cS
      have hr1 : smallN (Utf8.decode s pos).1 ≤ 1114111 := by unfold scalar at hsm; omega
      have HEN := Lib.hid (utf8_encode (Utf8.decode s pos).1 hsc)
      clear hsc hsm
      generalize Utf8.decode s pos = d at *
      obtain ⟨r, n⟩ := d
      simp only at *
      generalize hW2 : wr.iterAt w.heap.size s (pos + n) = W2 at *
      have HW2 := Lib.hid hW2; clear hW2
      have HIT2 := Lib.hid hit2; clear hit2
      by_cases hword : wordN r = true
      · have HWW := Lib.hid (hww hword)
        rw [hword] at cW
        have HWR := Lib.hid hword
        clear hww hword
        generalize hsr : smallN r = sr at *
        have HSR := Lib.hid hsr; clear hsr
        cases o
        case' false =>
          obtain ⟨E, hE, hown, _⟩ := runsMem_owns hmem2
          obtain ⟨la, lc, rfl⟩ := owns_slice hown
          have hnb : (Value.slice la L.length lc).ownBlock ≠ some w.heap.size := fun e => by have := (hown.lt _ e).1; omega
          have HNB := Lib.hid hnb
          have HNC := Lib.hid (fun k e => (hown.lt k e).1 : ∀ k, (Value.slice la L.length lc).ownBlock = some k → w.heap.size + 1 ≤ k)
          clear hnb ho
          go_upto_region 11 with (first | (go_at_call 75; refine (cW _).mono ?_; rintro e w' ⟨rfl, rfl⟩) | (at_builtin; refine wpList_append_lies _ rfl _ _ 84 rfl (w.heap.size + 1) 87 i0 (.agg #[.slice none 0 0, .int .i64 0, .int .i64 0]) 3 40 Tryz.underlying84 hi hz0 hz1 hz2 rfl (by decide) _ _ _ rfl (hown.alloc _) ⟨W2.heap.size, 0, none⟩ 1 1 [.slice none 0 0, .int .i64 (pos : Int), .int .i64 0] rfl rfl (World.news_of_block (heap_alloc_new _ _)) (by simp [Value.oneCell']) (by omega) (by unfold maxLen; omega) (by omega) (by simp; omega) _ rfl ?_; intro g0 cap0 WX hownX hgrX _ hltX))
          have hmX : RunsMem WX (w.heap.size + 1) (.slice (some ⟨g0, 0, none⟩) (L.length + 1) cap0) (L ++ [([], pos, 0)]) :=
            runsMem_new hmem2 _ pos 0 (by omega) (fun E' hE' hown' => by
              have e1 : flat3 (E'.zip (L.map (·.2))) = flat3 (E.zip (L.map (·.2))) := flat_of_owns hown' hown
              rw [e1]; exact hownX) hgrX
          have hszX' := hgrX.size
          simp only [World.size_alloc] at hszX'
          have hbX := (hb2.alloc (by omega) _).grown hgrX (by simp; omega) (fun k hk => by have := HNC.out k hk; omega)
          have HITX := Lib.hid ((heap_grown hsz2 HNB.out hgrX).trans HIT2.out)
          have hszX : w.heap.size < WX.heap.size := by omega
          have hL0 : L.length ≤ pos := hLp
          have hL1 : L.length + 1 ≤ pos + n := by omega
          obtain ⟨run, hrun⟩ : ∃ run : List Nat, run = [] := ⟨_, rfl⟩
          obtain ⟨f, hf⟩ : ∃ f, f = pos := ⟨_, rfl⟩
          have HREL := Lib.hid (fun W3 l => by rw [hrun, hf]; exact rel_new hpl HT.out HMK.out HWR.out hL1 : ∀ (W3 : World) (l : Value), W3.heap[w.heap.size]? = some (.stringIter s (pos + n)) → RunsMem W3 (w.heap.size + 1) l (L ++ [(run ++ [r], f, pos + n)]) → Below w.heap.size w W3 → w.heap.size < W3.heap.size → RunsRel s (w.heap.size + 1) TOT w l (.bool true) W3)
          obtain ⟨t, ht⟩ : ∃ t, t = 0 := ⟨_, rfl⟩
          have hmY : RunsMem WX (w.heap.size + 1) (.slice (some ⟨g0, 0, none⟩) (L.length + 1) cap0) (L ++ [(run, f, t)]) := by rw [hrun, hf, ht]; exact hmX
          clear hmX ht hf hrun hL1
          have hmX := hmY
          clear hmY hown hE hmem2 hgrX hownX hb2 hsz2 HIT2 hLp HNB HNC hltX HT hszX' cW
          generalize L = L0 at *
        case' true =>
          obtain ⟨L0, run, f, t, rfl⟩ := ho rfl
          have hL0 : L0.length ≤ pos := by simp at hLp; omega
          have hL1 : L0.length + 1 ≤ pos + n := by simp at hLp; omega
          have HREL := Lib.hid (fun W3 l => rel_more hpl HT.out HMK.out HWR.out hL1 : ∀ (W3 : World) (l : Value), W3.heap[w.heap.size]? = some (.stringIter s (pos + n)) → RunsMem W3 (w.heap.size + 1) l (L0 ++ [(run ++ [r], f, pos + n)]) → Below w.heap.size w W3 → w.heap.size < W3.heap.size → RunsRel s (w.heap.size + 1) TOT w l (.bool true) W3)
          obtain ⟨g0, cap0, rfl⟩ := runsMem_shape hmem2
          have hmX := hmem2
          clear ho hLp hmem2 HT hL1
          go_upto_region 11 with (first | (go_at_call 75; refine (cW _).mono ?_; rintro e w' ⟨rfl, rfl⟩))
          clear cW
          obtain ⟨WX, hWX⟩ : ∃ WX : World, WX = W2 := ⟨_, rfl⟩
          subst hWX
          have hbX := hb2
          have hszX := hsz2
          have HITX := HIT2
          clear hb2 hsz2 HIT2
        all_goals
          obtain ⟨wv, K, g, cap, hsl, hBg, hgs, hKs, hwown, hc0, hc2, hfz, hwvb, hBK, hto, hupd⟩ := runsMem_last hmX
          injection hsl with e2 _ e3
          injection e2 with e2
          injection e2 with e2 _ _
          subst e2
          subst e3
          have hfz0 := hfz (L0.length * 3)
          have hfz2 := hfz (L0.length * 3 + 2)
          obtain ⟨wa, wc, rfl⟩ := owns_slice hwown
          have HVB := Lib.hid hwvb
          have HTO := Lib.hid hto
          have HUP := Lib.hid hupd
          have HWO := Lib.hid hwown
          have HMX := Lib.hid hmX
          clear hfz hwvb hto hupd hwown hmX hnx
          have hm32 := wr32_len run
          have HWL := Lib.hid (wr32_snoc run r)
          generalize hmm : (wr32 run).length = m at *
          have HMM := Lib.hid hmm; clear hmm
          have hes : (Utf8.encode (r : Int)).size = n := by rw [HEN.out, ← HWW.out]; rfl
          by_cases hfull : m < 32
          · have hdec : decide ((m : Int) < 32) = true := by simp; omega
            go_upto_region 13 with fail
            have HHW := Lib.hid (fun o => HWO.out.alloc o : ∀ o, (WX.alloc o).ownsRow K 21 1 (Value.slice wa m wc) m (List.map runeCell (wr32 run)))
            have HST := Lib.hid (grown_cells hgs hc0 hfz0 hc2 hfz2 (fun k hk => (HVB.out k hk).1))
            go_region_law (first | (refine step_append_lies _ rfl _ _ 81 rfl K 21 j0 (.int .i32 0) 1 4 Tryz.underlying81 ji jz0 jz1 jz2 rfl (by decide) _ _ _ rfl (by first | exact HHW.out _ | exact (HHW.out _).drew) ⟨WX.heap.size, 0, none⟩ 1 1 [runeCell sr] rfl rfl (by exact cell_one_new _ _ _) (by simp [runeCell, Value.oneCell']) (by omega) (by unfold maxLen; omega) (by omega) (by simp; omega) _ rfl ?_; intro g1 cap1 w3 hown3 hgr3 _ hlt3; have hgr4 := grown_undrew hgr3; obtain ⟨k1, k2, k3, k4⟩ := HST.out _ _ hgr4) | (go_simp; go_at_call 76; refine (cS _).mono ?_; rintro e w' ⟨rfl, rfl⟩))
            all_goals
              clear hgr3
              go_wp2
              go_roundw
              case rel =>
                have hmm : RunsMem (w3.setCell ⟨g0, L0.length * 3, none⟩ (.slice (some ⟨g1, 0, none⟩) (m + 1) cap1)) (w.heap.size + 1) (.slice (some ⟨g0, 0, none⟩) (L0.length + 1) cap0) (L0 ++ [(run ++ [r], f, t)]) :=
                  HUP.out _ _ _ _ hgr4 (by rw [HWL.out, if_pos hfull, HSR.out, List.length_append, HMM.out, List.map_append]; exact hown3)
                obtain ⟨_, _, g', cap', e1, _, _, _, _, _, _, _, _, _, hto, _⟩ := runsMem_last hmm
                injection e1 with e2 _ e3
                injection e2 with e2
                injection e2 with e2 _ _
                subst e2
                have hbb := ((hbX.alloc (by omega) _).grown hgr4 (by simp; omega) (fun k hk => by have := (HVB.out k hk).2; omega))
                have hsz3 := hgr4.size
                simp only [World.size_alloc] at hsz3
                exact HREL.out _ _ (by rw [heap_set (by omega), heap_set (by omega), heap_grown hszX (fun e => by have := (HVB.out _ e).2; omega) hgr4]; exact HITX.out) (hto (pos + n)) ((hbb.setCell (p := ⟨_, _, none⟩) (by simp only; omega) _).setCell (p := ⟨_, _, none⟩) (by simp only; omega) _) (by simp; omega)
              case measure =>
                rw [iterPos_of (by rw [heap_set (by omega), heap_set (by omega), heap_grown hszX (fun e => by have := (HVB.out _ e).2; omega) hgr4]; exact HITX.out), HM.out]
                omega
          · have hdec : decide ((m : Int) < 32) = false := by simp; omega
            go_wp2
            go_roundw
            case rel =>
              have hmm : RunsMem WX (w.heap.size + 1) (.slice (some ⟨g0, 0, none⟩) (L0.length + 1) cap0) (L0 ++ [(run ++ [r], f, t)]) := runsMem_full HMX.out (by rw [HWL.out, if_neg hfull])
              obtain ⟨_, _, g', cap', e1, _, _, _, _, _, _, _, _, _, hto, _⟩ := runsMem_last hmm
              injection e1 with e2 _ e3
              injection e2 with e2
              injection e2 with e2 _ _
              subst e2
              exact HREL.out _ _ (by rw [heap_set (by omega)]; exact HITX.out) (hto (pos + n)) (hbX.setCell (p := ⟨_, _, none⟩) (by simp only; omega) _) (by simp; omega)
            case measure =>
              rw [iterPos_of (by rw [heap_set (by omega)]; exact HITX.out), HM.out]
              omega
      · have hwf : wordN r = false := by simpa using hword
        rw [hwf] at cW
        have HWF := Lib.hid hwf
        clear hword hwf hww
        go_wp2_with (first | (go_at_call 75; refine (cW _).mono ?_; rintro e w' ⟨rfl, rfl⟩))
        go_roundw
        case rel => exact rel_no hpl HT.out HMK.out HWF.out hLp HIT2.out hmem2 hb2 hsz2
        case measure => rw [iterPos_of HIT2.out, HM.out]; omega
    · have hnx : ∀ ty, (Instr.next (.pointer (some ⟨w.heap.size, 0, none⟩)) true ty).run Tryz.prog wr = _ := fun ty => Lib.run_next_end_at wr w.heap.size s pos ty hit hp
      have e := HT.out
      rw [marks_end s pos hp] at e
      have e' : L = TOT := e
      subst e'
      go_wp2
      go_ret
      exact ⟨_, rfl, hmem, hb⟩

end Go.Proofs.YtaimldndooijdaaGreatDoor
/-
  The contracts of text.Words, text.Set, text.Inner.
-/
namespace Go.Proofs.YtaimldndooijdaaGreatDoor
open Go.RowKit

/-- A list of texts of the call's own. -/
def Texts (w : World) (B : Nat) (v : Value) (L : List Txt) : Prop := w.ownsRow B 9 1 v L.length (L.map strV)
theorem runsRow_of {w : World} {B : Nat} {v : Value} {L : List Run} (h : RunsMem w B v L) : RunsRow w v (L.map fun x => (wr32 x.1, x.2)) := by
  obtain ⟨E, hE, hown, hd⟩ := runsMem_owns h
  obtain ⟨_, a, cap, rfl, h1, h2, hc⟩ := argRow_owns hown
  rw [← List.length_map (f := fun x : Run => (wr32 x.1, x.2))] at h1 hc ⊢
  refine ⟨a, cap, rfl, h1, h2, fun h0 => ?_⟩
  obtain ⟨b, off, e, hb, hcs⟩ := hc h0
  refine ⟨b, off, e, hb, fun j hj => ?_⟩
  have hj' : j < L.length := by simpa using hj
  have hz : (E.zip (L.map (·.2))).length = L.length := by rw [List.length_zip, List.length_map, hE, Nat.min_self]
  have hg := flat3_get (E.zip (L.map (·.2))) j (by omega)
  have hfl := flat3_len (E.zip (L.map (·.2)))
  have hget : ∀ k u, (flat3 (E.zip (L.map (·.2))))[k]? = some u → w.cell? ⟨b, off + k, none⟩ = some u := by
    intro k u hu
    obtain ⟨hk, e⟩ := List.getElem?_eq_some_iff.1 hu
    rw [hcs k hk, e]
  have e1 : (E.zip (L.map (·.2)))[j]'(by omega) = (E[j], L[j].2) := by simp
  rw [e1] at hg
  refine ⟨E[j], hget _ _ hg.1, ?_, ?_, ?_⟩
  · have := hget _ _ hg.2.1
    simp only [List.getElem_map]
    rw [Nat.add_assoc]; exact this
  · have := hget _ _ hg.2.2
    simp only [List.getElem_map]
    rw [Nat.add_assoc]; exact this
  · have := argRow_owns (hd j hj' (by omega)).1
    simpa using this
theorem wr32_scalars {run : List Nat} (h : scalars run) : scalars (wr32 run) := scalars_small (fun r hr => h r (List.mem_of_mem_take hr))
theorem runs_row (s : ByteArray) (w : World) (hs : s.size ≤ 1000000000) :
    Calls Tryz.prog 51 #[.string s] w fun e w' => ∃ v, e = .returned v ∧ RunsRow w' v ((runsOfText s.data.toList).map fun x => (wr32 x.1, x.2)) ∧ Below w.heap.size w w' :=
  (text_runs s w hs).mono fun _ _ ⟨v, he, hm, hb⟩ => ⟨v, he, runsRow_of hm, hb⟩
theorem size_list (s : ByteArray) : s.data.toList.length = s.size := by simp [ByteArray.size_data]
theorem text_Words' (s : ByteArray) (w : World) (hs : s.size ≤ 1000000000) :
    Calls Tryz.prog 33 #[.string s] w fun e w' => ∃ v, e = .returned v ∧ Texts w' w.heap.size v (words s.data.toList) ∧ Below w.heap.size w w' := by
  have hl := runsOfText_len s.data.toList
  rw [size_list] at hl
  refine (text_Words s _ w (by rw [List.length_map]; omega) (fun x hx => ?_) (runs_row s w hs)).mono fun e w' ⟨v, he, ho, hb⟩ => ⟨v, he, ?_, hb⟩
  · obtain ⟨y, hy, rfl⟩ := List.mem_map.1 hx
    exact wr32_scalars (runsOfText_le _ y hy).2
  · have e1 : ((runsOfText s.data.toList).map fun x => (wr32 x.1, x.2)).map (fun x => strV (enc x.1)) = (words s.data.toList).map strV := by
      rw [← runsOfText_words, List.map_map, List.map_map]; rfl
    rw [e1] at ho
    have e2 : ((runsOfText s.data.toList).map fun x => (wr32 x.1, x.2)).length = (words s.data.toList).length := by
      rw [← runsOfText_words, List.length_map, List.length_map]
    rw [e2] at ho
    exact ho

theorem owns_take {w : World} {B : Nat} {e : TypeId} {sz g n cap k : Nat} {xs : List Value} (h : w.ownsRow B e sz (.slice (some ⟨g, 0, none⟩) n cap) n xs) (hk : k ≤ n) : w.ownsRow B e sz (.slice (some ⟨g, 0, none⟩) k cap) k (xs.take (k * sz)) := by
  have hkn : k * sz ≤ n * sz := Nat.mul_le_mul_right _ hk
  refine ⟨by rw [List.length_take, h.1]; omega, ?_⟩
  rcases h.2 with ⟨e, _⟩ | ⟨g', cap', cur, e, h1, h2, h3, h4, h5, h6⟩
  · cases e
  · cases e
    exact .inr ⟨g, cap, cur, rfl, h1, h2, by omega, h4, h5, by rw [← h6, List.take_take, Nat.min_eq_left hkn]⟩
theorem sort_own {w : World} {B : Nat} {v : Value} {L : List Txt} (h : Texts w B v L) (hL : L.length ≤ 1000000000000) :
    Calls Tryz.prog 34 #[v] w fun e w' => e = .returned (.tuple #[]) ∧ Texts w' B v (L.mergeSort fun x y => decide (x ≤ y)) ∧ w.grownBy w' v.ownBlock := by
  rcases h.2 with ⟨rfl, h0⟩ | ⟨g, cap, cur, rfl, hbase, hb, h1, h2, h3, h4⟩
  · have : L = [] := List.eq_nil_of_length_eq_zero h0
    subst this
    refine (Tryz.slices_Sort_string_none none 0 w).mono ?_
    rintro e w' ⟨rfl, rfl⟩
    exact ⟨rfl, by simpa [Texts] using h, World.grownBy.refl _ _⟩
  · refine (Tryz.slices_Sort_string g 0 cap L w (holds_of_block hb (by rw [Nat.mul_one] at h4; exact h4)) (Array.getElem?_eq_some_iff.1 hb).1 (by omega)).mono ?_
    rintro e w' ⟨rfl, n, os, rfl⟩
    refine ⟨rfl, ?_, grownBy_sorted _⟩
    unfold Texts
    rw [List.length_mergeSort]
    exact ownsRow_sorted (List.length_mergeSort _) hbase hb h1 h2 h3
theorem compact_own {w : World} {B : Nat} {v : Value} {L : List Txt} (h : Texts w B v L) (hL : L.length ≤ 1000000000000) :
    Calls Tryz.prog 35 #[v] w fun e w' => ∃ v', e = .returned v' ∧ Texts w' B v' (Lib.compact L) ∧ w.grownBy w' v.ownBlock := by
  rcases h.2 with ⟨rfl, h0⟩ | ⟨g, cap, cur, rfl, hbase, hb, h1, h2, h3, h4⟩
  · have : L = [] := List.eq_nil_of_length_eq_zero h0
    subst this
    refine (Tryz.slices_Compact_string_empty none 0 w).mono ?_
    rintro e w' ⟨rfl, rfl⟩
    exact ⟨_, rfl, h, World.grownBy.refl _ _⟩
  · refine (Tryz.slices_Compact_string g 0 cap L w (holds_of_block hb (by rw [Nat.mul_one] at h4; exact h4)) (by omega) h1).mono ?_
    rintro e w' ⟨rfl, q, rfl⟩
    have hcl : (Lib.compact L).length ≤ L.length := by
      unfold Lib.compact Lib.compactUpTo
      rw [List.length_map]
      exact Nat.le_trans (List.length_filter_le _ _) (by simp)
    have hgr := grownBy_sorted (w := w) (g := g) (n := q) (os := #[]) (Lib.compact L ++ List.replicate (L.length - (Lib.compact L).length) []).toArray
    have how := ownsRow_sorted (w := w) (n := q) (os := #[]) (ss := L) (ts := Lib.compact L ++ List.replicate (L.length - (Lib.compact L).length) []) (by simp; omega) hbase hb h1 h2 h3
    rw [Sort.grow_empty] at hgr how
    have hx := owns_take how hcl
    rw [Nat.mul_one, List.map_append, List.take_left' (by simp)] at hx
    exact ⟨_, rfl, hx, hgr⟩

end Go.Proofs.YtaimldndooijdaaGreatDoor
/-
  The contract of the reference's Once.
-/
namespace Go.Proofs.YtaimldndooijdaaGreatDoor
open Go.RowKit

theorem insU_at (x : Txt) (O : List Txt) (m : Nat) (hm : m ≤ O.length) (h : ∀ y ∈ O.take m, y < x) (hs : ∀ h : m < O.length, ¬ O[m] < x) :
    insU x O = if O[m]? = some x then O else O.take m ++ x :: O.drop m := by
  have ht : O.takeWhile (fun y => decide (y < x)) = O.take m := by
    have e : O = O.take m ++ O.drop m := (List.take_append_drop m O).symm
    conv => lhs; rw [e]
    rw [List.takeWhile_append_of_pos (fun y hy => by simpa using h y hy)]
    by_cases c : m < O.length
    · rw [List.drop_eq_getElem_cons c, List.takeWhile_cons_of_neg (by simpa using hs c), List.append_nil]
    · rw [List.drop_of_length_le (by omega), List.takeWhile_nil, List.append_nil]
  have hl : (O.take m).length = m := by rw [List.length_take]; omega
  unfold insU
  simp only [ht, hl, List.head?_drop]
theorem texts_ins {w : World} {A B : Nat} {v : Value} {O : List Txt} {x : Txt} {m : Nat} (h : w.ownsRow A 9 1 v (m + 1 + (O.length - m)) ((O.take m).map strV ++ [strV x] ++ (O.drop m).map strV)) (hm : m ≤ O.length) (hA : B ≤ A) : Texts w B v (O.take m ++ x :: O.drop m) := by
  have e : (O.take m ++ x :: O.drop m).length = m + 1 + (O.length - m) := by simp; omega
  unfold Texts
  rw [e]
  have e2 : (O.take m ++ x :: O.drop m).map strV = (O.take m).map strV ++ [strV x] ++ (O.drop m).map strV := by simp
  rw [e2]
  exact owns_base h hA
theorem texts_end {w : World} {A B : Nat} {v : Value} {O : List Txt} {x : Txt} (h : w.ownsRow A 9 1 v (O.length + 1) (O.map strV ++ [strV x])) (hA : B ≤ A) : Texts w B v (O ++ [x]) := by
  unfold Texts
  rw [List.length_append, List.map_append]
  exact owns_base h hA
theorem src_empty {P : Program} {w : World} {tx e' : TypeId} {size : Nat} (hk : P.underlying tx = some (.slice e')) (a : Option Addr) (c : Nat) : Src P size tx (.slice a 0 c) 0 [] w := by
  cases a with
  | none => exact Src.ofNil w hk c
  | some a => exact Src.ofSlice w hk a 0 c [] (by simp) (fun j u h => by simp at h) (fun u h => by cases h)
theorem below_src {wr W w1 : World} (h : Below wr.heap.size wr W) (hg : W.grownBy w1 none) (hs : wr.heap.size ≤ W.heap.size) : Below wr.heap.size wr w1 := h.grown hg hs (fun k hk => by cases hk)
theorem below_src' {wr w1 w2 : World} {o : Obj} {v : Value} {e : TypeId} {sz n : Nat} {xs : List Value} (h : Below wr.heap.size wr w1) (ho : w1.ownsRow wr.heap.size e sz v n xs) (hg : (w1.alloc o).grownBy w2 v.ownBlock) : Below wr.heap.size wr w2 :=
  (h.alloc h.size o).grown hg (by have := h.size; simp; omega) (fun k hk => (ho.lt k hk).1)
theorem below_src2 {wr w1 w2 : World} {v : Value} {e : TypeId} {sz n : Nat} {xs : List Value} (h : Below wr.heap.size wr w1) (ho : w1.ownsRow wr.heap.size e sz v n xs) (hg : w1.grownBy w2 v.ownBlock) : Below wr.heap.size wr w2 :=
  h.grown hg h.size (fun k hk => (ho.lt k hk).1)
theorem strV_one (L : List Txt) : ∀ u ∈ L.map strV, u.oneCell' = true := by
  intro u hu
  obtain ⟨x, _, rfl⟩ := List.mem_map.1 hu
  rfl
theorem strV_beq (a b : Txt) : ((⟨a.toArray⟩ : ByteArray).toList == (⟨b.toArray⟩ : ByteArray).toList) = decide (a = b) := by
  rw [ByteArray.toList_eq, ByteArray.toList_eq, Bool.eq_iff_iff]
  simp

set_option maxRecDepth 100000 in
set_option maxHeartbeats 8000000 in
theorem ref_Once (va : Value) (L : List Txt) (w : World) (hrow : argRow w va L.length 1 (L.map strV)) (hL : L.length ≤ 1010000000) :
    Calls Tryz.prog 74 #[va] w fun e w' => ∃ v, e = .returned v ∧ Texts w' w.heap.size v (onceL L) ∧ Below w.heap.size w w' := by
  obtain ⟨_, aa, ac, rfl, hac, hacm, hcell⟩ := hrow
  clear hac hacm
  have HC := Lib.hid hcell
  clear hcell
  have EL : ElemT Tryz.prog 49 9 (.string ⟨#[]⟩) 1 16 := ⟨Tryz.underlying49, info_str, rfl, by decide⟩
  obtain ⟨R, hR⟩ : ∃ R, onceL L = R := ⟨_, rfl⟩
  rw [hR]
  have HR := Lib.hid hR
  clear hR
  go_enter Tryz.func74, Tryz.ntmps74
  go_wp2
  go_loopw [3, 4] (fun v i wr => ∃ (k : Nat) (O : List Txt), k ≤ L.length ∧ i = .int .i64 k ∧ Texts wr w.heap.size v O ∧ (L.take k).foldl (fun out x => insU x out) [] = O ∧ O.length ≤ k ∧ Below w.heap.size w wr) (fun _ i _ => L.length - (intOf i).toNat)
  case atStart => exact ⟨0, [], by omega, rfl, World.ownsRow_nil _ _ _ _, rfl, by simp, Below.refl _ _⟩
  case round =>
    obtain ⟨k, O, hk, rfl, hown, hO, hOk, hbr⟩ := hrel
    have HF := Lib.hid hO
    clear hO
    by_cases hlt : k < L.length
    · obtain ⟨b, off, rfl, hbl, hcs⟩ := HC.out (by omega)
      have g0 : wr.cell? ⟨b, off + k, none⟩ = some (strV L[k]) := by
        rw [hbr.cell (p := ⟨b, off + k, none⟩) hbl, hcs k (by simpa using hlt), List.getElem_map]
      clear hcs
      have HTK := Lib.hid (List.take_succ_eq_append_getElem hlt)
      generalize L[k] = x at *
      have i1 : (0 : Int) ≤ (k : Int) := by omega
      have i2 : (k : Int) < (L.length : Int) := by omega
      have HROW := Lib.hid (fun W (hW : Below wr.heap.size wr W) => argRow_below (argRow_owns hown) hW : ∀ W, Below wr.heap.size wr W → argRow W _ _ 1 _)
      obtain ⟨oa, oc, rfl⟩ := owns_slice hown
      have hoc : O.length ≤ oc := by
        obtain ⟨_, _, _, e, h, _⟩ := HROW.out wr (Below.refl _ _)
        cases e; exact h
      have HOWN := Lib.hid hown
      clear hown
      have HG := Lib.hid g0
      unfold strV at g0
      have hblt : b < wr.heap.size := Nat.lt_of_lt_of_le hbl hbr.size
      obtain ⟨wo, hwo⟩ : ∃ wo : World, wo = wr := ⟨_, rfl⟩
      subst hwo
      go_wp2
      go_loopw [5] (fun at' wi => ∃ m q : Nat, m ≤ O.length ∧ at' = .int .i64 m ∧ (∀ y ∈ O.take m, y < x) ∧ wi = wo.drewN q) (fun at' _ => O.length - (intOf at').toNat)
      case atStart => exact ⟨0, 0, by omega, rfl, by simp, rfl⟩
      case round =>
        obtain ⟨m, q, hm, rfl, hall, rfl⟩ := hrel
        have HA := Lib.hid hall
        clear hall
        have HS1 := Lib.hid (fun W hW => src_arg Tryz.underlying49 (argRow_take (HROW.out W hW) hm) (by rw [Nat.mul_one, ← List.map_take]; exact strV_one _) : ∀ W, Below wo.heap.size wo W → Src Tryz.prog 1 49 (.slice oa m oc) m ((O.map strV).take (m * 1)) W)
        rw [Nat.mul_one, ← List.map_take] at HS1
        by_cases hmo : m < O.length
        · have hrow := HROW.out wo (Below.refl _ _)
          obtain ⟨_, _, _, e, _, _, hcO⟩ := hrow
          cases e
          obtain ⟨bo, oo, rfl, hbo, hco⟩ := hcO (by omega)
          have c1 : wo.cell? ⟨bo, oo + m, none⟩ = some (strV O[m]) := by rw [hco m (by simpa using hmo), List.getElem_map]
          clear hcO hco
          have HOM := Lib.hid (rfl : O[m] = O[m])
          have hins := insU_at x O m hm HA.out
          have htk : O.take (m + 1) = O.take m ++ [O[m]] := List.take_succ_eq_append_getElem hmo
          have HTM := Lib.hid htk
          clear htk
          have hgm : O[m]? = some O[m] := List.getElem?_eq_getElem hmo
          rw [hgm] at hins
          have hins' : ¬ O[m] < x → insU x O = if some O[m] = some x then O else O.take m ++ x :: O.drop m := fun h => hins (fun _ => h)
          clear hins hgm
          have HI := Lib.hid hins'
          clear hins' HOM
          generalize O[m] = y at *
          have j1 : (0 : Int) ≤ (m : Int) := by omega
          have j2 : (m : Int) < (O.length : Int) := by omega
          unfold strV at c1
          by_cases hyx : y < x
          · have hbl : Op.bytesLess y x = true := by rw [Go.Proofs.bytesLess_eq]; exact decide_eq_true hyx
            have HYX := Lib.hid hyx
            clear hyx
            go_wp2_with fail
            go_quiet (fail)
            go_wp2
            go_roundw
            case rel => exact ⟨m + 1, _, by omega, by go_num, by rw [HTM.out]; intro z hz; rcases List.mem_append.1 hz with h | h; exact HA.out z h; simp at h; rw [h]; exact HYX.out, rfl⟩
            case measure => simp [intOf]; omega
          · have hbl : Op.bytesLess y x = false := by rw [Go.Proofs.bytesLess_eq]; exact decide_eq_false hyx
            have hins := HI.out hyx
            clear hyx HI
            by_cases he : y = x
            · subst he
              rw [if_pos rfl] at hins
              have HINS := Lib.hid hins
              clear hins
              have hbe : (y == y) = true := by simp
              go_wp2_with fail
              go_quiet (fail)
              go_wp2_with fail
              go_quiet (fail)
              go_wp2
              go_roundw
              case rel => exact ⟨k + 1, O, by omega, by go_num, HOWN.out, by rw [HTK.out, List.foldl_append, HF.out]; exact HINS.out, by omega, below_drewN hbr _⟩
              case measure => simp [intOf]; omega
            · have hne : ¬ some y = some x := fun h => he (Option.some.inj h)
              rw [if_neg hne] at hins
              have HINS := Lib.hid hins
              have hbe : (y == x) = false := by simpa using he
              clear hins hne he
              have HS3 := Lib.hid (fun W hW => src_arg Tryz.underlying49 (argRow_drop (HROW.out W hW) hm (c' := oc - m) (by omega) (fun b off e h => by cases e; rw [Nat.mul_one])) (by rw [Nat.mul_one, ← List.map_drop]; exact strV_one _) : ∀ W, Below wo.heap.size wo W → Src Tryz.prog 1 49 (.slice (some ⟨bo, oo + m, none⟩) (O.length - m) (oc - m)) (O.length - m) ((O.map strV).drop (m * 1)) W)
              rw [Nat.mul_one, ← List.map_drop] at HS3
              go_wp2_with fail
              go_quiet (fail)
              go_wp2_with fail
              go_quiet (fail)
              go_wp2_with (first | (at_builtin; refine wpList_append_src rfl (.tmp 45) (.tmp 48) _ _ rfl wo.heap.size EL _ 0 [] rfl (World.ownsRow_nil _ _ _ _) _ m ((O.take m).map strV) rfl (by exact HS1.out _ (by repeat first | exact Below.refl _ _ | refine below_drewN ?_ _)) (by unfold maxLen; omega) (by omega) (by simp) ?_; intro v1 w1 hown1 hgr1 _ _; have hb1 := below_src (wr := wo) (by repeat first | exact Below.refl _ _ | refine below_drewN ?_ _) hgr1 (by simp); have g1 := (hb1.cell (p := ⟨b, off + k, none⟩) hblt).trans g0; simp only [Nat.zero_add, List.nil_append] at hown1) | (at_builtin; refine wpList_append_src rfl (.tmp 50) (.tmp 55) _ _ rfl wo.heap.size EL _ _ _ rfl (hown1.alloc _) _ 1 [strV x] rfl (by exact src_last (cs := #[strV x]) Tryz.underlying49 1 1 1 rfl rfl (by simp [strV, Value.oneCell'])) (by unfold maxLen; omega) (by omega) (by have := hb1.size; simp; omega) ?_; intro v2 w2 hown2 hgr2 _ _; have hb2 := below_src' hb1 hown1 hgr2) | (at_builtin; refine wpList_append_src rfl (.tmp 57) (.tmp 60) _ _ rfl wo.heap.size EL _ _ _ rfl hown2 _ (O.length - m) ((O.drop m).map strV) rfl (by exact HS3.out _ hb2) (by unfold maxLen; omega) (by omega) (by have := hb2.size; simp; omega) ?_; intro v3 w3 hown3 hgr3 _ _; have hb3 := below_src2 hb2 hown2 hgr3))
              go_roundw
              case rel => exact ⟨k + 1, insU x O, by omega, by go_num, by rw [HINS.out]; exact texts_ins hown3 hm hbr.size, by rw [HTK.out, List.foldl_append, HF.out]; rfl, by rw [HINS.out]; simp; omega, hbr.trans (hb3.mono hbr.size)⟩
              case measure => simp [intOf]; omega
        · obtain rfl : m = O.length := by omega
          have hins := insU_at x O O.length (Nat.le_refl _) HA.out (fun h => absurd h hmo)
          rw [List.getElem?_eq_none (Nat.le_refl _), if_neg (by simp), List.drop_length, List.take_length] at hins
          have HINS := Lib.hid hins
          clear hins hmo
          rcases HOWN.out.2 with ⟨e, _⟩ | ⟨g, cap, _, e, _, _, _, _, _, _⟩
          · injection e with e1 e2 e3
            subst e1
            subst e3
            have e4 : O = [] := List.eq_nil_of_length_eq_zero e2
            subst e4
            simp only [List.length_nil] at *
            go_wp2_with fail
            go_quiet (fail)
            go_wp2_with fail
            go_quiet (fail)
            go_wp2_with (first | (at_builtin; refine wpList_append_src rfl (.tmp 45) (.tmp 48) _ _ rfl wo.heap.size EL _ 0 [] rfl (World.ownsRow_nil _ _ _ _) _ 0 ((([] : List Txt).take 0).map strV) rfl (by exact HS1.out _ (by repeat first | exact Below.refl _ _ | refine below_drewN ?_ _)) (by unfold maxLen; omega) (by omega) (by simp) ?_; intro v1 w1 hown1 hgr1 _ _; have hb1 := below_src (wr := wo) (by repeat first | exact Below.refl _ _ | refine below_drewN ?_ _) hgr1 (by simp); have g1 := (hb1.cell (p := ⟨b, off + k, none⟩) hblt).trans g0; simp only [Nat.zero_add, List.nil_append] at hown1) | (at_builtin; refine wpList_append_src rfl (.tmp 50) (.tmp 55) _ _ rfl wo.heap.size EL _ _ _ rfl (hown1.alloc _) _ 1 [strV x] rfl (by exact src_last (cs := #[strV x]) Tryz.underlying49 1 1 1 rfl rfl (by simp [strV, Value.oneCell'])) (by unfold maxLen; omega) (by omega) (by have := hb1.size; simp; omega) ?_; intro v2 w2 hown2 hgr2 _ _; have hb2 := below_src' hb1 hown1 hgr2) | (at_builtin; refine wpList_append_src rfl (.tmp 57) (.tmp 60) _ _ rfl wo.heap.size EL _ _ _ rfl hown2 _ 0 [] rfl (by exact src_empty Tryz.underlying49 _ _) (by unfold maxLen; omega) (by omega) (by have := hb2.size; simp; omega) ?_; intro v3 w3 hown3 hgr3 _ _; have hb3 := below_src2 hb2 hown2 hgr3))
            go_roundw
            case rel => exact ⟨k + 1, insU x ([] : List Txt), by omega, by go_num, by rw [HINS.out]; exact texts_end (by simpa using hown3) hbr.size, by rw [HTK.out, List.foldl_append, HF.out]; rfl, by rw [HINS.out]; simp <;> omega, hbr.trans (hb3.mono hbr.size)⟩
            case measure => simp [intOf]; omega
          · injection e with e1 _ e3
            subst e1
            subst e3
            by_cases hcap : O.length = oc
            · subst hcap
              go_wp2_with fail
              go_quiet (fail)
              go_wp2_with fail
              go_quiet (fail)
              go_wp2_with (first | (at_builtin; refine wpList_append_src rfl (.tmp 45) (.tmp 48) _ _ rfl wo.heap.size EL _ 0 [] rfl (World.ownsRow_nil _ _ _ _) _ O.length ((O.take O.length).map strV) rfl (by exact HS1.out _ (by repeat first | exact Below.refl _ _ | refine below_drewN ?_ _)) (by unfold maxLen; omega) (by omega) (by simp) ?_; intro v1 w1 hown1 hgr1 _ _; have hb1 := below_src (wr := wo) (by repeat first | exact Below.refl _ _ | refine below_drewN ?_ _) hgr1 (by simp); have g1 := (hb1.cell (p := ⟨b, off + k, none⟩) hblt).trans g0; simp only [Nat.zero_add, List.nil_append] at hown1) | (at_builtin; refine wpList_append_src rfl (.tmp 50) (.tmp 55) _ _ rfl wo.heap.size EL _ _ _ rfl (hown1.alloc _) _ 1 [strV x] rfl (by exact src_last (cs := #[strV x]) Tryz.underlying49 1 1 1 rfl rfl (by simp [strV, Value.oneCell'])) (by unfold maxLen; omega) (by omega) (by have := hb1.size; simp; omega) ?_; intro v2 w2 hown2 hgr2 _ _; have hb2 := below_src' hb1 hown1 hgr2) | (at_builtin; refine wpList_append_src rfl (.tmp 57) (.tmp 60) _ _ rfl wo.heap.size EL _ _ _ rfl hown2 _ 0 [] rfl (by exact src_empty Tryz.underlying49 _ _) (by unfold maxLen; omega) (by omega) (by have := hb2.size; simp; omega) ?_; intro v3 w3 hown3 hgr3 _ _; have hb3 := below_src2 hb2 hown2 hgr3))
              go_roundw
              case rel => exact ⟨k + 1, insU x O, by omega, by go_num, by rw [HINS.out]; exact texts_end (by simpa using hown3) hbr.size, by rw [HTK.out, List.foldl_append, HF.out]; rfl, by rw [HINS.out]; simp <;> omega, hbr.trans (hb3.mono hbr.size)⟩
              case measure => simp [intOf]; omega
            · have hcap' : O.length < oc := by omega
              clear hcap
              go_wp2_with fail
              go_quiet (fail)
              go_wp2_with fail
              go_quiet (fail)
              go_wp2_with (first | (at_builtin; refine wpList_append_src rfl (.tmp 45) (.tmp 48) _ _ rfl wo.heap.size EL _ 0 [] rfl (World.ownsRow_nil _ _ _ _) _ O.length ((O.take O.length).map strV) rfl (by exact HS1.out _ (by repeat first | exact Below.refl _ _ | refine below_drewN ?_ _)) (by unfold maxLen; omega) (by omega) (by simp) ?_; intro v1 w1 hown1 hgr1 _ _; have hb1 := below_src (wr := wo) (by repeat first | exact Below.refl _ _ | refine below_drewN ?_ _) hgr1 (by simp); have g1 := (hb1.cell (p := ⟨b, off + k, none⟩) hblt).trans g0; simp only [Nat.zero_add, List.nil_append] at hown1) | (at_builtin; refine wpList_append_src rfl (.tmp 50) (.tmp 55) _ _ rfl wo.heap.size EL _ _ _ rfl (hown1.alloc _) _ 1 [strV x] rfl (by exact src_last (cs := #[strV x]) Tryz.underlying49 1 1 1 rfl rfl (by simp [strV, Value.oneCell'])) (by unfold maxLen; omega) (by omega) (by have := hb1.size; simp; omega) ?_; intro v2 w2 hown2 hgr2 _ _; have hb2 := below_src' hb1 hown1 hgr2) | (at_builtin; refine wpList_append_src rfl (.tmp 57) (.tmp 60) _ _ rfl wo.heap.size EL _ _ _ rfl hown2 _ 0 [] rfl (by exact src_empty Tryz.underlying49 _ _) (by unfold maxLen; omega) (by omega) (by have := hb2.size; simp; omega) ?_; intro v3 w3 hown3 hgr3 _ _; have hb3 := below_src2 hb2 hown2 hgr3))
              go_roundw
              case rel => exact ⟨k + 1, insU x O, by omega, by go_num, by rw [HINS.out]; exact texts_end (by simpa using hown3) hbr.size, by rw [HTK.out, List.foldl_append, HF.out]; rfl, by rw [HINS.out]; simp <;> omega, hbr.trans (hb3.mono hbr.size)⟩
              case measure => simp [intOf]; omega
    · obtain rfl : k = L.length := by omega
      have e := HF.out
      rw [List.take_length] at e
      have hfin : Texts wr w.heap.size u3 R := by rw [← HR.out]; unfold onceL; rw [e]; exact hown
      go_wp2
      go_ret
      exact ⟨_, rfl, hfin, hbr⟩
end Go.Proofs.YtaimldndooijdaaGreatDoor
/-
  The contracts of the reference's Same and Has.
-/
namespace Go.Proofs.YtaimldndooijdaaGreatDoor
open Go.RowKit Go.ChangeShapes Go.WideShapes

/-- A list of texts that can be read. -/
def strRow (w : World) (v : Value) (xs : List ByteArray) : Prop := argRow w v xs.length 1 (xs.map Value.string)

theorem str_beq (x y : ByteArray) : (x.toList == y.toList) = decide (x = y) := by
  rw [Bool.eq_iff_iff, beq_iff_eq, decide_eq_true_eq, ByteArray.toList_eq, ByteArray.toList_eq]
  constructor
  · intro h
    cases x; cases y
    simp only [Array.toList_inj] at h
    rw [h]
  · intro h; rw [h]

set_option maxRecDepth 100000 in
set_option maxHeartbeats 1000000 in
theorem ref07_Same (va vb : Value) (xs ys : List ByteArray) (w : World) (hx : strRow w va xs) (hy : strRow w vb ys) (hlx : xs.length ≤ 1010000000) (hly : ys.length ≤ 1010000000) :
    Calls Tryz.prog 20 #[va, vb] w fun e w' => e = .returned (.bool (decide (xs = ys))) ∧ Below w.heap.size w w' := by
  obtain ⟨_, a, ca, rfl, hca, hcm, hxc⟩ := hx
  obtain ⟨_, b, cb, rfl, hcb, hcm2, hyc⟩ := hy
  clear hcm hcm2
  by_cases hl : xs.length = ys.length
  · have hb1 : ((xs.length : Int) != (ys.length : Int)) = false := by rw [hl]; simp
    have HX := Lib.hid hxc
    have HY := Lib.hid hyc
    have HL := Lib.hid hl
    clear hxc hyc hl
    go_enter Tryz.func20, Tryz.ntmps20
    go_wp2
    go_loopw [5] (fun i wr => ∃ k q : Nat, k ≤ xs.length ∧ i = .int .i64 k ∧ xs.take k = ys.take k ∧ wr = w.drewN q) (fun i _ => xs.length - (intOf i).toNat)
    case atStart => exact ⟨0, 0, by omega, rfl, rfl, rfl⟩
    case round =>
      obtain ⟨k, q, hk, rfl, ht, rfl⟩ := hrel
      have HT := Lib.hid ht
      clear ht
      by_cases hlt : k < xs.length
      · obtain ⟨ba, oa, rfl, hba, hca'⟩ := HX.out (by omega)
        obtain ⟨bb, ob, rfl, hbb, hcb'⟩ := HY.out (by have := HL.out; omega)
        have hlty : k < ys.length := by have := HL.out; omega
        have c1 := hca' k (by simpa using hlt)
        have c2 := hcb' k (by simpa using hlty)
        rw [List.getElem_map] at c1 c2
        have HK : Hid (xs.take (k + 1) = xs.take k ++ [xs[k]] ∧ ys.take (k + 1) = ys.take k ++ [ys[k]] ∧ (xs = ys → xs[k] = ys[k])) :=
          ⟨List.take_succ_eq_append_getElem hlt, List.take_succ_eq_append_getElem hlty, fun e => by subst e; rfl⟩
        clear hca' hcb' HX HY
        generalize xs[k] = x at *
        generalize ys[k] = y at *
        have i1 : (0 : Int) ≤ (k : Int) := by omega
        have i2 : (k : Int) < (xs.length : Int) := by omega
        have i3 : (k : Int) < (ys.length : Int) := by omega
        by_cases hxy : x = y
        · subst hxy
          have hbe : (x.toList == x.toList) = true := by simp
          go_wp2_with fail
          go_quiet (fail)
          go_wp2
          go_roundw
          case rel => exact ⟨k + 1, _, by omega, by go_num, by rw [HK.out.1, HK.out.2.1, HT.out], rfl⟩
          case measure => simp [intOf]; omega
        · have hbe : (x.toList == y.toList) = false := by rw [str_beq]; exact decide_eq_false hxy
          have hne : xs ≠ ys := fun e => hxy (HK.out.2.2 e)
          have HN := Lib.hid hne
          clear hxy hne
          go_wp2_with fail
          go_quiet (fail)
          go_wp2
          go_ret
          exact ⟨ret_boolE (decide_eq_false HN.out).symm, below_drewN (below_drewN (Below.refl _ _) _) _⟩
      · obtain rfl : k = xs.length := by omega
        have e : xs = ys := by
          have h := HT.out
          rw [List.take_length] at h
          rw [h, List.take_of_length_le (by have := HL.out; omega)]
        have HE := Lib.hid e
        clear e
        go_wp2
        go_ret
        exact ⟨ret_boolE (decide_eq_true HE.out).symm, below_drewN (Below.refl _ _) _⟩
  · have hb1 : ((xs.length : Int) != (ys.length : Int)) = true := by simp; omega
    have HN : Hid (xs ≠ ys) := Lib.hid (fun e => hl (by rw [e]))
    clear hl
    go_enter Tryz.func20, Tryz.ntmps20
    go_wp2
    go_ret
    exact ⟨ret_boolE (decide_eq_false HN.out).symm, Below.refl _ _⟩

end Go.Proofs.YtaimldndooijdaaGreatDoor
