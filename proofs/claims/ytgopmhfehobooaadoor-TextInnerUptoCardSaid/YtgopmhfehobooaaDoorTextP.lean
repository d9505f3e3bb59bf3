/-
  Plain laws of words: the runs of word runes of a text. No program in sight.
-/
import Derived.Test.YtgopmhfehobooaaDoorUtfP
namespace Go.Proofs.YtgopmhfehobooaaDoor
open Go.Lib

/-- A rune of words. -/
def wordN (r : Nat) : Bool := decide ((48 ≤ r ∧ r ≤ 57) ∨ (97 ≤ r ∧ r ≤ 122) ∨ (65 ≤ r ∧ r ≤ 90) ∨ r = 95 ∨ (192 ≤ r ∧ r ≠ 215 ∧ r ≠ 247 ∧ ¬ (8192 ≤ r ∧ r ≤ 8303) ∧ ¬ (12288 ≤ r ∧ r ≤ 12351) ∧ r ≠ 65533 ∧ ¬ (55296 ≤ r ∧ r ≤ 57343) ∧ r ≤ 1114111))

/-- The runs of a row of runes: the place of each in the row, and its runes. -/
def segs : Nat → List Nat → List (Nat × List Nat)
  | _, [] => []
  | k, r :: t =>
    if wordN r then
      match segs (k + 1) t with
      | (j, run) :: rest => if j = k + 1 then (k, r :: run) :: rest else (k, [r]) :: (j, run) :: rest
      | [] => [(k, [r])]
    else segs (k + 1) t
/-- A run's word. -/
def wordOf (run : List Nat) : List UInt8 := enc ((run.take 32).map smallN)
def words (l : List UInt8) : List (List UInt8) := (segs 0 (runes l)).map fun x => wordOf x.2
def innerR (n : Nat) (x : Nat × List Nat) : Bool := decide (0 < x.1 ∧ x.1 + x.2.length < n)
def inners (l : List UInt8) : List (List UInt8) := ((segs 0 (runes l)).filter (innerR (runes l).length)).map fun x => wordOf x.2


theorem segs_nil (k : Nat) : segs k [] = [] := rfl
theorem segs_skip {r : Nat} (h : wordN r = false) (k : Nat) (t : List Nat) : segs k (r :: t) = segs (k + 1) t := by
  simp [segs, h]
theorem segs_ge : ∀ (l : List Nat) (k : Nat), ∀ x ∈ segs k l, k ≤ x.1
  | [], _, x, h => by cases h
  | r :: t, k, x, h => by
    have ih := segs_ge t (k + 1)
    by_cases hw : wordN r = true
    · simp only [segs, hw, if_true] at h
      cases hs : segs (k + 1) t with
      | nil => rw [hs] at h; simp at h; subst h; exact Nat.le_refl _
      | cons y rest =>
        rw [hs] at h ih
        obtain ⟨j, run⟩ := y
        simp only at h
        split at h
        · rcases List.mem_cons.1 h with h | h
          · subst h; exact Nat.le_refl _
          · have := ih x (by simp [h]); omega
        · rcases List.mem_cons.1 h with h | h
          · subst h; exact Nat.le_refl _
          · have := ih x (by simpa using h); omega
    · have hw' : wordN r = false := by simpa using hw
      rw [segs_skip hw'] at h
      have := ih x h; omega
/-- Where the row behind a run begins with no word rune, or is at its end. -/
def stops (l : List Nat) : Prop := l = [] ∨ ∃ r t, l = r :: t ∧ wordN r = false
theorem segs_stops {l : List Nat} (h : stops l) (k : Nat) : ∀ x ∈ segs k l, k < x.1 := by
  intro x hx
  rcases h with rfl | ⟨r, t, rfl, hr⟩
  · cases hx
  · rw [segs_skip hr] at hx
    exact segs_ge t (k + 1) x hx
/-- A run in front. -/
theorem segs_run : ∀ (run : List Nat) (rest : List Nat) (k : Nat), run ≠ [] → (∀ r ∈ run, wordN r = true) → stops rest → segs k (run ++ rest) = (k, run) :: segs (k + run.length) rest
  | [], _, _, h, _, _ => absurd rfl h
  | [r], rest, k, _, hw, hs => by
    have hr := hw r (by simp)
    have hst := segs_stops hs (k + 1)
    rw [List.cons_append, List.nil_append]
    simp only [segs, hr, if_true, List.length_cons, List.length_nil]
    cases e : segs (k + 1) rest with
    | nil => simp
    | cons y ys =>
      rw [e] at hst
      obtain ⟨j, ru⟩ := y
      have hj : k + 1 < j := hst (j, ru) (by simp)
      simp only
      rw [if_neg (by omega)]
  | r :: r2 :: run, rest, k, _, hw, hs => by
    have hr := hw r (by simp)
    have ih := segs_run (r2 :: run) rest (k + 1) (by simp) (fun x hx => hw x (by simp at hx ⊢; exact .inr hx)) hs
    rw [List.cons_append]
    show (if wordN r = true then _ else _) = _
    rw [if_pos hr, ih]
    simp only [if_true, List.length_cons]
    have : k + 1 + (run.length + 1) = k + (run.length + 1 + 1) := by omega
    rw [this]

/-- The runes in front that make words, and what is behind them. -/
theorem take_run (l : List Nat) : ∃ run rest, l = run ++ rest ∧ (∀ r ∈ run, wordN r = true) ∧ stops rest := by
  induction l with
  | nil => exact ⟨[], [], rfl, (fun _ h => by cases h), .inl rfl⟩
  | cons r t ih =>
    by_cases hr : wordN r = true
    · obtain ⟨run, rest, rfl, h1, h2⟩ := ih
      exact ⟨r :: run, rest, rfl, (fun x hx => by rcases List.mem_cons.1 hx with h | h; exact h ▸ hr; exact h1 x h), h2⟩
    · exact ⟨[], r :: t, rfl, (fun _ h => by cases h), .inr ⟨r, t, rfl, by simpa using hr⟩⟩

/-- An induction over runs. -/
theorem segs_shift : ∀ (l : List Nat) (k d : Nat), segs (k + d) l = (segs k l).map fun x => (x.1 + d, x.2)
  | [], _, _ => rfl
  | r :: t, k, d => by
    have ih := segs_shift t (k + 1) d
    have e : k + d + 1 = k + 1 + d := by omega
    by_cases hw : wordN r = true
    · simp only [segs, hw, if_true]
      rw [e, ih]
      cases hs : segs (k + 1) t with
      | nil => simp
      | cons y ys =>
        obtain ⟨j, run⟩ := y
        simp only [List.map_cons]
        by_cases hj : j = k + 1
        · subst hj; simp
        · rw [if_neg hj, if_neg (by omega)]
          simp
    · have hw' : wordN r = false := by simpa using hw
      rw [segs_skip hw', segs_skip hw', e, ih]

end Go.Proofs.YtgopmhfehobooaaDoor
