/-
  Plain laws of words: runs of joined rows, of folded rows; a word's own words. No program in sight.
-/
import Derived.Test.YtgopmhfehobooaaDoorTextQ
namespace Go.Proofs.YtgopmhfehobooaaDoor
open Go.Lib

def runsOf (l : List Nat) : List (List Nat) := (segs 0 l).map (·.2)
theorem runsOf_any (l : List Nat) (k : Nat) : (segs k l).map (·.2) = runsOf l := by
  have := segs_shift l 0 k
  rw [Nat.zero_add] at this
  rw [this, List.map_map]
  rfl
theorem runsOf_nil : runsOf [] = [] := rfl
theorem runsOf_skip {r : Nat} (h : wordN r = false) (t : List Nat) : runsOf (r :: t) = runsOf t := by
  unfold runsOf
  rw [segs_skip h]
  exact runsOf_any t 1
theorem runsOf_run (run rest : List Nat) (h : run ≠ []) (hw : ∀ r ∈ run, wordN r = true) (hs : stops rest) : runsOf (run ++ rest) = run :: runsOf rest := by
  have := segs_run run rest 0 h hw hs
  unfold runsOf
  rw [this, List.map_cons]
  exact congrArg (run :: ·) (runsOf_any rest _)
theorem stops_app {a b : List Nat} (ha : stops a) (hb : stops b) : stops (a ++ b) := by
  rcases ha with rfl | ⟨r, t, rfl, hr⟩
  · exact hb
  · exact .inr ⟨r, t ++ b, rfl, hr⟩
theorem stops_app' {a b : List Nat} (ha : stops a) (hne : a ≠ []) : stops (a ++ b) := by
  rcases ha with rfl | ⟨r, t, rfl, hr⟩
  · exact absurd rfl hne
  · exact .inr ⟨r, t ++ b, rfl, hr⟩

/-- An induction over the runs of a row. -/
theorem runs_rec {P : List Nat → Prop} (h0 : P []) (h1 : ∀ r t, wordN r = false → P t → P (r :: t))
    (h2 : ∀ run rest, run ≠ [] → (∀ r ∈ run, wordN r = true) → stops rest → P rest → P (run ++ rest)) : ∀ l, P l := by
  have : ∀ n (l : List Nat), l.length ≤ n → P l := by
    intro n
    induction n with
    | zero => intro l hl; have : l = [] := List.eq_nil_of_length_eq_zero (by omega); subst this; exact h0
    | succ n ih =>
      intro l hl
      obtain ⟨run, rest, rfl, ha, hs⟩ := take_run l
      by_cases hr : run = []
      · subst hr
        rw [List.nil_append] at hl ⊢
        rcases hs with rfl | ⟨r, t, rfl, hw⟩
        · exact h0
        · exact h1 r t hw (ih t (by simp at hl; omega))
      · refine h2 run rest hr ha hs (ih rest ?_)
        have : 0 < run.length := List.length_pos_iff.2 hr
        rw [List.length_append] at hl
        omega
  exact fun l => this l.length l (Nat.le_refl _)

theorem runsOf_app (a b : List Nat) (hb : stops b) : runsOf (a ++ b) = runsOf a ++ runsOf b := by
  refine runs_rec (P := fun a => runsOf (a ++ b) = runsOf a ++ runsOf b) rfl ?_ ?_ a
  · intro r t hr ih
    rw [List.cons_append, runsOf_skip hr, runsOf_skip hr, ih]
  · intro run rest hne hw hs ih
    rw [List.append_assoc, runsOf_run run (rest ++ b) hne hw (stops_app hs hb), runsOf_run run rest hne hw hs, ih, List.cons_append]
/-- Every run is of word runes, and holds one at least. -/
theorem runsOf_word (l : List Nat) : ∀ run ∈ runsOf l, run ≠ [] ∧ (∀ r ∈ run, wordN r = true) ∧ ∀ r ∈ run, r ∈ l := by
  refine runs_rec (P := fun l => ∀ run ∈ runsOf l, run ≠ [] ∧ (∀ r ∈ run, wordN r = true) ∧ ∀ r ∈ run, r ∈ l) ?_ ?_ ?_ l
  · intro run h; cases h
  · intro r t hr ih run h
    rw [runsOf_skip hr] at h
    obtain ⟨a, b, c⟩ := ih run h
    exact ⟨a, b, fun x hx => by simp [c x hx]⟩
  · intro run rest hne hw hs ih u h
    rw [runsOf_run run rest hne hw hs] at h
    rcases List.mem_cons.1 h with rfl | h
    · exact ⟨hne, hw, fun x hx => by simp [hx]⟩
    · obtain ⟨a, b, c⟩ := ih u h
      exact ⟨a, b, fun x hx => by simp [c x hx]⟩
theorem wordN_small (r : Nat) : wordN (smallN r) = wordN r := by
  refine decide_eq_decide.2 ?_
  unfold smallN
  repeat' split
  all_goals omega
theorem runsOf_small (l : List Nat) : runsOf (l.map smallN) = (runsOf l).map (List.map smallN) := by
  refine runs_rec (P := fun l => runsOf (l.map smallN) = (runsOf l).map (List.map smallN)) rfl ?_ ?_ l
  · intro r t hr ih
    rw [List.map_cons, runsOf_skip (by rw [wordN_small]; exact hr), runsOf_skip hr, ih]
  · intro run rest hne hw hs ih
    rw [List.map_append, runsOf_run (run.map smallN) (rest.map smallN) (by simpa using hne) (fun x hx => by
      obtain ⟨y, hy, rfl⟩ := List.mem_map.1 hx
      rw [wordN_small]; exact hw y hy) (by
      rcases hs with rfl | ⟨r, t, rfl, hr⟩
      · exact .inl rfl
      · exact .inr ⟨smallN r, t.map smallN, rfl, by rw [wordN_small]; exact hr⟩), runsOf_run run rest hne hw hs, ih, List.map_cons]
theorem wordOf_small (run : List Nat) : wordOf (run.map smallN) = wordOf run := by
  unfold wordOf
  rw [← List.map_take, List.map_map]
  have : smallN ∘ smallN = smallN := funext smallN_small
  rw [this]
theorem words_runs (l : List UInt8) : words l = (runsOf (runes l)).map wordOf := by
  unfold words runsOf
  rw [List.map_map]; rfl
/-- Words don't change with a text's case. -/
theorem words_fold (l : List UInt8) : words (fold l) = words l := by
  rw [words_runs, runes_fold, runsOf_small, List.map_map, words_runs]
  apply List.map_congr_left
  intro run _
  exact wordOf_small run
/-- A row of word runes is one run. -/
theorem runsOf_one (run : List Nat) (h : run ≠ []) (hw : ∀ r ∈ run, wordN r = true) : runsOf run = [run] := by
  have := runsOf_run run [] h hw (.inl rfl)
  rwa [List.append_nil, runsOf_nil] at this
theorem word_runes (run : List Nat) (hs : scalars run) : runes (wordOf run) = (run.take 32).map smallN := by
  unfold wordOf
  exact runes_enc _ (scalars_small (fun r hr => hs r (List.mem_of_mem_take hr)))
/-- A word is a word by itself, of 1 to 32 runes. -/
theorem words_word (run : List Nat) (h : run ≠ []) (hw : ∀ r ∈ run, wordN r = true) (hs : scalars run) :
    words (wordOf run) = [wordOf run] ∧ 1 ≤ (runes (wordOf run)).length ∧ (runes (wordOf run)).length ≤ 32 := by
  have hr := word_runes run hs
  have hl : 0 < run.length := List.length_pos_iff.2 h
  refine ⟨?_, by rw [hr, List.length_map, List.length_take]; omega, by rw [hr, List.length_map, List.length_take]; omega⟩
  rw [words_runs, hr, runsOf_small, runsOf_one (run.take 32) (by intro e; have := congrArg List.length e; rw [List.length_take, List.length_nil] at this; omega) (fun r hr => hw r (List.mem_of_mem_take hr))]
  simp only [List.map_cons, List.map_nil]
  rw [wordOf_small]
  unfold wordOf
  rw [List.take_take, Nat.min_self]
theorem words_each (l : List UInt8) : ∀ w ∈ words l, words w = [w] ∧ 1 ≤ (runes w).length ∧ (runes w).length ≤ 32 := by
  intro w hw
  rw [words_runs] at hw
  obtain ⟨run, hr, rfl⟩ := List.mem_map.1 hw
  obtain ⟨a, b, c⟩ := runsOf_word _ run hr
  exact words_word run a b (fun r hr => runes_scalars l r (c r hr))
end Go.Proofs.YtgopmhfehobooaaDoor
