/-
  Plain laws of runs: a rune more at the end. No program in sight.
-/
import Derived.Test.YtgopmhfehobooaaDoorTextR
namespace Go.Proofs.YtgopmhfehobooaaDoor

theorem segs_app (a b : List Nat) (hb : stops b) : ∀ k, segs k (a ++ b) = segs k a ++ segs (k + a.length) b := by
  refine runs_rec (P := fun a => ∀ k, segs k (a ++ b) = segs k a ++ segs (k + a.length) b) ?_ ?_ ?_ a
  · intro k; rfl
  · intro r t hr ih k
    rw [List.cons_append, segs_skip hr, segs_skip hr, ih, List.length_cons, show k + 1 + t.length = k + (t.length + 1) from by omega]
  · intro run rest hne hw hs ih k
    rw [List.append_assoc, segs_run run (rest ++ b) k hne hw (stops_app hs hb), segs_run run rest k hne hw hs, ih, List.cons_append, List.length_append,
      show k + run.length + rest.length = k + (run.length + rest.length) from by omega]

/-- Does a row end with a word rune? -/
def endsW (l : List Nat) : Bool := match l.getLast? with | some r => wordN r | none => false

theorem segs_snoc_no (l : List Nat) (r : Nat) (h : wordN r = false) (k : Nat) : segs k (l ++ [r]) = segs k l := by
  rw [segs_app l [r] (.inr ⟨r, [], rfl, h⟩), segs_skip h, segs_nil, List.append_nil]

/-- A row is what stands ahead of its last run of word runes, and that run. -/
theorem last_run (l : List Nat) : ∃ init run, l = init ++ run ∧ (∀ r ∈ run, wordN r = true) ∧ endsW init = false := by
  have : ∀ n (l : List Nat), l.length = n → ∃ init run, l = init ++ run ∧ (∀ r ∈ run, wordN r = true) ∧ endsW init = false := by
    intro n
    induction n with
    | zero =>
      intro l hl
      have : l = [] := List.eq_nil_of_length_eq_zero hl
      subst this
      exact ⟨[], [], rfl, (fun _ h => by cases h), rfl⟩
    | succ n ih =>
      intro l hl
      have hne : l ≠ [] := by intro e; subst e; cases hl
      have hd := List.dropLast_concat_getLast hne
      by_cases hw : wordN (l.getLast hne) = true
      · obtain ⟨init, run, e, h1, h2⟩ := ih l.dropLast (by rw [List.length_dropLast]; omega)
        refine ⟨init, run ++ [l.getLast hne], by rw [← List.append_assoc, ← e, hd], fun r hr => ?_, h2⟩
        rcases List.mem_append.1 hr with h | h
        · exact h1 r h
        · simp at h; subst h; exact hw
      · refine ⟨l, [], by simp, (fun _ h => by cases h), ?_⟩
        unfold endsW
        rw [List.getLast?_eq_some_getLast hne]
        simpa using hw
  exact this _ l rfl

theorem endsW_run (init run : List Nat) (h : run ≠ []) (hw : ∀ r ∈ run, wordN r = true) : endsW (init ++ run) = true := by
  unfold endsW
  rw [List.getLast?_append, List.getLast?_eq_some_getLast h, Option.some_or]
  exact hw _ (List.getLast_mem h)
/-- What stands ahead of a run that is the last: its runs stay as they are. -/
theorem segs_init (init run : List Nat) (he : endsW init = false) (hw : ∀ r ∈ run, wordN r = true) (h : run ≠ []) (k : Nat) : segs k (init ++ run) = segs k init ++ [(k + init.length, run)] := by
  have hl : ∀ l : List Nat, endsW l = false → ∀ k, segs k (l ++ run) = segs k l ++ [(k + l.length, run)] := by
    intro l
    refine runs_rec (P := fun l => endsW l = false → ∀ k, segs k (l ++ run) = segs k l ++ [(k + l.length, run)]) ?_ ?_ ?_ l
    · intro _ k
      have := segs_run run [] k h hw (.inl rfl)
      rw [List.append_nil] at this
      rw [List.nil_append, this]; rfl
    · intro r t hr ih he k
      have he' : endsW t = false := by
        cases t with
        | nil => rfl
        | cons a t => simpa [endsW] using he
      rw [List.cons_append, segs_skip hr, segs_skip hr, ih he', List.length_cons, show k + 1 + t.length = k + (t.length + 1) from by omega]
    · intro ru rest hne hw2 hs ih he k
      have hr : rest ≠ [] := by
        intro e
        subst e
        have := endsW_run [] ru hne hw2
        rw [List.nil_append] at this
        rw [List.append_nil] at he
        rw [he] at this; cases this
      have he' : endsW rest = false := by
        unfold endsW at he ⊢
        rw [List.getLast?_append, List.getLast?_eq_some_getLast hr, Option.some_or] at he
        rw [List.getLast?_eq_some_getLast hr]
        exact he
      rw [List.append_assoc, segs_run ru (rest ++ run) k hne hw2 (stops_app' hs hr), segs_run ru rest k hne hw2 hs, ih he', List.cons_append, List.length_append,
        show k + ru.length + rest.length = k + (ru.length + rest.length) from by omega]
  exact hl init he k
end Go.Proofs.YtgopmhfehobooaaDoor
