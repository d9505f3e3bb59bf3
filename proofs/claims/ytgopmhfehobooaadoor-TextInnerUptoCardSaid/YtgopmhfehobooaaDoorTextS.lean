/-
  Plain laws of words: texts with a mark between them. No program in sight.
-/
import Derived.Test.YtgopmhfehobooaaDoorTextR
namespace Go.Proofs.YtgopmhfehobooaaDoor
open Go.Lib

theorem decodeN_congr (n n' b0 b1 b1' b2 b2' b3 b3' : Nat)
    (h1 : (1 < n ∧ b1 / 64 = 2) ↔ (1 < n' ∧ b1' / 64 = 2)) (e1 : 1 < n ∧ b1 / 64 = 2 → b1 = b1')
    (h2 : (1 < n ∧ b1 / 64 = 2) → ((2 < n ∧ b2 / 64 = 2) ↔ (2 < n' ∧ b2' / 64 = 2))) (e2 : (1 < n ∧ b1 / 64 = 2) → 2 < n ∧ b2 / 64 = 2 → b2 = b2')
    (h3 : (1 < n ∧ b1 / 64 = 2) → (2 < n ∧ b2 / 64 = 2) → ((3 < n ∧ b3 / 64 = 2) ↔ (3 < n' ∧ b3' / 64 = 2))) (e3 : (1 < n ∧ b1 / 64 = 2) → (2 < n ∧ b2 / 64 = 2) → 3 < n ∧ b3 / 64 = 2 → b3 = b3') :
    decodeN n b0 b1 b2 b3 = decodeN n' b0 b1' b2' b3' := by
  unfold decodeN
  by_cases c1 : 1 < n ∧ b1 / 64 = 2
  · have c1' := h1.1 c1
    have := e1 c1
    subst this
    by_cases c2 : 2 < n ∧ b2 / 64 = 2
    · have c2' := (h2 c1).1 c2
      have := e2 c1 c2
      subst this
      by_cases c3 : 3 < n ∧ b3 / 64 = 2
      · have c3' := (h3 c1 c2).1 c3
        have := e3 c1 c2 c3
        subst this
        simp only [c1, c1', c2, c2', c3, c3', and_true]
      · have c3' : ¬ (3 < n' ∧ b3' / 64 = 2) := fun h => c3 ((h3 c1 c2).2 h)
        simp only [c1, c1', c2, c2', c3, c3', and_true, and_false, if_false]
    · have c2' : ¬ (2 < n' ∧ b2' / 64 = 2) := fun h => c2 ((h2 c1).2 h)
      simp only [c1, c1', c2, c2', and_true, and_false, false_and, if_false]
  · have c1' : ¬ (1 < n' ∧ b1' / 64 = 2) := fun h => c1 (h1.2 h)
    simp only [c1, c1', and_false, false_and, if_false]
theorem decode_app_low (s t : List UInt8) (b : UInt8) (hs : s ≠ []) (hb : b.toNat < 128) : decodeL (s ++ b :: t) = decodeL s := by
  rw [decodeL_N, decodeL_N]
  rcases s with _ | ⟨a, _ | ⟨c, _ | ⟨d, _ | ⟨e, r⟩⟩⟩⟩
  · exact absurd rfl hs
  all_goals
    simp only [List.cons_append, List.nil_append, List.getD_cons_zero, List.getD_cons_succ, List.length_cons, List.length_nil, List.length_append]
    apply decodeN_congr
    all_goals (intros; omega)
/-- A byte below 128 parts a text, valid or not. -/
theorem runes_app_low (s t : List UInt8) (b : UInt8) (hb : b.toNat < 128) : runes (s ++ b :: t) = runes s ++ b.toNat :: runes t := by
  refine runes_ind (P := fun s => runes (s ++ b :: t) = runes s ++ b.toNat :: runes t) ?_ ?_ s
  · have := runes_ascii [b] (by intro x hx; simp at hx; subst hx; exact hb) t
    simpa [runes_nil] using this
  · intro s hne ih
    have hw := decodeL_le s hne
    rw [runes_step _ (by simp), runes_step s hne, decode_app_low s t b hne hb, List.drop_append_of_le_length hw, ih, List.cons_append]
theorem words_app_low (s t : List UInt8) (b : UInt8) (hb : b.toNat < 128) (hw : wordN b.toNat = false) : words (s ++ b :: t) = words s ++ words t := by
  rw [words_runs, runes_app_low s t b hb, runsOf_app _ _ (.inr ⟨_, _, rfl, hw⟩), runsOf_skip hw, List.map_append, ← words_runs, ← words_runs]
/-- A valid mark of no word runes between two texts, the first of them valid. -/
theorem words_app_mark (s t : List UInt8) (mk : List Nat) (hs : validD s = true) (hm : scalars mk) (hne : mk ≠ []) (hw : ∀ r ∈ mk, wordN r = false) : words (s ++ enc mk ++ t) = words s ++ words t := by
  have hr : runes (s ++ enc mk ++ t) = runes s ++ (mk ++ runes t) := by
    rw [List.append_assoc, runes_append s _ hs, runes_enc_append mk hm]
  have hst : stops (mk ++ runes t) := by
    cases mk with
    | nil => exact absurd rfl hne
    | cons r m => exact .inr ⟨r, m ++ runes t, rfl, hw r (by simp)⟩
  have hsk : ∀ m : List Nat, (∀ r ∈ m, wordN r = false) → runsOf (m ++ runes t) = runsOf (runes t) := by
    intro m
    induction m with
    | nil => intro _; rfl
    | cons r m ih => intro h; rw [List.cons_append, runsOf_skip (h r (by simp)), ih (fun x hx => h x (by simp [hx]))]
  rw [words_runs, hr, runsOf_app _ _ hst, hsk mk hw, List.map_append, ← words_runs, ← words_runs]
end Go.Proofs.YtgopmhfehobooaaDoor
