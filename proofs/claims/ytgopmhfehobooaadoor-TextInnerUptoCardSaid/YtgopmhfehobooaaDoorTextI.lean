/-
  Plain laws of inner words. No program in sight.
-/
import Derived.Test.YtgopmhfehobooaaDoorTextJ
import Derived.Test.YtgopmhfehobooaaDoorTextT
namespace Go.Proofs.YtgopmhfehobooaaDoor
open Go.Lib

theorem endsW_cons (r : Nat) (X : List Nat) (hr : wordN r = false) (h : endsW X = false) : endsW (r :: X) = false := by
  cases X with
  | nil => simpa [endsW] using hr
  | cons a X => simpa [endsW] using h
theorem endsW_app (A X : List Nat) (hX : X ≠ []) : endsW (A ++ X) = endsW X := by
  unfold endsW
  rw [List.getLast?_append, List.getLast?_eq_some_getLast hX, Option.some_or]
/-- Where each run stands. -/
theorem segs_parts (P : List Nat) : ∀ k, ∀ x ∈ segs k P, ∃ X Y, P = X ++ x.2 ++ Y ∧ k + X.length = x.1 ∧ endsW X = false ∧ stops Y ∧ x.2 ≠ [] ∧ ∀ r ∈ x.2, wordN r = true := by
  refine runs_rec (P := fun P => ∀ k, ∀ x ∈ segs k P, ∃ X Y, P = X ++ x.2 ++ Y ∧ k + X.length = x.1 ∧ endsW X = false ∧ stops Y ∧ x.2 ≠ [] ∧ ∀ r ∈ x.2, wordN r = true) ?_ ?_ ?_ P
  · intro k x h; cases h
  · intro r t hr ih k x hx
    rw [segs_skip hr] at hx
    obtain ⟨X, Y, e, h1, h2, h3, h4, h5⟩ := ih (k + 1) x hx
    exact ⟨r :: X, Y, by rw [e]; simp, by simp only [List.length_cons]; omega, endsW_cons r X hr h2, h3, h4, h5⟩
  · intro run rest hne hw hs ih k x hx
    rw [segs_run run rest k hne hw hs] at hx
    rcases List.mem_cons.1 hx with rfl | hx
    · exact ⟨[], rest, by simp, by simp, rfl, hs, hne, hw⟩
    · obtain ⟨X, Y, e, h1, h2, h3, h4, h5⟩ := ih (k + run.length) x hx
      have hX : X ≠ [] := by
        intro e0
        subst e0
        rcases hs with h | ⟨r, t, h, hr⟩
        · rw [h] at e
          simp at e
          exact h4 e.1
        · rw [h] at e
          cases hx2 : x.2 with
          | nil => exact h4 hx2
          | cons a l =>
            rw [hx2] at e h5
            simp at e
            have := h5 a (by simp)
            rw [← e.1, hr] at this
            cases this
      exact ⟨run ++ X, Y, by rw [e]; simp, by rw [List.length_append]; omega, by rw [endsW_app _ _ hX]; exact h2, h3, h4, h5⟩
theorem run_mid (X run Y : List Nat) (hX : endsW X = false) (hr : run ≠ []) (hw : ∀ r ∈ run, wordN r = true) (hY : stops Y) : run ∈ runsOf (X ++ run ++ Y) := by
  unfold runsOf
  rw [segs_app _ _ hY, segs_init X run hX hw hr, List.map_append, List.map_append]
  simp
theorem inners_words (l : List UInt8) : ∀ w ∈ inners l, w ∈ words l := by
  intro w h
  obtain ⟨x, hx, rfl⟩ := List.mem_map.1 h
  exact List.mem_map.2 ⟨x, (List.mem_filter.1 hx).1, rfl⟩
/-- The inner words of a row that stands in a row are its words. -/
theorem inner_in (A P B : List Nat) : ∀ x ∈ (segs 0 P).filter (innerR P.length), x.2 ∈ runsOf (A ++ P ++ B) := by
  intro x hx
  obtain ⟨h1, h2⟩ := List.mem_filter.1 hx
  obtain ⟨X, Y, e, hk, hX, hY, hne, hw⟩ := segs_parts P 0 x h1
  have hin : 0 < x.1 ∧ x.1 + x.2.length < P.length := of_decide_eq_true h2
  have hl := congrArg List.length e
  simp only [List.length_append] at hl
  have hX0 : X ≠ [] := by intro e0; subst e0; simp at hk; omega
  have hY0 : Y ≠ [] := by intro e0; subst e0; simp at hl; omega
  have := run_mid (A ++ X) x.2 (Y ++ B) (by rw [endsW_app _ _ hX0]; exact hX) hne hw (stops_app' hY hY0)
  rw [e]
  simpa using this
/-- The inner words of a valid part of a valid line are words of the line. -/
theorem inners_part (l : List UInt8) (K M : Nat) (hl : validD l = true) (hKM : K + M ≤ l.length) (hp : validD ((l.drop K).take M) = true) : ∀ w ∈ inners ((l.drop K).take M), w ∈ words l := by
  intro w hw
  obtain ⟨p, hpe⟩ : ∃ p, (l.drop K).take M = p := ⟨_, rfl⟩
  rw [hpe] at hp hw
  cases p with
  | nil => cases hw
  | cons b t =>
    have hb : contB b = false := by
      cases h : contB b with
      | false => rfl
      | true => rw [valid_cont b t h] at hp; cases hp
    have hM : 0 < M := by
      rcases Nat.eq_zero_or_pos M with h | h
      · subst h; simp at hpe
      · exact h
    have hg : l.getD K 0 = b := by
      have h0 : ((l.drop K).take M)[0]? = some b := by rw [hpe]; rfl
      rw [List.getElem?_take_of_lt hM, List.getElem?_drop, Nat.add_zero] at h0
      rw [List.getD_eq_getElem?_getD, h0]
      rfl
    have hva : validD (l.take K) = true := by
      rw [(valid_cut l hl K (by omega)).1, hg, hb]
      simp
    have e : l = l.take K ++ ((b :: t) ++ l.drop (K + M)) := by
      rw [← hpe, ← List.drop_drop, List.take_append_drop, List.take_append_drop]
    have hr : runes l = runes (l.take K) ++ (runes (b :: t) ++ runes (l.drop (K + M))) := by
      conv => lhs; rw [e]
      rw [runes_append _ _ hva, runes_append _ _ hp]
    obtain ⟨x, hx, rfl⟩ := List.mem_map.1 hw
    rw [words_runs, hr, ← List.append_assoc]
    exact List.mem_map_of_mem (inner_in _ _ _ x hx)
/-- With a mark on both sides all words are inner ones. -/
theorem inners_marks (p : List UInt8) : inners (32 :: (p ++ [45])) = words p := by
  have h32 : wordN 32 = false := by decide
  have h45 : wordN 45 = false := by decide
  have hr : runes (32 :: (p ++ [45])) = 32 :: (runes p ++ [45]) := by
    have h1 := runes_ascii [32] (by intro b hb; simp at hb; subst hb; decide) (p ++ [45])
    have h2 := runes_app_low p [] 45 (by decide)
    rw [h2] at h1
    simpa [runes_nil] using h1
  unfold inners
  rw [hr, segs_skip h32, segs_snoc_no _ _ h45, words_runs]
  have hf : (segs 1 (runes p)).filter (innerR (32 :: (runes p ++ [45])).length) = segs 1 (runes p) := by
    refine List.filter_eq_self.2 fun x hx => ?_
    obtain ⟨X, Y, e, hk, _, _, _, _⟩ := segs_parts _ 1 x hx
    have hl := congrArg List.length e
    simp only [List.length_append] at hl
    unfold innerR
    refine decide_eq_true ⟨by omega, ?_⟩
    simp only [List.length_cons, List.length_append, List.length_nil]
    omega
  rw [show (0 : Nat) + 1 = 1 from rfl, hf, ← runsOf_any (runes p) 1, List.map_map]
  rfl
end Go.Proofs.YtgopmhfehobooaaDoor
