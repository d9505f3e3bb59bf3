/-
  Plain laws of words that are laid together with a mark between them. No program in sight.
-/
import Derived.Test.YtgopmhfehobooaaDoorTextS
import Derived.Test.YtgopmhfehobooaaDoorTextV
namespace Go.Proofs.YtgopmhfehobooaaDoor
open Go.Lib

/-- Rows with a mark between them. -/
def joinR {α : Type} (mk : List α) : List (List α) → List α
  | [] => []
  | [r] => r
  | r :: r2 :: t => r ++ mk ++ joinR mk (r2 :: t)
theorem joinR_cons {α : Type} (mk : List α) (r : List α) (t : List (List α)) (h : t ≠ []) : joinR mk (r :: t) = r ++ mk ++ joinR mk t := by
  cases t with
  | nil => exact absurd rfl h
  | cons a t => rfl
theorem joinR_snoc {α : Type} (mk : List α) : ∀ (L : List (List α)) (x : List α), joinR mk (L ++ [x]) = if L = [] then x else joinR mk L ++ mk ++ x
  | [], x => rfl
  | [r], x => by simp [joinR]
  | r :: r2 :: t, x => by
    have ih := joinR_snoc mk (r2 :: t) x
    rw [if_neg (by simp)] at ih ⊢
    rw [List.cons_append, joinR_cons mk r _ (by simp), ih, joinR_cons mk r _ (by simp)]
    simp
theorem joinR_enc (mk : List Nat) : ∀ Rs : List (List Nat), joinR (enc mk) (Rs.map enc) = enc (joinR mk Rs)
  | [] => rfl
  | [r] => rfl
  | r :: r2 :: t => by
    have ih := joinR_enc mk (r2 :: t)
    rw [List.map_cons, joinR_cons _ _ _ (by simp), ih, joinR_cons mk r _ (by simp), enc_append, enc_append]
theorem joinR_scalars (mk : List Nat) (hm : scalars mk) : ∀ Rs : List (List Nat), (∀ r ∈ Rs, scalars r) → scalars (joinR mk Rs)
  | [], _ => scalars_nil
  | [r], h => h r (by simp)
  | r :: r2 :: t, h => by
    rw [joinR_cons mk r _ (by simp), scalars_append, scalars_append]
    exact ⟨⟨h r (by simp), hm⟩, joinR_scalars mk hm (r2 :: t) (fun x hx => h x (by simp at hx ⊢; exact .inr hx))⟩
theorem segs_skips (mk : List Nat) : ∀ (k : Nat) (t : List Nat), (∀ r ∈ mk, wordN r = false) → segs k (mk ++ t) = segs (k + mk.length) t := by
  induction mk with
  | nil => intro k t _; rfl
  | cons r mk ih =>
    intro k t h
    rw [List.cons_append, segs_skip (h r (by simp)), ih _ _ (fun x hx => h x (by simp [hx])), List.length_cons, show k + 1 + mk.length = k + (mk.length + 1) from by omega]
/-- The runs of runs with a mark between them; which of them are inner ones. -/
theorem segs_join (mk : List Nat) (hne : mk ≠ []) (hw : ∀ r ∈ mk, wordN r = false) : ∀ (Rs : List (List Nat)) (k : Nat), (∀ r ∈ Rs, r ≠ [] ∧ ∀ x ∈ r, wordN x = true) →
    (segs k (joinR mk Rs)).map (·.2) = Rs ∧ (0 < k → ((segs k (joinR mk Rs)).filter (innerR (k + (joinR mk Rs).length))).map (·.2) = Rs.dropLast)
  | [], k, _ => ⟨rfl, fun _ => rfl⟩
  | [r], k, h => by
    have hr := h r (by simp)
    have e := segs_run r [] k hr.1 hr.2 (.inl rfl)
    rw [List.append_nil, segs_nil] at e
    refine ⟨by simp [joinR, e], fun hk => ?_⟩
    show ((segs k r).filter (innerR (k + r.length))).map (·.2) = _
    rw [e]
    simp [innerR]
  | r :: r2 :: t, k, h => by
    have hr := h r (by simp)
    have ih := segs_join mk hne hw (r2 :: t) (k + r.length + mk.length) (fun x hx => h x (by simp at hx ⊢; exact .inr hx))
    have hml : 0 < mk.length := List.length_pos_iff.2 hne
    have hrl : 0 < r.length := List.length_pos_iff.2 hr.1
    have hst : stops (mk ++ joinR mk (r2 :: t)) := by
      cases mk with
      | nil => exact absurd rfl hne
      | cons m mk => exact .inr ⟨m, _, rfl, hw m (by simp)⟩
    have e : segs k (joinR mk (r :: r2 :: t)) = (k, r) :: segs (k + r.length + mk.length) (joinR mk (r2 :: t)) := by
      rw [joinR_cons mk r _ (by simp), List.append_assoc, segs_run r _ k hr.1 hr.2 hst, segs_skips mk _ _ hw]
    refine ⟨by rw [e, List.map_cons, ih.1], fun hk => ?_⟩
    have hl : k + (joinR mk (r :: r2 :: t)).length = k + r.length + mk.length + (joinR mk (r2 :: t)).length := by
      rw [joinR_cons mk r _ (by simp)]
      simp only [List.length_append]
      omega
    have hin : innerR (k + r.length + mk.length + (joinR mk (r2 :: t)).length) (k, r) = true := by
      unfold innerR
      exact decide_eq_true ⟨hk, by simp only; omega⟩
    rw [e, hl, List.filter_cons_of_pos hin, List.map_cons, ih.2 (by omega)]
    rfl
theorem segs_join0 (mk : List Nat) (hne : mk ≠ []) (hw : ∀ r ∈ mk, wordN r = false) (Rs : List (List Nat)) (h : ∀ r ∈ Rs, r ≠ [] ∧ ∀ x ∈ r, wordN x = true) :
    ((segs 0 (joinR mk Rs)).filter (innerR (joinR mk Rs).length)).map (·.2) = Rs.tail.dropLast := by
  match Rs, h with
  | [], _ => rfl
  | [r], h =>
    have hr := h r (by simp)
    have e := segs_run r [] 0 hr.1 hr.2 (.inl rfl)
    rw [List.append_nil, segs_nil] at e
    show ((segs 0 r).filter (innerR r.length)).map (·.2) = _
    rw [e]
    simp [innerR]
  | r :: r2 :: t, h =>
    have hr := h r (by simp)
    have hml : 0 < mk.length := List.length_pos_iff.2 hne
    have ih := (segs_join mk hne hw (r2 :: t) (0 + r.length + mk.length) (fun x hx => h x (by simp at hx ⊢; exact .inr hx))).2 (by omega)
    have hst : stops (mk ++ joinR mk (r2 :: t)) := by
      cases mk with
      | nil => exact absurd rfl hne
      | cons m mk => exact .inr ⟨m, _, rfl, hw m (by simp)⟩
    have e : segs 0 (joinR mk (r :: r2 :: t)) = (0, r) :: segs (0 + r.length + mk.length) (joinR mk (r2 :: t)) := by
      rw [joinR_cons mk r _ (by simp), List.append_assoc, segs_run r _ 0 hr.1 hr.2 hst, segs_skips mk _ _ hw]
    have hl : (joinR mk (r :: r2 :: t)).length = 0 + r.length + mk.length + (joinR mk (r2 :: t)).length := by
      rw [joinR_cons mk r _ (by simp)]
      simp only [List.length_append]
      omega
    have hin : ¬ innerR (0 + r.length + mk.length + (joinR mk (r2 :: t)).length) (0, r) = true := by
      unfold innerR
      simp
    rw [e, hl, List.filter_cons_of_neg hin, ih]
    rfl

/-- The runs of a text's words. -/
def wordRuns (l : List UInt8) : List (List Nat) := (runsOf (runes l)).map fun run => (run.take 32).map smallN
theorem wordRuns_words (l : List UInt8) : (wordRuns l).map enc = words l := by
  unfold wordRuns
  rw [words_runs, List.map_map]
  rfl
theorem wordRuns_each (l : List UInt8) : ∀ r ∈ wordRuns l, (r ≠ [] ∧ ∀ x ∈ r, wordN x = true) ∧ scalars r ∧ wordOf r = enc r := by
  intro r hr
  obtain ⟨run, hm, rfl⟩ := List.mem_map.1 hr
  obtain ⟨a, b, c⟩ := runsOf_word _ run hm
  refine ⟨⟨?_, ?_⟩, ?_, ?_⟩
  · intro e
    have := congrArg List.length e
    rw [List.length_map, List.length_take, List.length_nil] at this
    have : 0 < run.length := List.length_pos_iff.2 a
    omega
  · intro x hx
    obtain ⟨y, hy, rfl⟩ := List.mem_map.1 hx
    rw [wordN_small]
    exact b y (List.mem_of_mem_take hy)
  · exact scalars_small (fun x hx => runes_scalars l x (c x (List.mem_of_mem_take hx)))
  · unfold wordOf
    rw [← List.map_take, List.take_take, Nat.min_self, List.map_map]
    congr 1
    apply List.map_congr_left
    intro x _
    exact smallN_small x
/-- Words that are laid together with a mark between them are the same words. -/
theorem words_join (l : List UInt8) (mk : List Nat) (hm : scalars mk) (hne : mk ≠ []) (hw : ∀ r ∈ mk, wordN r = false) : words (joinR (enc mk) (words l)) = words l := by
  rw [← wordRuns_words l, joinR_enc, words_runs, runes_enc _ (joinR_scalars mk hm _ (fun r hr => (wordRuns_each l r hr).2.1))]
  unfold runsOf
  rw [(segs_join mk hne hw (wordRuns l) 0 (fun r hr => (wordRuns_each l r hr).1)).1]
  apply List.map_congr_left
  intro r hr
  exact (wordRuns_each l r hr).2.2
/-- Each of them but the first and the last is an inner one. -/
theorem inners_join (l : List UInt8) (mk : List Nat) (hm : scalars mk) (hne : mk ≠ []) (hw : ∀ r ∈ mk, wordN r = false) : inners (joinR (enc mk) (words l)) = (words l).tail.dropLast := by
  have hs := segs_join0 mk hne hw (wordRuns l) (fun r hr => (wordRuns_each l r hr).1)
  rw [← wordRuns_words l, joinR_enc]
  unfold inners
  rw [runes_enc _ (joinR_scalars mk hm _ (fun r hr => (wordRuns_each l r hr).2.1))]
  have e : ∀ X : List (Nat × List Nat), X.map (fun x => wordOf x.2) = (X.map (·.2)).map wordOf := fun X => by rw [List.map_map]; rfl
  rw [e, hs, ← List.map_tail, ← List.map_dropLast]
  apply List.map_congr_left
  intro r hr
  exact (wordRuns_each l r (List.mem_of_mem_tail (List.dropLast_subset _ hr))).2.2
theorem words_small (l : List UInt8) : ∀ w ∈ words l, w.length ≤ 128 := by
  intro w hw
  rw [← wordRuns_words] at hw
  obtain ⟨r, hr, rfl⟩ := List.mem_map.1 hw
  obtain ⟨run, _, rfl⟩ := List.mem_map.1 hr
  have h := (enc_length ((run.take 32).map smallN)).2
  rw [List.length_map, List.length_take] at h
  omega
theorem joinR_len (mk : List UInt8) (m : Nat) : ∀ L : List (List UInt8), (∀ x ∈ L, x.length ≤ m) → (joinR mk L).length ≤ L.length * (m + mk.length)
  | [], _ => by simp [joinR]
  | [r], h => by
    have := h r (by simp)
    show r.length ≤ 1 * (m + mk.length)
    omega
  | r :: r2 :: t, h => by
    have ih := joinR_len mk m (r2 :: t) (fun x hx => h x (by simp at hx ⊢; exact .inr hx))
    have := h r (by simp)
    rw [joinR_cons mk r _ (by simp)]
    simp only [List.length_append, List.length_cons, Nat.add_mul, Nat.one_mul] at ih ⊢
    omega
end Go.Proofs.YtgopmhfehobooaaDoor
