/-
  Plain laws of runs: what text.runs gathers, byte by byte, are the runs of the text's runes. No program in sight.
-/
import Derived.Test.YtgopmhfehobooaaDoorTextT
namespace Go.Proofs.YtgopmhfehobooaaDoor
open Go.Lib

theorem decodeL_pos (l : List UInt8) : 1 ≤ (decodeL l).2 := by
  unfold decodeL
  exact Lib.width_pos _ _
/-- The runes of a text, with their places and widths. -/
def marksGo : Nat → Nat → List UInt8 → List (Nat × Nat × Nat)
  | 0, _, _ => []
  | _ + 1, _, [] => []
  | n + 1, p, b :: t => ((decodeL (b :: t)).1, p, (decodeL (b :: t)).2) :: marksGo n (p + (decodeL (b :: t)).2) ((b :: t).drop (decodeL (b :: t)).2)
def marks (p : Nat) (l : List UInt8) : List (Nat × Nat × Nat) := marksGo l.length p l
theorem marksGo_nil (n p : Nat) : marksGo n p [] = [] := by cases n <;> rfl
theorem marksGo_fuel : ∀ (n m p : Nat) (l : List UInt8), l.length ≤ n → l.length ≤ m → marksGo n p l = marksGo m p l := by
  intro n
  induction n with
  | zero =>
    intro m p l h _
    have : l = [] := List.eq_nil_of_length_eq_zero (by omega)
    subst this
    rw [marksGo_nil, marksGo_nil]
  | succ n ih =>
    intro m p l hn hm
    cases l with
    | nil => rw [marksGo_nil, marksGo_nil]
    | cons b t =>
      cases m with
      | zero => simp at hm
      | succ m =>
        have hw := decodeL_le (b :: t) (by simp)
        have hp := decodeL_pos (b :: t)
        simp only [marksGo]
        rw [ih m _ _ (by rw [List.length_drop]; simp only [List.length_cons] at *; omega) (by rw [List.length_drop]; simp only [List.length_cons] at *; omega)]
theorem marks_nil (p : Nat) : marks p [] = [] := rfl
theorem marks_step (p : Nat) (l : List UInt8) (hne : l ≠ []) : marks p l = ((decodeL l).1, p, (decodeL l).2) :: marks (p + (decodeL l).2) (l.drop (decodeL l).2) := by
  cases l with
  | nil => exact absurd rfl hne
  | cons b t =>
    have hp := decodeL_pos (b :: t)
    unfold marks
    simp only [List.length_cons, marksGo]
    rw [marksGo_fuel t.length _ _ _ (by rw [List.length_drop]; simp only [List.length_cons]; omega) (Nat.le_refl _)]
theorem marks_runes (l : List UInt8) : ∀ p, (marks p l).map (·.1) = runes l := by
  refine runes_ind (P := fun l => ∀ p, (marks p l).map (·.1) = runes l) ?_ ?_ l
  · intro p; rfl
  · intro l hne ih p
    rw [marks_step p l hne, runes_step l hne, List.map_cons, ih]
/-- Each place is behind the one before. -/
def chain : Nat → Nat → List (Nat × Nat × Nat) → Prop
  | p, q, [] => p = q
  | p, q, x :: M => x.2.1 = p ∧ 1 ≤ x.2.2 ∧ chain (p + x.2.2) q M
theorem marks_chain (l : List UInt8) : ∀ p, chain p (p + l.length) (marks p l) := by
  refine runes_ind (P := fun l => ∀ p, chain p (p + l.length) (marks p l)) ?_ ?_ l
  · intro p; rfl
  · intro l hne ih p
    rw [marks_step p l hne]
    have hw := decodeL_le l hne
    refine ⟨rfl, decodeL_pos l, ?_⟩
    have := ih (p + (decodeL l).2)
    rwa [List.length_drop, show p + (decodeL l).2 + (l.length - (decodeL l).2) = p + l.length from by omega] at this
theorem chain_le : ∀ (M : List (Nat × Nat × Nat)) (p q : Nat), chain p q M → p + M.length ≤ q
  | [], p, q, h => by simp only [chain] at h; simp; omega
  | x :: M, p, q, h => by
    have := chain_le M _ _ h.2.2
    have h2 := h.2.1
    simp only [List.length_cons]; omega
theorem chain_app : ∀ (M N : List (Nat × Nat × Nat)) (p q : Nat), chain p q (M ++ N) → ∃ m, chain p m M ∧ chain m q N
  | [], N, p, q, h => ⟨p, rfl, h⟩
  | x :: M, N, p, q, h => by
    obtain ⟨m, h1, h2⟩ := chain_app M N _ _ h.2.2
    exact ⟨m, ⟨h.1, h.2.1, h1⟩, h2⟩

abbrev Run := List Nat × Nat × Nat
/-- A rune more. -/
def gather (st : Bool × List Run) (x : Nat × Nat × Nat) : Bool × List Run :=
  if wordN x.1 then
    if st.1 then (true, st.2.dropLast ++ [((st.2.getLast?.getD ([], 0, 0)).1 ++ [x.1], (st.2.getLast?.getD ([], 0, 0)).2.1, x.2.1 + x.2.2)])
    else (true, st.2 ++ [([x.1], x.2.1, x.2.1 + x.2.2)])
  else (false, st.2)
def gathered (st : Bool × List Run) (M : List (Nat × Nat × Nat)) : List Run := (M.foldl gather st).2
theorem gather_no (o : Bool) (L : List Run) (x : Nat × Nat × Nat) (h : wordN x.1 = false) : gather (o, L) x = (false, L) := by simp [gather, h]
theorem gather_new (L : List Run) (x : Nat × Nat × Nat) (h : wordN x.1 = true) : gather (false, L) x = (true, L ++ [([x.1], x.2.1, x.2.1 + x.2.2)]) := by simp [gather, h]
theorem gather_more (L : List Run) (run : List Nat) (f t : Nat) (x : Nat × Nat × Nat) (h : wordN x.1 = true) : gather (true, L ++ [(run, f, t)]) x = (true, L ++ [(run ++ [x.1], f, x.2.1 + x.2.2)]) := by simp [gather, h]
theorem gathered_cons (st : Bool × List Run) (x : Nat × Nat × Nat) (M : List (Nat × Nat × Nat)) : gathered st (x :: M) = gathered (gather st x) M := rfl
theorem gathered_flag (o : Bool) (L : List Run) (M : List (Nat × Nat × Nat)) (hs : stops (M.map (·.1))) : gathered (o, L) M = gathered (false, L) M := by
  rcases hs with h | ⟨r, t, h, hr⟩
  · have : M = [] := List.map_eq_nil_iff.1 h
    subst this; rfl
  · cases M with
    | nil => cases h
    | cons x M =>
      simp only [List.map_cons, List.cons.injEq] at h
      rw [gathered_cons, gathered_cons, gather_no _ _ _ (by rw [h.1]; exact hr), gather_no _ _ _ (by rw [h.1]; exact hr)]
theorem gathered_more : ∀ (R : List (Nat × Nat × Nat)) (L : List Run) (run : List Nat) (f t q : Nat) (M : List (Nat × Nat × Nat)), (∀ x ∈ R, wordN x.1 = true) → chain t q R →
    gathered (true, L ++ [(run, f, t)]) (R ++ M) = gathered (true, L ++ [(run ++ R.map (·.1), f, q)]) M
  | [], L, run, f, t, q, M, _, hc => by simp only [chain] at hc; subst hc; simp
  | x :: R, L, run, f, t, q, M, hw, hc => by
    rw [List.cons_append, gathered_cons, gather_more _ _ _ _ _ (hw x (by simp)), hc.1, gathered_more R L _ f _ q M (fun y hy => hw y (by simp [hy])) hc.2.2]
    simp
theorem gathered_run (R : List (Nat × Nat × Nat)) (L : List Run) (p q : Nat) (M : List (Nat × Nat × Nat)) (hne : R ≠ []) (hw : ∀ x ∈ R, wordN x.1 = true) (hc : chain p q R) :
    gathered (false, L) (R ++ M) = gathered (true, L ++ [(R.map (·.1), p, q)]) M := by
  cases R with
  | nil => exact absurd rfl hne
  | cons x R =>
    rw [List.cons_append, gathered_cons, gather_new _ _ (hw x (by simp)), hc.1, gathered_more R L _ p _ q M (fun y hy => hw y (by simp [hy])) hc.2.2]
    simp

/-- All of what is gathered: beside each run its place among the runes; whether it is an inner one. -/
theorem gathered_all : ∀ (n : Nat) (M : List (Nat × Nat × Nat)) (k0 p0 S N : Nat) (L : List Run), M.length ≤ n → (p0 = 0 ↔ k0 = 0) → chain p0 S M → k0 + M.length = N →
    ∃ L4 : List (Nat × Run), gathered (false, L) M = L ++ L4.map (·.2) ∧ L4.map (fun x => (x.1, x.2.1)) = segs k0 (M.map (·.1)) ∧
      ∀ x ∈ L4, (0 < x.2.2.1 ∧ x.2.2.2 < S ↔ 0 < x.1 ∧ x.1 + x.2.1.length < N) ∧ x.2.2.2 ≤ S := by
  intro n
  induction n with
  | zero =>
    intro M k0 p0 S N L hn _ _ _
    have : M = [] := List.eq_nil_of_length_eq_zero (by omega)
    subst this
    exact ⟨[], by simp [gathered], rfl, fun x hx => by cases hx⟩
  | succ n ih =>
    intro M k0 p0 S N L hn hz hc hN
    obtain ⟨run, rest, hrr, hall, hstop⟩ := take_run (M.map (·.1))
    obtain ⟨R, M', rfl, hR, hM'⟩ := List.map_eq_append_iff.1 hrr
    by_cases h0 : R = []
    · subst h0
      simp only [List.map_nil] at hR
      subst hR
      rw [List.nil_append] at hn hc hN ⊢
      cases M' with
      | nil => exact ⟨[], by simp [gathered], rfl, fun x hx => by cases hx⟩
      | cons x M' =>
        have hx : wordN x.1 = false := by
          rcases hstop with h | ⟨r, t, h, hr⟩
          · rw [h] at hM'; cases hM'
          · rw [h] at hM'
            simp only [List.map_cons, List.cons.injEq] at hM'
            rw [hM'.1]; exact hr
        have h1 := hc.2.1
        obtain ⟨L4, e1, e2, e3⟩ := ih M' (k0 + 1) (p0 + x.2.2) S N L (by simp at hn; omega) (by omega) hc.2.2 (by simp at hN; omega)
        exact ⟨L4, by rw [gathered_cons, gather_no _ _ _ hx]; exact e1, by rw [List.map_cons, segs_skip hx]; exact e2, e3⟩
    · obtain ⟨m, c1, c2⟩ := chain_app R M' _ _ hc
      have hRl : 0 < R.length := List.length_pos_iff.2 h0
      have hle := chain_le R _ _ c1
      have hle2 := chain_le M' _ _ c2
      have hrl : run.length = R.length := by rw [← hR, List.length_map]
      rw [List.length_append] at hn hN
      have hwR : ∀ x ∈ R, wordN x.1 = true := fun x hx => hall x.1 (by rw [← hR]; exact List.mem_map_of_mem hx)
      obtain ⟨L4, e1, e2, e3⟩ := ih M' (k0 + R.length) m S N (L ++ [(run, p0, m)]) (by omega) (by omega) c2 (by omega)
      refine ⟨(k0, (run, p0, m)) :: L4, ?_, ?_, ?_⟩
      · rw [gathered_run R L p0 m M' h0 hwR c1, gathered_flag _ _ _ (by rw [hM']; exact hstop), hR, e1]
        simp
      · rw [List.map_append, hR, hM', segs_run run rest k0 (by intro e; rw [e] at hrl; simp at hrl; omega) hall hstop, List.map_cons, e2, hrl, hM']
      · intro x hx
        rcases List.mem_cons.1 hx with rfl | hx
        · refine ⟨?_, by simp only; omega⟩
          simp only
          have : m < S ↔ k0 + run.length < N := by
            cases M' with
            | nil => simp only [chain] at c2; simp at hN; omega
            | cons y M' => simp only [List.length_cons] at *; omega
          rw [this]
          omega
        · exact e3 x hx
/-- The runs of a text as text.runs has them. -/
def runsOfText (l : List UInt8) : List Run := gathered (false, []) (marks 0 l)
theorem runsOfText_words (l : List UInt8) : (runsOfText l).map (fun x => wordOf x.1) = words l := by
  obtain ⟨L4, e1, e2, _⟩ := gathered_all _ (marks 0 l) 0 0 l.length (runes l).length [] (Nat.le_refl _) (by omega) (by have := marks_chain l 0; rwa [Nat.zero_add] at this) (by rw [Nat.zero_add, ← marks_runes l 0, List.length_map])
  unfold runsOfText words
  rw [e1, List.nil_append, ← marks_runes l 0, ← e2, List.map_map, List.map_map]
  rfl
theorem runsOfText_inner (l : List UInt8) : ((runsOfText l).filter fun x => decide (0 < x.2.1 ∧ x.2.2 < l.length)).map (fun x => wordOf x.1) = inners l := by
  obtain ⟨L4, e1, e2, e3⟩ := gathered_all _ (marks 0 l) 0 0 l.length (runes l).length [] (Nat.le_refl _) (by omega) (by have := marks_chain l 0; rwa [Nat.zero_add] at this) (by rw [Nat.zero_add, ← marks_runes l 0, List.length_map])
  unfold runsOfText inners
  rw [e1, List.nil_append]
  have e4 : segs 0 (runes l) = L4.map (fun x => (x.1, x.2.1)) := by rw [e2, marks_runes]
  rw [e4, List.filter_map, List.filter_map, List.map_map, List.map_map]
  have hf : L4.filter ((fun x : Run => decide (0 < x.2.1 ∧ x.2.2 < l.length)) ∘ fun x => x.2) = L4.filter (innerR (runes l).length ∘ fun x : Nat × Run => (x.1, x.2.1)) := by
    apply List.filter_congr
    intro x hx
    unfold innerR
    simp only [Function.comp]
    exact decide_eq_decide.2 (e3 x hx).1
  rw [hf]
  rfl
theorem runsOfText_le (l : List UInt8) : ∀ x ∈ runsOfText l, x.2.2 ≤ l.length ∧ scalars x.1 := by
  obtain ⟨L4, e1, e2, e3⟩ := gathered_all _ (marks 0 l) 0 0 l.length (runes l).length [] (Nat.le_refl _) (by omega) (by have := marks_chain l 0; rwa [Nat.zero_add] at this) (by rw [Nat.zero_add, ← marks_runes l 0, List.length_map])
  intro x hx
  unfold runsOfText at hx
  rw [e1, List.nil_append] at hx
  obtain ⟨y, hy, rfl⟩ := List.mem_map.1 hx
  refine ⟨(e3 y hy).2, ?_⟩
  have hm : y.2.1 ∈ runsOf (runes l) := by
    unfold runsOf
    rw [← marks_runes l 0, ← e2, List.map_map]
    exact List.mem_map.2 ⟨y, hy, rfl⟩
  obtain ⟨_, _, h⟩ := runsOf_word _ _ hm
  exact fun r hr => runes_scalars l r (h r hr)
theorem segs_len : ∀ (l : List Nat) (k : Nat), (segs k l).length ≤ l.length
  | [], _ => Nat.le_refl _
  | r :: t, k => by
    have ih := segs_len t (k + 1)
    by_cases hw : wordN r = true
    · simp only [segs, hw, if_true]
      cases hs : segs (k + 1) t with
      | nil => simp
      | cons y ys =>
        rw [hs] at ih
        obtain ⟨j, run⟩ := y
        simp only
        split <;> simp at ih ⊢ <;> omega
    · have hw' : wordN r = false := by simpa using hw
      rw [segs_skip hw']
      simp only [List.length_cons]; omega
theorem runsOfText_len (l : List UInt8) : (runsOfText l).length ≤ l.length := by
  have h := congrArg List.length (runsOfText_words l)
  unfold words at h
  rw [List.length_map, List.length_map] at h
  have h1 := segs_len (runes l) 0
  have h2 := runes_length l
  omega
end Go.Proofs.YtgopmhfehobooaaDoor
