/-
  The document's reading of a push and the program's are one, plainly.
-/
import Derived.Test.YtljnbbdhmlfhjaaGreatDoorWirQ
namespace Go.Proofs.YtljnbbdhmlfhjaaGreatDoor
open Go.RowKit
def nmOk (m : Bs × J) : Bool := if m.1 = kTime then (intJ m.2).2 else if m.1 = kLine then (textJ m.2).2 else if m.1 = kLabels then (labsJ m.2).isSome else false
def cntM (k : Bs) (l : List (Bs × J)) : Nat := (l.map (·.1)).count k
def lastM {α : Type} (k : Bs) (f : J → α) (a : α) (l : List (Bs × J)) : α := l.foldl (fun t m => if m.1 = k then f m.2 else t) a
def labO : Option (List Lab) → List Lab
  | some L => L
  | none => []
def timeL (l : List (Bs × J)) : Int := lastM kTime (fun x => (intJ x).1) 0 l
def lineL (l : List (Bs × J)) : Bs := lastM kLine (fun x => (textJ x).1) [] l
def labsL (l : List (Bs × J)) : List Lab := lastM kLabels (fun x => labO (labsJ x)) [] l
def goodM (l : List (Bs × J)) : Bool := l.all nmOk && decide (cntM kTime l = 1 ∧ cntM kLine l = 1 ∧ cntM kLabels l ≤ 1)
def refOne (l : List (Bs × J)) : Option Rec := if goodM l = true then some ⟨timeL l, 0, labsL l, toB (lineL l)⟩ else none
theorem nodup_of_count : ∀ l : List Bs, (∀ a ∈ l, l.count a ≤ 1) → l.Nodup
  | [], _ => List.Pairwise.nil
  | x :: l, h => by
    have hx := h x (by simp)
    rw [List.count_cons_self] at hx
    refine List.nodup_cons.2 ⟨fun hm => ?_, nodup_of_count l fun a ha => ?_⟩
    · have := List.count_pos_iff.2 hm
      omega
    · have := h a (by simp [ha])
      rw [List.count_cons] at this
      omega
theorem count_of_nodup : ∀ {l : List Bs}, l.Nodup → ∀ a, l.count a ≤ 1
  | [], _, a => by simp
  | x :: l, h, a => by
    obtain ⟨h1, h2⟩ := List.nodup_cons.1 h
    have := count_of_nodup h2 a
    rw [List.count_cons]
    split
    · rename_i e
      have e' : x = a := by simpa using e
      subst e'
      rw [List.count_eq_zero.2 h1]
      exact Nat.le_refl _
    · omega
theorem findM_none {k : Bs} : ∀ {l : List (Bs × J)}, findM k l = none ↔ cntM k l = 0
  | [] => by simp [findM, cntM]
  | (n, x) :: l => by
    have ih := findM_none (k := k) (l := l)
    unfold cntM at ih ⊢
    rw [List.map_cons, List.count_cons]
    simp only [findM]
    by_cases h : n = k
    · simp [h]
    · simp [h, ih]
theorem lastM_zero {α : Type} {k : Bs} (f : J → α) : ∀ {l : List (Bs × J)} (a : α), cntM k l = 0 → lastM k f a l = a
  | [], a, _ => rfl
  | (n, x) :: l, a, h => by
    have e : cntM k ((n, x) :: l) = cntM k l + if n == k then 1 else 0 := by unfold cntM; rw [List.map_cons, List.count_cons]
    rw [e] at h
    have hn : ¬ n = k := by
      intro e'
      rw [e'] at h
      simp at h
    show lastM k f (if n = k then f x else a) l = a
    rw [if_neg hn]
    exact lastM_zero f a (by omega)
theorem lastM_find {α : Type} {k : Bs} (f : J → α) : ∀ {l : List (Bs × J)} (a : α), cntM k l ≤ 1 → lastM k f a l = match findM k l with | some x => f x | none => a
  | [], a, _ => rfl
  | (n, x) :: l, a, h => by
    have e : cntM k ((n, x) :: l) = cntM k l + if n == k then 1 else 0 := by unfold cntM; rw [List.map_cons, List.count_cons]
    rw [e] at h
    show lastM k f (if n = k then f x else a) l = _
    simp only [findM]
    by_cases hn : n = k
    · rw [if_pos hn, if_pos hn]
      have : cntM k l = 0 := by
        rw [hn] at h
        simp at h
        omega
      exact lastM_zero f _ this
    · rw [if_neg hn, if_neg hn]
      exact lastM_find f a (by omega)
theorem findM_of {n : Bs} {x : J} : ∀ {l : List (Bs × J)}, (l.map (·.1)).Nodup → (n, x) ∈ l → findM n l = some x
  | [], _, h => by simp at h
  | (m, y) :: l, hn, h => by
    rw [List.map_cons, List.nodup_cons] at hn
    simp only [findM]
    rcases List.mem_cons.1 h with e | h
    · cases e
      rw [if_pos rfl]
    · rw [if_neg, findM_of hn.2 h]
      rintro rfl
      exact hn.1 (List.mem_map.2 ⟨_, h, rfl⟩)
theorem good_of {l : List (Bs × J)} (h1 : onlyB [kTime, kLine, kLabels] (.obj l) = true) (h2 : (intJ (optJ (findM kTime l))).2 = true) (h3 : (textJ (optJ (findM kLine l))).2 = true) (h4 : ∀ x, findM kLabels l = some x → (labsJ x).isSome = true) : goodM l = true := by
  have h1' : (l.map (·.1)).Nodup ∧ ∀ n ∈ l.map (·.1), n ∈ [kTime, kLine, kLabels] := by
    have : (true && decide ((l.map (·.1)).Nodup ∧ ∀ n ∈ l.map (·.1), n ∈ [kTime, kLine, kLabels])) = true := h1
    simpa using this
  obtain ⟨hnd, hsub⟩ := h1'
  have hc := fun k => count_of_nodup hnd k
  have pos : ∀ k, findM k l ≠ none → cntM k l = 1 := fun k hk => by
    have a := hc k
    have b : cntM k l ≠ 0 := fun e => hk (findM_none.2 e)
    unfold cntM at b ⊢
    omega
  unfold goodM
  rw [Bool.and_eq_true, List.all_eq_true, decide_eq_true_eq]
  refine ⟨fun m hm => ?_, pos _ fun e => ?_, pos _ fun e => ?_, hc _⟩
  · have hs := hsub m.1 (List.mem_map.2 ⟨m, hm, rfl⟩)
    have hf : findM m.1 l = some m.2 := findM_of hnd hm
    unfold nmOk
    by_cases e1 : m.1 = kTime
    · rw [if_pos e1]
      rw [e1] at hf
      rw [hf] at h2
      exact h2
    · rw [if_neg e1]
      by_cases e2 : m.1 = kLine
      · rw [if_pos e2]
        rw [e2] at hf
        rw [hf] at h3
        exact h3
      · rw [if_neg e2]
        by_cases e3 : m.1 = kLabels
        · rw [if_pos e3]
          rw [e3] at hf
          exact h4 _ hf
        · simp [e1, e2, e3] at hs
  · rw [e] at h2
    exact absurd h2 (by decide)
  · rw [e] at h3
    exact absurd h3 (by decide)
theorem good_use {l : List (Bs × J)} (h : goodM l = true) : onlyB [kTime, kLine, kLabels] (.obj l) = true ∧ (∃ t, findM kTime l = some t ∧ (intJ t).2 = true) ∧ (∃ t, findM kLine l = some t ∧ (textJ t).2 = true) ∧ (∀ x, findM kLabels l = some x → (labsJ x).isSome = true) := by
  unfold goodM at h
  rw [Bool.and_eq_true, List.all_eq_true, decide_eq_true_eq] at h
  obtain ⟨h1, h2, h3, h4⟩ := h
  have some_of : ∀ k, cntM k l = 1 → ∃ t, findM k l = some t := fun k hk => by
    cases hf : findM k l with
    | none =>
      have := findM_none.1 hf
      omega
    | some t => exact ⟨t, rfl⟩
  have mem3 : ∀ n ∈ l.map (·.1), n ∈ [kTime, kLine, kLabels] := fun n hn => by
    obtain ⟨m, hm, rfl⟩ := List.mem_map.1 hn
    have := h1 m hm
    unfold nmOk at this
    by_cases e1 : m.1 = kTime
    · simp [e1]
    · rw [if_neg e1] at this
      by_cases e2 : m.1 = kLine
      · simp [e2]
      · rw [if_neg e2] at this
        by_cases e3 : m.1 = kLabels
        · simp [e3]
        · rw [if_neg e3] at this
          cases this
  refine ⟨?_, ?_, ?_, fun x hx => ?_⟩
  · show (true && decide ((l.map (·.1)).Nodup ∧ ∀ n ∈ l.map (·.1), n ∈ [kTime, kLine, kLabels])) = true
    rw [Bool.true_and, decide_eq_true_eq]
    refine ⟨nodup_of_count _ fun a ha => ?_, mem3⟩
    have := mem3 a ha
    simp only [List.mem_cons, List.not_mem_nil, or_false] at this
    rcases this with rfl | rfl | rfl
    · exact Nat.le_of_eq h2
    · exact Nat.le_of_eq h3
    · exact h4
  · obtain ⟨t, ht⟩ := some_of _ h2
    have := h1 _ (findM_mem ht)
    exact ⟨t, ht, this⟩
  · obtain ⟨t, ht⟩ := some_of _ h3
    have := h1 _ (findM_mem ht)
    exact ⟨t, ht, this⟩
  · exact h1 _ (findM_mem hx)
theorem refOne_eq (l : List (Bs × J)) : oneJ (.obj l) = refOne l := by
  unfold refOne
  by_cases hg : goodM l = true
  · rw [if_pos hg]
    obtain ⟨h1, ⟨t, ht, ht2⟩, ⟨s, hs, hs2⟩, h4⟩ := good_use hg
    unfold goodM at hg
    rw [Bool.and_eq_true, decide_eq_true_eq] at hg
    obtain ⟨-, c1, c2, c3⟩ := hg
    have et : timeL l = (intJ t).1 := by
      unfold timeL
      rw [lastM_find _ _ (Nat.le_of_eq c1), ht]
    have es : lineL l = (textJ s).1 := by
      unfold lineL
      rw [lastM_find _ _ (Nat.le_of_eq c2), hs]
    have el : labsL l = match findM kLabels l with | some x => labO (labsJ x) | none => [] := by
      unfold labsL
      rw [lastM_find _ _ c3]
    have g : ∀ k, getJ k (.obj l) = findM k l := fun k => rfl
    unfold oneJ
    simp only [g, ht, hs, optJ]
    rw [if_pos ⟨h1, ht2, hs2⟩, et, es, el]
    cases hl : findM kLabels l with
    | none => rfl
    | some x =>
      have := h4 x hl
      cases hL : labsJ x with
      | none => rw [hL] at this; cases this
      | some L => simp only [hL, labO]
  · rw [if_neg hg]
    have g : ∀ k, getJ k (.obj l) = findM k l := fun k => rfl
    unfold oneJ
    simp only [g]
    split
    · rename_i hc
      obtain ⟨h1, h2, h3⟩ := hc
      cases hl : findM kLabels l with
      | none =>
        exact absurd (good_of h1 h2 h3 fun x hx => by rw [hl] at hx; cases hx) hg
      | some x =>
        cases hL : labsJ x with
        | none => simp only [hL]
        | some L =>
          exact absurd (good_of h1 h2 h3 fun y hy => by rw [hl] at hy; cases hy; rw [hL]; rfl) hg
    · rfl
theorem oneJ_no {j : J} (h : ∀ l, j ≠ .obj l) : oneJ j = none := by
  unfold oneJ
  rw [if_neg]
  rintro ⟨h1, -⟩
  cases j with
  | obj l => exact h l rfl
  | _ => simp [onlyB, namesJ] at h1
theorem labsJ_no {j : J} (h : ∀ l, j ≠ .obj l) : labsJ j = none := by
  cases j with
  | obj l => exact absurd rfl (h l)
  | _ => rfl
theorem recs_of (l : List J) : recsJ (.obj [(kRecords, .arr l)]) = onesL l := by
  have h1 : onlyB [kRecords] (.obj [(kRecords, .arr l)]) = true := by
    show (true && decide ([kRecords].Nodup ∧ ∀ n ∈ [kRecords], n ∈ [kRecords])) = true
    decide
  have h2 : getJ kRecords (.obj [(kRecords, .arr l)]) = some (.arr l) := by simp [getJ, findM]
  unfold recsJ
  rw [h2, if_pos ⟨h1, rfl, rfl⟩]
  rfl
theorem recs_no {j : J} (h : ∀ l, j ≠ .obj [(kRecords, .arr l)]) : recsJ j = none := by
  unfold recsJ
  rw [if_neg]
  rintro ⟨h1, h2, h3⟩
  cases j with
  | obj m =>
    have h1' : (m.map (·.1)).Nodup ∧ ∀ n ∈ m.map (·.1), n ∈ [kRecords] := by
      have : (true && decide ((m.map (·.1)).Nodup ∧ ∀ n ∈ m.map (·.1), n ∈ [kRecords])) = true := h1
      simpa using this
    obtain ⟨hnd, hsub⟩ := h1'
    match m, hnd, hsub, h2, h3, h with
    | [], _, _, h2, _, _ => cases h2
    | [(n, x)], _, hsub, h2, h3, h =>
      have hn : n = kRecords := by simpa using hsub n (by simp)
      subst hn
      have hg : getJ kRecords (.obj [(kRecords, x)]) = some x := by simp [getJ, findM]
      rw [hg] at h3
      cases x with
      | arr l => exact h l rfl
      | _ => cases h3
    | (n, x) :: (n', x') :: m, hnd, hsub, _, _, _ =>
      have e1 : n = kRecords := by simpa using hsub n (by simp)
      have e2 : n' = kRecords := by simpa using hsub n' (by simp)
      rw [e1, e2] at hnd
      simp at hnd
  | _ => cases h2
theorem quote_inj {s t : Bs} (h : quote s = quote t) : s = t := by
  have h1 := text_back s []
  have h2 := text_back t []
  rw [h] at h1
  rw [h1] at h2
  injection h2 with h2
  exact (Prod.mk.inj h2).1
/-- What a one form begins with. -/
theorem head_arr {j : J} (h : okJ j) : (formJ j).head? = some 91 ↔ ∃ l, j = .arr l := by
  cases j with
  | arr l => exact ⟨fun _ => ⟨l, rfl⟩, fun _ => rfl⟩
  | bool b => cases b <;> exact ⟨fun e => (by cases e), fun ⟨l, e⟩ => (by cases e)⟩
  | nul => exact ⟨fun e => (by cases e), fun ⟨l, e⟩ => (by cases e)⟩
  | str s => exact ⟨fun e => (by cases e), fun ⟨l, e⟩ => (by cases e)⟩
  | obj s => exact ⟨fun e => (by cases e), fun ⟨l, e⟩ => (by cases e)⟩
  | num s =>
    obtain ⟨c, r, rfl, hc⟩ := num_head h
    refine ⟨fun e => ?_, fun ⟨l, e⟩ => by cases e⟩
    simp only [formJ, List.head?_cons, Option.some.injEq] at e
    subst e
    rcases hc with hc | hc <;> exact absurd hc (by decide)
theorem head_obj {j : J} (h : okJ j) : (formJ j).head? = some 123 ↔ ∃ l, j = .obj l := by
  cases j with
  | obj l => exact ⟨fun _ => ⟨l, rfl⟩, fun _ => rfl⟩
  | bool b => cases b <;> exact ⟨fun e => (by cases e), fun ⟨l, e⟩ => (by cases e)⟩
  | nul => exact ⟨fun e => (by cases e), fun ⟨l, e⟩ => (by cases e)⟩
  | str s => exact ⟨fun e => (by cases e), fun ⟨l, e⟩ => (by cases e)⟩
  | arr s => exact ⟨fun e => (by cases e), fun ⟨l, e⟩ => (by cases e)⟩
  | num s =>
    obtain ⟨c, r, rfl, hc⟩ := num_head h
    refine ⟨fun e => ?_, fun ⟨l, e⟩ => by cases e⟩
    simp only [formJ, List.head?_cons, Option.some.injEq] at e
    subst e
    rcases hc with hc | hc <;> exact absurd hc (by decide)
theorem head_str {j : J} (h : okJ j) : (formJ j).head? = some 34 ↔ ∃ s, j = .str s := by
  cases j with
  | str l => exact ⟨fun _ => ⟨l, rfl⟩, fun _ => rfl⟩
  | bool b => cases b <;> exact ⟨fun e => (by cases e), fun ⟨l, e⟩ => (by cases e)⟩
  | nul => exact ⟨fun e => (by cases e), fun ⟨l, e⟩ => (by cases e)⟩
  | obj s => exact ⟨fun e => (by cases e), fun ⟨l, e⟩ => (by cases e)⟩
  | arr s => exact ⟨fun e => (by cases e), fun ⟨l, e⟩ => (by cases e)⟩
  | num s =>
    obtain ⟨c, r, rfl, hc⟩ := num_head h
    refine ⟨fun e => ?_, fun ⟨l, e⟩ => by cases e⟩
    simp only [formJ, List.head?_cons, Option.some.injEq] at e
    subst e
    rcases hc with hc | hc <;> exact absurd hc (by decide)
end Go.Proofs.YtljnbbdhmlfhjaaGreatDoor
