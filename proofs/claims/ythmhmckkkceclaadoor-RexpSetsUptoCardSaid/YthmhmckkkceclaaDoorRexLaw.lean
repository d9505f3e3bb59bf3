/-
  A pattern's reading goes the same way whatever stands behind it; patterns in parentheses, in a row, with or between them, with a repetition behind.
-/
import Derived.Test.YthmhmckkkceclaaDoorRexPl
import Derived.Test.YthmhmckkkceclaaDoorRexSl
import Derived.Test.YthmhmckkkceclaaDoorRexLa
namespace Go.Proofs.YthmhmckkkceclaaDoor
/-- A reading that more runes behind don't turn. -/
def Holds {α : Type} (x : List Int → Res α) (y : List Int → Res α) (ok : List Int → Prop) : Prop := ∀ s z r t, x s = some (z, r) → (r ≠ [] ∨ ok t) → y (s ++ t) = some (z, r ++ t)
theorem dig_holds : Holds digP digP fun _ => True := by
  intro s z r t h _
  cases s with
  | nil => cases h
  | cons c s =>
    rw [List.cons_append]
    simp only [digP] at h ⊢
    split at h
    · rename_i hc
      cases h
      rw [if_pos hc]
    · cases h
theorem esc_holds : Holds escP escP fun _ => True := by
  intro s z r t h _
  cases s with
  | nil => cases h
  | cons c s =>
    rw [List.cons_append]
    simp only [escP] at h ⊢
    repeat' split at h
    all_goals first | (cases h; done) | (cases h; simp [*])
theorem mem_holds : Holds memP memP fun _ => True := by
  intro s z r t h ht
  cases s with
  | nil => cases h
  | cons c s =>
    rw [List.cons_append]
    simp only [memP] at h ⊢
    split at h
    · rename_i hc
      rw [if_pos hc]
      exact esc_holds _ _ _ _ h ht
    · rename_i hc
      rw [if_neg hc]
      split at h
      · cases h
      · rename_i hc2
        rw [if_neg hc2]
        cases h
        rfl
theorem next_some {c : Int} {s r : List Int} (t : List Int) (h : nextP c s = some r) : nextP c (s ++ t) = some (r ++ t) := by
  rw [next_ends h, List.cons_append]
  simp [nextP]
theorem next_none {c : Int} {s t : List Int} (h : nextP c s = none) (ht : s ≠ [] ∨ nextP c t = none) : nextP c (s ++ t) = none := by
  cases s with
  | nil =>
    rcases ht with ht | ht
    · exact absurd rfl ht
    · exact ht
  | cons x s =>
    rw [List.cons_append]
    simp only [nextP] at h ⊢
    split at h
    · cases h
    · rename_i hx
      rw [if_neg hx]
theorem rng_holds : Holds rngP rngP fun t => nextP 45 t = none := by
  intro s z r t h ht
  unfold rngP at h ⊢
  split at h
  · cases h
  · rename_i m r1 e
    rw [mem_holds _ _ _ t e (.inr trivial)]
    simp only
    split at h
    · rename_i e1
      cases h
      rw [next_none e1 ht]
    · rename_i r2 e1
      rw [next_some t e1]
      simp only
      split at h
      · cases h
      · rename_i t' r' e'
        rw [mem_holds _ _ _ t e' (.inr trivial)]
        simp only
        split at h
        · cases h
        · rename_i u eu
          cases h
          rfl
theorem cls_holds (k : Nat) : ∀ k', k ≤ k' → Holds (clsL k) (clsL k') fun _ => True := by
  induction k with
  | zero => intro k' _ s z r t h; cases h
  | succ k ih =>
    intro k' hk s z r t h ht
    obtain ⟨k', rfl⟩ : ∃ j, k' = j + 1 := ⟨k' - 1, by omega⟩
    unfold clsL at h ⊢
    split at h
    · cases h
    · rename_i m r1 e
      have hne : r1 ≠ [] := by
        rintro rfl
        simp only [nextP] at h
        split at h
        · cases h
        · rename_i e'
          have := (cls_ends _ _ _ _ e').2
          simp at this
      rw [rng_holds _ _ _ t e (.inl hne)]
      simp only
      split at h
      · rename_i r2 e2
        cases h
        rw [next_some t e2]
      · rename_i e2
        rw [next_none e2 (.inl hne)]
        simp only
        split at h
        · cases h
        · rename_i u r3 e3
          cases h
          rw [ih k' (by omega) _ _ _ t e3 (.inr trivial)]
theorem clsN_holds (no : Bool) : Holds (clsN no) (clsN no) fun _ => True := by
  intro s z r t h ht
  unfold clsN at h ⊢
  split at h
  · cases h
  · rename_i u r1 e
    cases h
    rw [cls_holds _ _ (by simp) _ _ _ t e (.inr trivial)]
theorem clsP_holds : Holds clsP clsP fun _ => True := by
  intro s z r t h ht
  unfold clsP at h ⊢
  split at h
  · rename_i r1 e
    rw [next_some t e]
    exact clsN_holds _ _ _ _ _ h ht
  · rename_i e
    have hne : s ≠ [] := by
      rintro rfl
      have := (clsN_ends _ _ _ _ h).2
      simp at this
    rw [next_none e (.inl hne)]
    exact clsN_holds _ _ _ _ _ h ht
theorem setF_holds {t r : List Int} {x x' : Res (List Int)} {z : Frag} (h : setF x = some (z, r)) (hx : ∀ u r, x = some (u, r) → x' = some (u, r ++ t)) : setF x' = some (z, r ++ t) := by
  unfold setF at h
  split at h
  · cases h
  · rename_i u r1
    cases h
    rw [hx _ _ rfl]
    rfl
section
variable {alt alt' : List Int → Res Frag}
theorem atom_holds (ha : Holds alt alt' fun _ => False) : Holds (atomP alt) (atomP alt') fun _ => True := by
  intro s z r t h ht
  cases s with
  | nil => cases h
  | cons c s =>
    rw [List.cons_append]
    simp only [atomP] at h ⊢
    split at h
    · rename_i hc
      rw [if_pos hc]
      unfold parP at h ⊢
      split at h
      · cases h
      · rename_i f r1 e
        split at h
        · cases h
        · rename_i r2 e2
          cases h
          have hne : r1 ≠ [] := by
            rintro rfl
            cases e2
          rw [ha _ _ _ t e (.inl hne)]
          simp only
          rw [next_some t e2]
    · rename_i hc
      rw [if_neg hc]
      split at h
      · rename_i hc
        rw [if_pos hc]
        exact setF_holds h fun u r e => clsP_holds _ _ _ t e (.inr trivial)
      · rename_i hc
        rw [if_neg hc]
        split at h
        · rename_i hc; rw [if_pos hc]; cases h; rfl
        · rename_i hc
          rw [if_neg hc]
          split at h
          · rename_i hc; rw [if_pos hc]; cases h; rfl
          · rename_i hc
            rw [if_neg hc]
            split at h
            · rename_i hc; rw [if_pos hc]; cases h; rfl
            · rename_i hc
              rw [if_neg hc]
              split at h
              · rename_i hc
                rw [if_pos hc]
                exact setF_holds h fun u r e => esc_holds _ _ _ t e (.inr trivial)
              · rename_i hc
                rw [if_neg hc]
                split at h
                · cases h
                · rename_i hc; rw [if_neg hc]; cases h; rfl
/-- No repetition stands there. -/
def NoRep (t : List Int) : Prop := repP t = some (none, t)
theorem noRep_nil : NoRep [] := rfl
theorem noRep_cons {c : Int} (t : List Int) (h1 : c ≠ 42) (h2 : c ≠ 43) (h3 : c ≠ 63) (h4 : c ≠ 123) : NoRep (c :: t) := by
  unfold NoRep repP
  simp only [nextP, if_neg h1, if_neg h2, if_neg h3, if_neg h4]
theorem brEnd_holds (lo hi : Int) : Holds (brEnd lo hi) (brEnd lo hi) fun _ => True := by
  intro s z r t h ht
  unfold brEnd at h ⊢
  split at h
  · rename_i hl
    rw [if_pos hl]
    split at h
    · cases h
    · rename_i e
      cases h
      rw [next_some t e]
  · cases h
theorem bra_holds : Holds braP braP fun _ => True := by
  intro s z r t h ht
  unfold braP at h ⊢
  split at h
  · cases h
  · rename_i lo r1 e
    rw [dig_holds _ _ _ t e (.inr trivial)]
    simp only
    split at h
    · rename_i e1
      have hne : r1 ≠ [] := by
        rintro rfl
        have := (brEnd_ends _ _ _ _ _ h).2
        simp at this
      rw [next_none e1 (.inl hne)]
      exact brEnd_holds _ _ _ _ _ t h (.inr trivial)
    · rename_i r2 e2
      rw [next_some t e2]
      simp only
      split at h
      · cases h
      · rename_i hi r3 e3
        rw [dig_holds _ _ _ t e3 (.inr trivial)]
        exact brEnd_holds _ _ _ _ _ t h (.inr trivial)
theorem rep_holds {s t r : List Int} {z : Option (Int × Int)} (h : repP s = some (z, r)) (ht : s ≠ [] ∨ NoRep t) : repP (s ++ t) = some (z, r ++ t) := by
  cases s with
  | nil =>
    have h' : (none, []) = (z, r) := Option.some.inj h
    cases h'
    rcases ht with ht | ht
    · exact absurd rfl ht
    · exact ht
  | cons c s =>
    have hne : c :: s ≠ [] := by simp
    generalize c :: s = s at *
    unfold repP at h ⊢
    split at h
    · rename_i e; rw [next_some t e]; cases h; rfl
    · rename_i e
      rw [next_none e (.inl hne)]
      simp only
      split at h
      · rename_i e; rw [next_some t e]; cases h; rfl
      · rename_i e
        rw [next_none e (.inl hne)]
        simp only
        split at h
        · rename_i e; rw [next_some t e]; cases h; rfl
        · rename_i e
          rw [next_none e (.inl hne)]
          simp only
          split at h
          · rename_i e
            rw [next_none e (.inl hne)]
            cases h
            rfl
          · rename_i r0 e
            rw [next_some t e]
            simp only
            split at h
            · cases h
            · rename_i y r1 e1
              cases h
              rw [bra_holds _ _ _ t e1 (.inr trivial)]
theorem item_holds (ha : Holds alt alt' fun _ => False) : Holds (itemP alt) (itemP alt') NoRep := by
  intro s z r t h ht
  unfold itemP at h ⊢
  split at h
  · cases h
  · rename_i f r1 e
    rw [atom_holds ha _ _ _ t e (.inr trivial)]
    simp only
    split at h
    · cases h
    · rename_i x r2 e2
      cases h
      have hne : r1 ≠ [] ∨ NoRep t := by
        by_cases h0 : r1 = []
        · subst h0
          rcases ht with ht | ht
          · have := (rep_ends _ e2).1
            rw [List.suffix_nil] at this
            exact absurd this ht
          · exact .inr ht
        · exact .inl h0
      rw [rep_holds e2 hne]
/-- A row ends there. -/
def RowEnd (t : List Int) : Prop := t = [] ∨ ∃ t', t = 124 :: t' ∨ t = 41 :: t'
theorem RowEnd.noRep {t : List Int} (h : RowEnd t) : NoRep t := by
  rcases h with rfl | ⟨t', rfl | rfl⟩
  · exact noRep_nil
  · exact noRep_cons _ (by decide) (by decide) (by decide) (by decide)
  · exact noRep_cons _ (by decide) (by decide) (by decide) (by decide)
theorem RowEnd.row {t : List Int} (h : RowEnd t) (alt : List Int → Res Frag) (k : Nat) : rowL alt k t = some ([], t) := by
  rcases h with rfl | ⟨t', rfl | rfl⟩
  · cases k <;> rfl
  · cases k <;> rfl
  · cases k <;> rfl
theorem rowL_holds (ha : Holds alt alt' fun _ => False) (k : Nat) : ∀ k', k ≤ k' → Holds (rowL alt k) (rowL alt' k') RowEnd := by
  have stop : ∀ k' c s t, (c = (124 : Int) ∨ c = 41) → rowL alt' k' (c :: s ++ t) = some ([], c :: s ++ t) := by
    intro k' c s t hc
    rw [List.cons_append]
    cases k' <;> (unfold rowL; rw [if_pos hc])
  induction k with
  | zero =>
    intro k' _ s z r t h ht
    cases s with
    | nil =>
      cases h
      rw [List.nil_append]
      exact (ht.resolve_left (by simp)).row _ _
    | cons c s =>
      unfold rowL at h
      split at h
      · rename_i hc
        cases h
        exact stop _ _ _ _ hc
      · cases h
  | succ k ih =>
    intro k' hk s z r t h ht
    cases s with
    | nil =>
      cases h
      rw [List.nil_append]
      exact (ht.resolve_left (by simp)).row _ _
    | cons c s =>
      unfold rowL at h
      split at h
      · rename_i hc
        cases h
        exact stop _ _ _ _ hc
      · rename_i hc
        obtain ⟨k', rfl⟩ : ∃ j, k' = j + 1 := ⟨k' - 1, by omega⟩
        rw [List.cons_append]
        unfold rowL
        rw [if_neg hc]
        simp only at h ⊢
        split at h
        · cases h
        · rename_i f r1 e
          split at h
          · cases h
          · rename_i fs r2 e2
            cases h
            have hit : itemP alt' (c :: s ++ t) = some (f, r1 ++ t) := by
              refine item_holds ha _ _ _ t e ?_
              by_cases h0 : r1 = []
              · subst h0
                refine .inr ?_
                have h3 : r = [] := by cases k <;> (unfold rowL at e2; cases e2; rfl)
                exact (ht.resolve_left (by simp [h3])).noRep
              · exact .inl h0
            rw [List.cons_append] at hit
            rw [hit]
            simp only
            rw [ih k' (by omega) _ _ _ t e2 ht]
theorem rowP_holds (ha : Holds alt alt' fun _ => False) : Holds (rowP alt) (rowP alt') RowEnd := by
  intro s z r t h ht
  unfold rowP at h ⊢
  split at h
  · cases h
  · rename_i fs r1 e
    cases h
    rw [rowL_holds ha _ _ (by simp) _ _ _ t e ht]
/-- An alternative ends there. -/
def AltEnd (t : List Int) : Prop := t = [] ∨ ∃ t', t = 41 :: t'
theorem AltEnd.row {t : List Int} (h : AltEnd t) : RowEnd t := by
  rcases h with rfl | ⟨t', rfl⟩
  · exact .inl rfl
  · exact .inr ⟨t', .inr rfl⟩
theorem AltEnd.next {t : List Int} (h : AltEnd t) : nextP 124 t = none := by
  rcases h with rfl | ⟨t', rfl⟩ <;> rfl
theorem altL_holds (ha : Holds alt alt' fun _ => False) (k : Nat) : ∀ k', k ≤ k' → Holds (altL alt k) (altL alt' k') AltEnd := by
  induction k with
  | zero =>
    intro k' hk s z r t h ht
    unfold altL at h ⊢
    split at h
    · cases h
    · rename_i f r1 e
      split at h
      · rename_i e1
        cases h
        rw [rowP_holds ha _ _ _ t e (ht.imp_right AltEnd.row)]
        simp only
        rw [next_none e1 (ht.imp_right AltEnd.next)]
      · cases h
  | succ k ih =>
    intro k' hk s z r t h ht
    obtain ⟨k', rfl⟩ : ∃ j, k' = j + 1 := ⟨k' - 1, by omega⟩
    unfold altL at h ⊢
    split at h
    · cases h
    · rename_i f r1 e
      split at h
      · rename_i e1
        cases h
        rw [rowP_holds ha _ _ _ t e (ht.imp_right AltEnd.row)]
        simp only
        rw [next_none e1 (ht.imp_right AltEnd.next)]
      · rename_i r2 e2
        simp only at h
        split at h
        · cases h
        · rename_i fs r3 e3
          cases h
          have hne : r1 ≠ [] := by
            rintro rfl
            cases e2
          rw [rowP_holds ha _ _ _ t e (.inl hne)]
          simp only
          rw [next_some t e2]
          simp only
          rw [ih k' (by omega) _ _ _ t e3 ht]
theorem altB_holds (ha : Holds alt alt' fun _ => False) : Holds (altB alt) (altB alt') AltEnd := by
  intro s z r t h ht
  unfold altB at h ⊢
  split at h
  · cases h
  · rename_i fs r1 e
    cases h
    rw [altL_holds ha _ _ (by simp) _ _ _ t e ht]
end
theorem altN_holds (n : Nat) : ∀ m, n ≤ m → Holds (altN n) (altN m) AltEnd := by
  induction n with
  | zero => intro m _ s z r t h; cases h
  | succ n ih =>
    intro m hm
    obtain ⟨m, rfl⟩ : ∃ j, m = j + 1 := ⟨m - 1, by omega⟩
    exact altB_holds fun s z r t h ht => ih m (by omega) s z r t h (ht.imp_right False.elim)
/-! ### What patterns come to -/
theorem pat_alt {s : List Int} {f : Frag} (h : patP s = some f) : altN (s.length + 1) s = some (f, []) := by
  unfold patP at h
  split at h
  · cases h
  · rename_i g r e
    split at h
    · rename_i hr
      cases h
      rw [e, hr]
    · cases h
theorem pat_of {s : List Int} {f : Frag} (h : altN (s.length + 1) s = some (f, [])) : patP s = some f := by
  unfold patP
  rw [h]
  simp
theorem many_one (kind : Int) (f : Frag) : manyP kind [f] = f := rfl
theorem row_one (f : Frag) : rowF [f] = f := rfl
/-- A pattern in parentheses, whatever is behind. -/
theorem par_pat {s t : List Int} {f : Frag} (h : patP s = some f) {n : Nat} (hn : s.length + 1 ≤ n) : atomP (altN n) (40 :: (s ++ 41 :: t)) = some (upF f, t) := by
  have h1 := altN_holds _ n hn _ _ _ (41 :: t) (pat_alt h) (.inr (.inr ⟨t, rfl⟩))
  rw [List.nil_append] at h1
  simp only [atomP, if_pos]
  unfold parP
  rw [h1]
  simp [nextP]
theorem item_none {alt : List Int → Res Frag} {s t : List Int} {f : Frag} (h : atomP alt s = some (f, t)) (ht : NoRep t) : itemP alt s = some (f, t) := by
  unfold itemP
  rw [h]
  simp only
  rw [ht]
  rfl
theorem item_some {alt : List Int → Res Frag} {s t r : List Int} {f : Frag} {lo hi : Int} (h : atomP alt s = some (f, t)) (ht : repP t = some (some (lo, hi), r)) : itemP alt s = some (repF f lo hi, r) := by
  unfold itemP
  rw [h]
  simp only
  rw [ht]
  rfl
theorem item_bad {alt : List Int → Res Frag} {s t : List Int} {f : Frag} (h : atomP alt s = some (f, t)) (ht : repP t = none) : itemP alt s = none := by
  unfold itemP
  rw [h]
  simp only
  rw [ht]
theorem row_more {alt : List Int → Res Frag} {k : Nat} {c : Int} {s r r' : List Int} {f : Frag} {fs : List Frag} (hc : ¬ (c = 124 ∨ c = 41)) (h : itemP alt (c :: s) = some (f, r)) (h' : rowL alt k r = some (fs, r')) : rowL alt (k + 1) (c :: s) = some (f :: fs, r') := by
  unfold rowL
  rw [if_neg hc]
  simp only
  rw [h]
  simp only
  rw [h']
theorem row_bad {alt : List Int → Res Frag} {k : Nat} {c : Int} {s : List Int} (hc : ¬ (c = 124 ∨ c = 41)) (h : itemP alt (c :: s) = none) : rowL alt (k + 1) (c :: s) = none := by
  unfold rowL
  rw [if_neg hc]
  simp only
  rw [h]
theorem row_bad2 {alt : List Int → Res Frag} {k : Nat} {c : Int} {s r : List Int} {f : Frag} (hc : ¬ (c = 124 ∨ c = 41)) (h : itemP alt (c :: s) = some (f, r)) (h' : rowL alt k r = none) : rowL alt (k + 1) (c :: s) = none := by
  unfold rowL
  rw [if_neg hc]
  simp only
  rw [h]
  simp only
  rw [h']
theorem row_nil (alt : List Int → Res Frag) (k : Nat) : rowL alt k [] = some ([], []) := by cases k <;> rfl
theorem alt_row {alt : List Int → Res Frag} {s : List Int} {f : Frag} (h : rowP alt s = some (f, [])) : altB alt s = some (f, []) := by
  unfold altB
  have : altL alt s.length s = some ([f], []) := by
    unfold altL
    rw [h]
    rfl
  rw [this]
  rfl
theorem pat_row {s : List Int} {f : Frag} (h : rowP (altN s.length) s = some (f, [])) : patP s = some f := pat_of (alt_row h)
theorem pat_bad {s : List Int} (h : rowP (altN s.length) s = none) : patP s = none := by
  unfold patP
  have : altN (s.length + 1) s = none := by
    show altB _ _ = none
    unfold altB altL
    rw [h]
  rw [this]
theorem pat_par {s : List Int} {f : Frag} (h : patP s = some f) : patP (40 :: (s ++ [41])) = some (upF f) := by
  refine pat_row ?_
  have hl : (40 :: (s ++ [41])).length = s.length + 2 := by simp
  unfold rowP
  rw [hl, row_more (by decide) (item_none (par_pat (t := []) h (by omega)) noRep_nil) (row_nil _ _)]
  rfl
/-- The node of a row or an alternative of two. -/
def twoN (kind : Int) (a b : Nat) : Nd := ⟨kind, [a - 1, a + b - 1], 0, 0, []⟩
theorem many_two (kind : Int) (f g : Frag) : manyP kind [f, g] = ⟨f.nodes ++ mv f.nodes.length g.nodes ++ [twoN kind f.nodes.length g.nodes.length], max f.deep g.deep⟩ := by
  show (⟨catN [f, g] ++ [⟨kind, rootsN 0 [f, g], 0, 0, []⟩], deepF [f, g]⟩ : Frag) = _
  have e1 : catN [f, g] = f.nodes ++ mv f.nodes.length g.nodes := by simp [catN, mv]
  have e2 : rootsN 0 [f, g] = [f.nodes.length - 1, f.nodes.length + g.nodes.length - 1] := by simp [rootsN]
  have e3 : deepF [f, g] = max f.deep g.deep := by simp [deepF]
  rw [e1, e2, e3]
  rfl
theorem pat_two {s t : List Int} {f g : Frag} (h : patP s = some f) (h' : patP t = some g) : patP (40 :: (s ++ 41 :: 40 :: (t ++ [41]))) = some (manyP 3 [upF f, upF g]) := by
  refine pat_row ?_
  have hl : (40 :: (s ++ 41 :: 40 :: (t ++ [41]))).length = s.length + t.length + 2 + 1 + 1 := by simp; omega
  unfold rowP
  rw [hl, row_more (by decide) (item_none (par_pat h (by omega)) (noRep_cons _ (by decide) (by decide) (by decide) (by decide))) (row_more (by decide) (item_none (par_pat (t := []) h' (by omega)) noRep_nil) (row_nil _ _))]
  rfl
theorem pat_rep {s t : List Int} {f : Frag} {lo hi : Int} (h : patP s = some f) (ht : repP t = some (some (lo, hi), [])) : patP (40 :: (s ++ 41 :: t)) = some (repF (upF f) lo hi) := by
  refine pat_row ?_
  have hl : (40 :: (s ++ 41 :: t)).length = s.length + t.length + 1 + 1 := by simp; omega
  unfold rowP
  rw [hl, row_more (by decide) (item_some (par_pat h (by omega)) ht) (row_nil _ _)]
  rfl
theorem pat_rep_bad {s t : List Int} {f : Frag} (h : patP s = some f) (ht : repP t = none) : patP (40 :: (s ++ 41 :: t)) = none := by
  refine pat_bad ?_
  have hl : (40 :: (s ++ 41 :: t)).length = s.length + t.length + 1 + 1 := by simp; omega
  unfold rowP
  rw [hl, row_bad (by decide) (item_bad (par_pat h (by omega)) ht)]
theorem star_bad {alt : List Int → Res Frag} (r : List Int) : itemP alt (42 :: r) = none := by
  unfold itemP
  have : atomP alt (42 :: r) = none := by
    simp only [atomP]
    simp [special]
  rw [this]
theorem pat_rep_star {s t : List Int} {f : Frag} {lo hi : Int} (h : patP s = some f) (ht : repP t = some (some (lo, hi), [])) (hne : t ≠ []) : patP (40 :: (s ++ 41 :: (t ++ [42]))) = none := by
  refine pat_bad ?_
  have hl : (40 :: (s ++ 41 :: (t ++ [42]))).length = s.length + t.length + 1 + 1 + 1 := by simp; omega
  have ht' := rep_holds (t := [42]) ht (.inl hne)
  unfold rowP
  rw [hl, row_bad2 (by decide) (item_some (par_pat h (by omega)) ht') (row_bad (by decide) (star_bad []))]
/-- A pattern whose root is no alternative is a row. -/
theorem pat_is_row {s : List Int} {f : Frag} (h : patP s = some f) (hk : ∀ n, f.nodes.getLast? = some n → n.kind ≠ 4) : rowP (altN s.length) s = some (f, []) := by
  have h1 := pat_alt h
  have h2 : altB (altN s.length) s = some (f, []) := h1
  unfold altB at h2
  split at h2
  · cases h2
  · rename_i fs r e
    cases h2
    unfold altL at e
    split at e
    · cases e
    · rename_i g r1 e1
      split at e
      · cases e
        exact e1
      · rename_i r2 e2
        split at e
        · cases e
        · split at e
          · cases e
          · rename_i gs r3 e3
            cases e
            have hne : gs ≠ [] := (alt_parts (fun s f r h => altN_part _ s f r h) _ _ _ _ e3).2
            cases gs with
            | nil => exact absurd rfl hne
            | cons g' gs =>
              refine absurd rfl (hk ⟨4, rootsN 0 (g :: g' :: gs), 0, 0, []⟩ ?_)
              show (catN _ ++ [_]).getLast? = _
              rw [List.getLast?_append]
              rfl
theorem pat_or {s t : List Int} {f g : Frag} (h : patP s = some f) (h' : patP t = some g) (hf : ∀ n, f.nodes.getLast? = some n → n.kind ≠ 4) (hg : ∀ n, g.nodes.getLast? = some n → n.kind ≠ 4) : patP (s ++ 124 :: t) = some (manyP 4 [f, g]) := by
  have h1 := pat_is_row h hf
  have h2 := pat_is_row h' hg
  have ha : ∀ k, k ≤ (s ++ 124 :: t).length → Holds (altN k) (altN (s ++ 124 :: t).length) fun _ => False := fun k hk s z r t h ht => altN_holds _ _ hk s z r t h (ht.imp_right False.elim)
  have h3 := rowP_holds (ha s.length (by simp)) _ _ _ (124 :: t) h1 (.inr (.inr ⟨t, .inl rfl⟩))
  have h4 := rowP_holds (ha t.length (by simp; omega)) _ _ _ [] h2 (.inr (.inl rfl))
  rw [List.append_nil, List.append_nil] at h4
  rw [List.nil_append] at h3
  refine pat_of ?_
  show altB _ _ = _
  unfold altB
  have hl : (s ++ 124 :: t).length = s.length + t.length + 1 := by simp; omega
  have e : altL (altN (s ++ 124 :: t).length) (s ++ 124 :: t).length (s ++ 124 :: t) = some ([f, g], []) := by
    have e2 : ∀ k, altL (altN (s ++ 124 :: t).length) k t = some ([g], []) := fun k => by
      unfold altL
      rw [h4]
      rfl
    rw [show altL (altN (s ++ 124 :: t).length) (s ++ 124 :: t).length (s ++ 124 :: t) = altL (altN (s ++ 124 :: t).length) (s.length + t.length + 1) (s ++ 124 :: t) by rw [hl]]
    unfold altL
    rw [h3]
    simp only [nextP, if_pos]
    rw [e2]
  rw [e]
end Go.Proofs.YthmhmckkkceclaaDoor
/-
  A tree has one kid less than nodes.
-/
namespace Go.Proofs.YthmhmckkkceclaaDoor
open Go.RowKit
def sumK (l : List Nd) : Nat := (l.map fun n => n.kids.length).sum
def TK (f : Frag) : Prop := sumK f.nodes + 1 = f.nodes.length
theorem tk_leaf (kind : Int) (set : List Int) : TK (leaf kind set) := rfl
theorem tk_rep {f : Frag} (h : TK f) (lo hi : Int) : TK (repF f lo hi) := by
  unfold TK at *
  show sumK (f.nodes ++ [_]) + 1 = (f.nodes ++ [_]).length
  unfold sumK at *
  rw [List.map_append, List.sum_append, List.length_append]
  simp
  omega
theorem tk_setF {x : Res (List Int)} {f : Frag} {r : List Int} (h : setF x = some (f, r)) : TK f := by
  unfold setF at h
  split at h
  · cases h
  · cases h
    exact tk_leaf _ _
section
variable {alt : List Int → Res Frag}
theorem sumK_app (a b : List Nd) : sumK (a ++ b) = sumK a + sumK b := by
  unfold sumK
  rw [List.map_append, List.sum_append]
theorem sumK_mv (k : Nat) (a : List Nd) : sumK (mv k a) = sumK a := by
  unfold sumK mv
  rw [List.map_map]
  congr 1
  exact List.map_congr_left fun n _ => by
    show (n.mv k).kids.length = _
    unfold Nd.mv
    simp
theorem tk_cat : ∀ (fs : List Frag), (∀ f ∈ fs, TK f) → sumK (catN fs) + fs.length = (catN fs).length
  | [], _ => rfl
  | f :: fs, h => by
    have h1 := h f (by simp)
    have h2 := tk_cat fs fun g hg => h g (by simp [hg])
    unfold TK at h1
    show sumK (f.nodes ++ mv f.nodes.length (catN fs)) + (fs.length + 1) = (f.nodes ++ mv f.nodes.length (catN fs)).length
    rw [sumK_app, sumK_mv, List.length_append, mv_length]
    omega
theorem tk_many (kind : Int) (fs : List Frag) (h : ∀ f ∈ fs, TK f) : TK (manyP kind fs) := by
  have hg : fs.length ≠ 1 → TK ⟨catN fs ++ [⟨kind, rootsN 0 fs, 0, 0, []⟩], deepF fs⟩ := fun _ => by
    have h1 := tk_cat fs h
    unfold TK
    simp only
    rw [sumK_app, List.length_append]
    show sumK (catN fs) + ((rootsN 0 fs).length + 0) + 1 = _
    rw [rootsN_len]
    simp
    omega
  match fs, h, hg with
  | [], _, hg => exact hg (by simp)
  | [f], h, _ => exact h f (by simp)
  | f :: g :: fs, _, hg => exact hg (by simp)
theorem tk_item (hp : ∀ s f r, alt s = some (f, r) → TK f) {s : List Int} {f : Frag} {r : List Int} (h : itemP alt s = some (f, r)) : TK f := by
  unfold itemP at h
  split at h
  · cases h
  · rename_i g r1 e
    have hg : TK g := by
      cases s with
      | nil => cases e
      | cons c s =>
        simp only [atomP] at e
        split at e
        · unfold parP at e
          split at e
          · cases e
          · rename_i e2
            split at e
            · cases e
            · cases e
              exact (hp _ _ _ e2 : TK _)
        · split at e
          · exact tk_setF e
          · split at e
            · cases e; exact tk_leaf _ _
            · split at e
              · cases e; exact tk_leaf _ _
              · split at e
                · cases e; exact tk_leaf _ _
                · split at e
                  · exact tk_setF e
                  · split at e
                    · cases e
                    · cases e; exact tk_leaf _ _
    split at h
    · cases h
    · rename_i x r2 e2
      cases h
      cases x with
      | none => exact hg
      | some x =>
        obtain ⟨lo, hi⟩ := x
        exact tk_rep hg lo hi
theorem tk_rowL (hp : ∀ s f r, alt s = some (f, r) → TK f) (k : Nat) : ∀ s fs r, rowL alt k s = some (fs, r) → ∀ f ∈ fs, TK f := by
  induction k with
  | zero =>
    intro s fs r h
    cases s with
    | nil => cases h; simp
    | cons c s =>
      unfold rowL at h
      split at h
      · cases h; simp
      · cases h
  | succ k ih =>
    intro s fs r h
    cases s with
    | nil => cases h; simp
    | cons c s =>
      unfold rowL at h
      split at h
      · cases h; simp
      · simp only at h
        split at h
        · cases h
        · rename_i e
          split at h
          · cases h
          · rename_i e2
            cases h
            intro g hg
            rcases List.mem_cons.1 hg with rfl | hg
            · exact tk_item hp e
            · exact ih _ _ _ e2 g hg
theorem tk_rowP (hp : ∀ s f r, alt s = some (f, r) → TK f) {s : List Int} {f : Frag} {r : List Int} (h : rowP alt s = some (f, r)) : TK f := by
  unfold rowP at h
  split at h
  · cases h
  · rename_i fs r1 e
    cases h
    have h1 := tk_rowL hp _ _ _ _ e
    match fs, h1 with
    | [], _ => exact tk_leaf _ _
    | g :: gs, h1 => exact tk_many _ _ h1
theorem tk_altL (hp : ∀ s f r, alt s = some (f, r) → TK f) (k : Nat) : ∀ s fs r, altL alt k s = some (fs, r) → ∀ f ∈ fs, TK f := by
  have one : ∀ {f : Frag}, TK f → ∀ g ∈ [f], TK g := fun h g hg => by
    rw [List.mem_singleton.1 hg]
    exact h
  induction k with
  | zero =>
    intro s fs r h
    unfold altL at h
    split at h
    · cases h
    · rename_i e
      split at h
      · cases h
        exact one (tk_rowP hp e)
      · cases h
  | succ k ih =>
    intro s fs r h
    unfold altL at h
    split at h
    · cases h
    · rename_i e
      split at h
      · cases h
        exact one (tk_rowP hp e)
      · simp only at h
        split at h
        · cases h
        · rename_i e2
          cases h
          intro g hg
          rcases List.mem_cons.1 hg with rfl | hg
          · exact tk_rowP hp e
          · exact ih _ _ _ e2 g hg
end
theorem tk_altN (n : Nat) : ∀ s f r, altN n s = some (f, r) → TK f := by
  induction n with
  | zero => intro s f r h; cases h
  | succ n ih =>
    intro s f r h
    have h' : altB (altN n) s = some (f, r) := h
    unfold altB at h'
    split at h'
    · cases h'
    · rename_i e
      cases h'
      exact tk_many _ _ (tk_altL ih _ _ _ _ e)
theorem sum_le {l : List Nat} {n : Nat} (h : n ∈ l) : n ≤ l.sum := by
  induction l with
  | nil => cases h
  | cons a l ih =>
    rw [List.sum_cons]
    rcases List.mem_cons.1 h with rfl | h
    · omega
    · have := ih h
      omega
theorem kids_few {f : Frag} (h : TK f) {n : Nd} (hn : n ∈ f.nodes) : n.kids.length ≤ f.nodes.length := by
  have h1 : n.kids.length ≤ sumK f.nodes := sum_le (List.mem_map.2 ⟨n, hn, rfl⟩)
  unfold TK at h
  omega
end Go.Proofs.YthmhmckkkceclaaDoor
/-
  What Parse answers of texts laid together: plain.
-/
namespace Go.Proofs.YthmhmckkkceclaaDoor
open Go.RowKit
theorem app_listR (a b : ByteArray) : (a ++ b).data.toList = a.data.toList ++ b.data.toList := by
  simp [ByteArray.data_append]
theorem runesZ_app (a b : ByteArray) (h : Lib.validD a.data.toList = true) : runesZ (a ++ b) = runesZ a ++ runesZ b := by
  unfold runesZ
  rw [app_listR, runes_append _ _ h, List.map_append]
theorem valid_app (a b : ByteArray) (h : Lib.validD a.data.toList = true) : Lib.validD (a ++ b).data.toList = Lib.validD b.data.toList := by
  rw [app_listR, valid_append _ _ h]
theorem parse_long {s : ByteArray} (h : 128 < s.size) : parseE s = 4 := by unfold parseE; rw [if_pos h]
theorem parse_ok {s : ByteArray} (h : parseE s = 0) : s.size ≤ 128 ∧ Lib.validD s.data.toList = true ∧ ∃ f, patP (runesZ s) = some f ∧ f.deep ≤ 16 ∧ sizeP f.nodes ≤ 1000 ∧ parseL s = f.nodes ∧ f.nodes ≠ [] ∧ NLim f.nodes := by
  have h0 := h
  unfold parseE at h
  by_cases h1 : 128 < s.size
  · rw [if_pos h1] at h
    cases h
  rw [if_neg h1] at h
  cases hv : Lib.validD s.data.toList with
  | false =>
    rw [hv] at h
    cases h
  | true =>
    rw [hv] at h
    replace h : treeE (runesZ s) = 0 := h
    refine ⟨by omega, rfl, ?_⟩
    cases hp : patP (runesZ s) with
    | none =>
      rw [treeE_none hp] at h
      cases h
    | some f =>
      have h2 := h
      rw [treeE_some hp] at h
      by_cases h3 : 16 < f.deep
      · rw [if_pos h3] at h
        cases h
      rw [if_neg h3] at h
      by_cases h4 : 1000 < sizeP f.nodes
      · rw [if_pos h4] at h
        cases h
      have ha := pat_alt hp
      refine ⟨f, rfl, by omega, by omega, ?_, (altN_part _ _ _ _ ha).some, lim_altN _ _ _ _ ha⟩
      unfold parseL
      rw [if_pos h0, treeL_some hp h2]
theorem parse_of {s : ByteArray} {f : Frag} (hs : s.size ≤ 128) (hv : Lib.validD s.data.toList = true) (hp : patP (runesZ s) = some f) : parseE s = (if 16 < f.deep then 9 else if 1000 < sizeP f.nodes then 3 else 0) ∧ (parseE s = 0 → parseL s = f.nodes) := by
  have e : parseE s = treeE (runesZ s) := by
    unfold parseE
    rw [if_neg (by omega), if_neg (by rw [hv]; decide)]
  refine ⟨by rw [e, treeE_some hp], fun h => ?_⟩
  unfold parseL
  rw [if_pos h, treeL_some hp (by rw [← e]; exact h)]
theorem parse_none {s : ByteArray} (hs : s.size ≤ 128) (hv : Lib.validD s.data.toList = true) (hp : patP (runesZ s) = none) : parseE s = 40 := by
  unfold parseE
  rw [if_neg (by omega), if_neg (by rw [hv]; decide), treeE_none hp]
theorem tree_small {s : ByteArray} (h : parseE s = 0) : parseL s ≠ [] ∧ (parseL s).length ≤ 600 ∧ (∀ n ∈ parseL s, n.kids.length ≤ 600 ∧ ∀ k ∈ n.kids, k ≤ 600) := by
  obtain ⟨hs, -, f, hp, -, -, hl, hne, -⟩ := parse_ok h
  have ha := pat_alt hp
  have hpt := altN_part _ _ _ _ ha
  have htk := tk_altN _ _ _ _ ha
  have hrl := runesZ_len s
  have hfew := hpt.few
  simp only [List.length_nil] at hfew
  have hlen : f.nodes.length ≤ 600 := by omega
  rw [hl]
  refine ⟨hne, hlen, fun n hn => ⟨Nat.le_trans (kids_few htk hn) hlen, fun k hk => ?_⟩⟩
  obtain ⟨i, hi, e⟩ := List.getElem_of_mem hn
  have := hpt.wf i n (by rw [List.getElem?_eq_getElem hi, e]) k hk
  omega
theorem par_at (x : ByteArray) (E : Int) (L : List Nd) (W : World) (hE : parseE x = E) (hL : parseL x = L) (hT : Tabs W) (hx : x.size ≤ maxLen) :
    Calls Tryd.prog 9 #[.string x] W fun e w' => ∃ v Z, e = .returned (.tuple #[v, .int .i64 E]) ∧ NOwn w' W.heap.size v Z ∧ Z.map Prod.fst = L ∧ Below W.heap.size W w' := by
  subst hE
  subst hL
  exact par_Parse x W hT hx
def txtPar : ByteArray := ⟨#[40]⟩
def txtRap : ByteArray := ⟨#[41]⟩
def txtMid : ByteArray := ⟨#[41, 40]⟩
def txtOr : ByteArray := ⟨#[124]⟩
theorem txt_vals : (Lib.validD txtPar.data.toList = true ∧ runesZ txtPar = [40]) ∧ (Lib.validD txtRap.data.toList = true ∧ runesZ txtRap = [41]) ∧ (Lib.validD txtMid.data.toList = true ∧ runesZ txtMid = [41, 40]) ∧ (Lib.validD txtOr.data.toList = true ∧ runesZ txtOr = [124]) := by decide +kernel
/-- A pattern in parentheses. -/
theorem parse_par {s : ByteArray} (h : parseE s = 0) : (parseE (txtPar ++ s ++ txtRap) = 0 ∧ parseL (txtPar ++ s ++ txtRap) = parseL s) ∨ parseE (txtPar ++ s ++ txtRap) = 4 ∨ parseE (txtPar ++ s ++ txtRap) = 9 := by
  obtain ⟨hs, hv, f, hp, hd, hz, hl, hne, -⟩ := parse_ok h
  obtain ⟨⟨v1, r1⟩, ⟨v2, r2⟩, -, -⟩ := txt_vals
  have hv1 : Lib.validD (txtPar ++ s).data.toList = true := by rw [valid_app _ _ v1]; exact hv
  have hv2 : Lib.validD (txtPar ++ s ++ txtRap).data.toList = true := by rw [valid_app _ _ hv1]; exact v2
  have hr : runesZ (txtPar ++ s ++ txtRap) = 40 :: (runesZ s ++ [41]) := by
    rw [runesZ_app _ _ hv1, runesZ_app _ _ v1, r1, r2]
    rfl
  by_cases hsz : 128 < (txtPar ++ s ++ txtRap).size
  · exact .inr (.inl (parse_long hsz))
  have hp2 := pat_par hp
  rw [← hr] at hp2
  obtain ⟨e1, e2⟩ := parse_of (by omega) hv2 hp2
  by_cases hd2 : 16 < (upF f).deep
  · rw [if_pos hd2] at e1
    exact .inr (.inr e1)
  · rw [if_neg hd2, if_neg (show ¬ 1000 < sizeP (upF f).nodes by show ¬ 1000 < sizeP f.nodes; omega)] at e1
    exact .inl ⟨e1, by rw [e2 e1, hl]; rfl⟩
/-- Two in parentheses behind one another. -/
theorem parse_two {s t : ByteArray} (h : parseE s = 0) (h' : parseE t = 0) : (parseE (txtPar ++ s ++ txtMid ++ t ++ txtRap) = 0 ∧ parseL (txtPar ++ s ++ txtMid ++ t ++ txtRap) = parseL s ++ mv (parseL s).length (parseL t) ++ [twoN 3 (parseL s).length (parseL t).length]) ∨
    parseE (txtPar ++ s ++ txtMid ++ t ++ txtRap) = 4 ∨ parseE (txtPar ++ s ++ txtMid ++ t ++ txtRap) = 9 ∨ parseE (txtPar ++ s ++ txtMid ++ t ++ txtRap) = 3 := by
  obtain ⟨hs, hv, f, hp, hd, hz, hl, hne, -⟩ := parse_ok h
  obtain ⟨hs', hv', g, hp', hd', hz', hl', hne', -⟩ := parse_ok h'
  obtain ⟨⟨v1, r1⟩, ⟨v2, r2⟩, ⟨v3, r3⟩, -⟩ := txt_vals
  have w1 : Lib.validD (txtPar ++ s).data.toList = true := by rw [valid_app _ _ v1]; exact hv
  have w2 : Lib.validD (txtPar ++ s ++ txtMid).data.toList = true := by rw [valid_app _ _ w1]; exact v3
  have w3 : Lib.validD (txtPar ++ s ++ txtMid ++ t).data.toList = true := by rw [valid_app _ _ w2]; exact hv'
  have w4 : Lib.validD (txtPar ++ s ++ txtMid ++ t ++ txtRap).data.toList = true := by rw [valid_app _ _ w3]; exact v2
  have hr : runesZ (txtPar ++ s ++ txtMid ++ t ++ txtRap) = 40 :: (runesZ s ++ 41 :: 40 :: (runesZ t ++ [41])) := by
    rw [runesZ_app _ _ w3, runesZ_app _ _ w2, runesZ_app _ _ w1, runesZ_app _ _ v1, r1, r2, r3]
    simp
  by_cases hsz : 128 < (txtPar ++ s ++ txtMid ++ t ++ txtRap).size
  · exact .inr (.inl (parse_long hsz))
  have hp2 := pat_two hp hp'
  rw [← hr] at hp2
  obtain ⟨e1, e2⟩ := parse_of (by omega) w4 hp2
  by_cases hd2 : 16 < (manyP 3 [upF f, upF g]).deep
  · rw [if_pos hd2] at e1
    exact .inr (.inr (.inl e1))
  rw [if_neg hd2] at e1
  by_cases hz2 : 1000 < sizeP (manyP 3 [upF f, upF g]).nodes
  · rw [if_pos hz2] at e1
    exact .inr (.inr (.inr e1))
  rw [if_neg hz2] at e1
  refine .inl ⟨e1, ?_⟩
  rw [e2 e1, many_two, hl, hl']
  rfl
/-- Two with | between them. -/
theorem parse_or {s t : ByteArray} (h : parseE s = 0) (h' : parseE t = 0) (hk : ∀ n, (parseL s).getLast? = some n → n.kind ≠ 4) (hk' : ∀ n, (parseL t).getLast? = some n → n.kind ≠ 4) :
    (parseE (s ++ txtOr ++ t) = 0 ∧ parseL (s ++ txtOr ++ t) = parseL s ++ mv (parseL s).length (parseL t) ++ [twoN 4 (parseL s).length (parseL t).length]) ∨ parseE (s ++ txtOr ++ t) = 4 ∨ parseE (s ++ txtOr ++ t) = 3 := by
  obtain ⟨hs, hv, f, hp, hd, hz, hl, hne, -⟩ := parse_ok h
  obtain ⟨hs', hv', g, hp', hd', hz', hl', hne', -⟩ := parse_ok h'
  obtain ⟨-, -, -, v1, r1⟩ := txt_vals
  have w1 : Lib.validD (s ++ txtOr).data.toList = true := by rw [valid_app _ _ hv]; exact v1
  have w2 : Lib.validD (s ++ txtOr ++ t).data.toList = true := by rw [valid_app _ _ w1]; exact hv'
  have hr : runesZ (s ++ txtOr ++ t) = runesZ s ++ 124 :: runesZ t := by
    rw [runesZ_app _ _ w1, runesZ_app _ _ hv, r1]
    simp
  by_cases hsz : 128 < (s ++ txtOr ++ t).size
  · exact .inr (.inl (parse_long hsz))
  rw [hl] at hk
  rw [hl'] at hk'
  have hp2 := pat_or hp hp' hk hk'
  rw [← hr] at hp2
  obtain ⟨e1, e2⟩ := parse_of (by omega) w2 hp2
  have hd2 : ¬ 16 < (manyP 4 [f, g]).deep := by
    rw [many_two]
    show ¬ 16 < max f.deep g.deep
    omega
  rw [if_neg hd2] at e1
  by_cases hz2 : 1000 < sizeP (manyP 4 [f, g]).nodes
  · rw [if_pos hz2] at e1
    exact .inr (.inr e1)
  rw [if_neg hz2] at e1
  refine .inl ⟨e1, ?_⟩
  rw [e2 e1, many_two, hl, hl']
end Go.Proofs.YthmhmckkkceclaaDoor
/-
  The law's moved: a tree whose kids are so much further on.
-/
namespace Go.Proofs.YthmhmckkkceclaaDoor
open Go.RowKit
def mObj (n : Nd) (kv tv : Value) : Obj := .cells #[.int .i64 n.kind, kv, .int .i64 n.lo, .int .i64 n.hi, tv] 33 (0, 0)
set_option maxRecDepth 100000 in
set_option maxHeartbeats 20000000 in
theorem law_moved (B : Nat) (v : Value) (Z : List NdL) (by' : Nat) (w : World) (h : NOwn w B v Z) (hB : B ≤ w.heap.size) (hl : Z.length ≤ 100000) (hby : by' ≤ 100000) (hk : ∀ z ∈ Z, z.1.kids.length ≤ 100000 ∧ ∀ k ∈ z.1.kids, k ≤ 100000) :
    Calls Tryd.prog 12 #[v, .int .i64 (by' : Int)] w fun e w' => ∃ v' Z', e = .returned v' ∧ NOwn w' B v' Z' ∧ Z'.map Prod.fst = mv by' (Z.map Prod.fst) ∧ Below w.heap.size w w' := by
  obtain ⟨va, vc, rfl⟩ := owns_slice h.own
  have H := Lib.hid h
  have HK := Lib.hid hk
  obtain ⟨m, hm⟩ : ∃ m, Z.length = m := ⟨_, rfl⟩
  have HM := Lib.hid hm
  rw [hm] at hl ⊢
  clear h hk hm
  go_enter Tryd.func12, Tryd.ntmps12
  go_wp2_with fail
  go_loopw [5, 6, 7, 8] (fun ov iv nv kv wr => ∃ (i : Nat) (Y : List NdL), i ≤ m ∧ iv = .int .i64 (i : Int) ∧ NOwn wr B ov Y ∧ wr.ownsRow w.heap.size 33 5 ov Y.length (ndsCells Y) ∧ Y.map Prod.fst = mv by' ((Z.take i).map Prod.fst) ∧ Below w.heap.size w wr) (fun _ iv _ _ _ => m - (intOf iv).toNat)
  case atStart => exact ⟨0, [], by omega, rfl, NOwn.nil _ _, World.ownsRow_nil _ _ _ _, rfl, Below.refl _ _⟩
  case round =>
    obtain ⟨i, Y, hi, rfl, hown, hor, hY, hbr⟩ := hrel
    obtain ⟨oa, oc, rfl⟩ := owns_slice hown.own
    have hszr := hbr.size
    by_cases hlt : i < m
    · have hiz : i < Z.length := by rw [HM.out]; exact hlt
      obtain ⟨g, c, he, hcell⟩ := nds_at H.out hiz
      rw [HM.out] at he
      cases he
      obtain ⟨d0, d1, d2, d3, d4⟩ := hcell wr hbr
      have hnd : NdAt wr B Z[i] := ⟨own_keptX (H.out.parts _ (List.getElem_mem hiz)).1 (grown_of_below hbr none) (fun k hk => by cases hk), own_keptX (H.out.parts _ (List.getElem_mem hiz)).2 (grown_of_below hbr none) (fun k hk => by cases hk)⟩
      have hkz := HK.out Z[i] (List.getElem_mem hiz)
      have hft : (Z.take (i + 1)).map Prod.fst = (Z.take i).map Prod.fst ++ [Z[i].1] := by rw [List.take_succ_eq_append_getElem hiz, List.map_append]; rfl
      have hYl : Y.length = i := by
        have := congrArg List.length hY
        rw [mv_length, List.length_map, List.length_map, List.length_take] at this
        omega
      obtain ⟨⟨n, kv, tv⟩, hzz⟩ : ∃ z, Z[i] = z := ⟨_, rfl⟩
      rw [hzz] at hnd hft hkz d0 d1 d2 d3 d4
      simp only at hnd hft hkz d0 d1 d2 d3 d4
      obtain ⟨ka, kc, rfl⟩ : ∃ a c, kv = .slice a n.kids.length c := owns_slice hnd.1
      obtain ⟨ta, tc, rfl⟩ : ∃ a c, tv = .slice a n.set.length c := owns_slice hnd.2
      have HND := Lib.hid hnd
      have HFT := Lib.hid hft
      have HYY := Lib.hid hY
      have HYL := Lib.hid hYl
      have HOWN := Lib.hid hown
      have HOR := Lib.hid hor
      have HBR := Lib.hid hbr
      obtain ⟨hkl, hkb⟩ := hkz
      have HKB := Lib.hid hkb
      clear hnd hft hY hYl hzz hcell hown hor hbr hkb
      have hYle : Y.length ≤ i := Nat.le_of_eq HYL.out
      obtain ⟨kn, hkn⟩ : ∃ kn, n.kids.length = kn := ⟨_, rfl⟩
      obtain ⟨tn, htn⟩ : ∃ kn, n.set.length = kn := ⟨_, rfl⟩
      rw [hkn] at hkl d1
      rw [htn] at d4
      have HKN := Lib.hid hkn
      have HTN := Lib.hid htn
      clear hkn htn
      have hglt : g < wr.heap.size := Nat.lt_of_lt_of_le (H.out.own.lt g rfl).2 hszr
      have HC := Lib.hid (fun W (hW : Below wr.heap.size wr W) => (hW.cell (p := ⟨g, i * 5 + 1, none⟩) hglt).trans d1)
      go_upto_region 7 with fail
      have hx1 := heap_alloc_new wr (mObj n (.slice none 0 0) (.slice ta tn tc))
      have hb1 := belowA' (o := mObj n (.slice none 0 0) (.slice ta tn tc)) (Below.refl wr.heap.size wr) (Nat.le_refl _)
      have e1 : (Obj.cells #[.int .i64 n.kind, .slice none 0 0, .int .i64 n.lo, .int .i64 n.hi, .slice ta tn tc] 33) = mObj n (.slice none 0 0) (.slice ta tn tc) := rfl
      rw [e1]
      have hs1 : (wr.alloc (mObj n (.slice none 0 0) (.slice ta tn tc))).heap.size = wr.heap.size + 1 := by simp
      generalize wr.alloc (mObj n (.slice none 0 0) (.slice ta tn tc)) = w1 at *
      clear e1 d0 d1 d2 d3 d4
      go_wp2_with fail
      obtain ⟨wo, hwo⟩ : ∃ wo : World, wo = wr := ⟨_, rfl⟩
      subst hwo
      obtain ⟨b, hb⟩ : ∃ b, wo.heap.size = b := ⟨_, rfl⟩
      rw [hb] at hx1 hb1 hs1 hglt hszr HC ⊢
      have HB0 := Lib.hid hb
      clear hb
      go_loopw [8] (fun jv wi => ∃ (j : Nat) (kv : Value), jv = .int .i64 (j : Int) ∧ j ≤ kn ∧ wi.heap[b]? = some (mObj n kv (.slice ta tn tc)) ∧ wi.ownsRow (b + 1) 3 1 kv j ((n.kids.take j).map fun k => iCell (k + by')) ∧ Below b wo wi) (fun jv _ => kn - (intOf jv).toNat)
      case atStart => exact ⟨0, .slice none 0 0, rfl, by omega, hx1, World.ownsRow_nil _ _ _ _, hb1⟩
      case round =>
        obtain ⟨j, kv, rfl, hj, hobj, hkv, hbi⟩ := hrel
        have hcb := HC.out wr hbi
        have hblt : b < wr.heap.size := (Array.getElem?_eq_some_iff.1 hobj).1
        by_cases hjk : j < kn
        · have hjn : j < n.kids.length := by rw [HKN.out]; exact hjk
          obtain ⟨kb, kc', hke, hkc⟩ := kid_at HND.out.1 hjn
          have hk1 := hkc wr (by rw [HB0.out]; exact hbi)
          rw [HKN.out] at hke
          cases hke
          have hkb := HKB.out _ (List.getElem_mem hjn)
          have htk : (n.kids.take (j + 1)).map (fun k => iCell (k + by')) = (n.kids.take j).map (fun k => iCell (k + by')) ++ [iCell (n.kids[j] + by')] := by rw [List.take_succ_eq_append_getElem hjn, List.map_append]; rfl
          obtain ⟨kk, hkk⟩ : ∃ kk, n.kids[j] = kk := ⟨_, rfl⟩
          rw [hkk] at hk1 hkb htk
          have HTK := Lib.hid htk
          have HKV := Lib.hid hkv
          have HBI := Lib.hid hbi
          have HOBJ := Lib.hid hobj
          have c1 : wr.cell? ⟨b, 1, none⟩ = some kv := by rw [Lib.cell_of_heap hobj]; rfl
          have f1 : wr.frozen? ⟨b, 1, none⟩ = false := Lib.frozen_of_heap hobj 1
          obtain ⟨va', vc', rfl⟩ := owns_slice hkv
          have y1 : IntKind.i64.wrap ((kk : Int) + (by' : Int)) = (kk : Int) + (by' : Int) := IntWalk.i64_in _ (by omega)
          have y2 : (0 : Int) ≤ (j : Int) := by omega
          have y3 : (j : Int) < (kn : Int) := by omega
          have y4 : (0 : Int) ≤ (i : Int) := by omega
          have y5 : (i : Int) < (m : Int) := by omega
          have HST := Lib.hid (fun w0 w9 (hb0 : Below wr.heap.size wr w0) (hgr : w0.grownBy w9 (Value.slice va' j vc').ownBlock) => (by
            have hne : (Value.slice va' j vc').ownBlock ≠ some b := fun e => by have := (HKV.out.lt b e).1; omega
            have h9 : w9.heap[b]? = some (mObj n (.slice va' j vc') (.slice ta tn tc)) := by rw [hgr.block b (Nat.lt_of_lt_of_le hblt hb0.size) (fun e => hne e.symm), hb0.block b hblt]; exact HOBJ.out
            exact ⟨h9, by rw [Lib.cell_of_heap h9]; rfl, Lib.frozen_of_heap h9 1⟩ : w9.heap[b]? = some (mObj n (.slice va' j vc') (.slice ta tn tc)) ∧ w9.cell? ⟨b, 1, none⟩ = some (.slice va' j vc') ∧ w9.frozen? ⟨b, 1, none⟩ = false))
          clear htk hkv hbi hobj hkk hkc
          go_upto_region 10 with fail
          go_region_law (go_loud (refine step_append_src rfl (.tmp 31) (.tmp 42) _ _ (by rfl) (b + 1) EIn _ j ((n.kids.take j).map fun k => iCell (k + by')) rfl (by (repeat (first | exact HKV.out | with_reducible refine World.ownsRow.alloc ?_ _ | with_reducible refine World.ownsRow.drew ?_)); done) _ 1 [.int .i64 ((kk : Int) + (by' : Int))] rfl (by first | exact src_last (cs := #[.int .i64 ((kk : Int) + (by' : Int))]) Tryd.underlying30 1 1 1 rfl rfl (by simp [Value.oneCell']) | exact src_new (cs := #[.int .i64 ((kk : Int) + (by' : Int))]) (t := 3) (fr := (0, 0)) Tryd.underlying30 1 1 1 (by exact heap_alloc_new wr _) rfl (by simp [Value.oneCell'])) (by unfold maxLen; omega) (by omega) (by simp; omega) ?_; intro v9 w9 hown9 hgr9 _ _; obtain ⟨a9, c9, rfl⟩ := owns_slice hown9; obtain ⟨z1, z2, z3⟩ := HST.out _ _ (by (repeat (first | assumption | with_reducible exact Below.refl _ _ | (with_reducible refine belowA' ?_ (by first | omega | (simp; done) | (simp; omega))) | with_reducible refine Below.drew ?_)); done) hgr9; have HZ1 := Lib.hid z1; clear z1))
          all_goals
            clear y1 y2 y3 y4 y5
            have H9 := Lib.hid (And.intro hown9 hgr9)
            clear hown9 hgr9
            go_wp2_with fail
            go_roundw
            case rel =>
              obtain ⟨hown9, hgr9⟩ := H9.out
              have hb9 : Below b wo _ := (HBI.out.trans (show Below b wr _ from (by (repeat (first | assumption | with_reducible exact Below.refl _ _ | (with_reducible refine belowA' ?_ (by first | omega | (simp; done) | (simp; omega))) | with_reducible refine Below.drew ?_)); done))).grown hgr9 (by simp; omega) (fun e he => by have := (HKV.out.lt e he).1; omega)
              refine ⟨j + 1, .slice a9 (j + 1) c9, by go_num, by omega, ?_, ?_, hb9.setCell (p := ⟨b, 1, none⟩) (Nat.le_refl _) _⟩
              · rw [heap_setCell_same _ _ _ _ _ _ HZ1.out]
                rfl
              · rw [HTK.out, show iCell (kk + by') = .int .i64 ((kk : Int) + (by' : Int)) by unfold iCell; congr 1]
                exact own_keptX hown9 (gset _ b 1 _) (fun k hk => by cases hk; omega)
            case measure => simp [intOf]; omega
        · obtain rfl : j = kn := by omega
          have hall : (n.kids.take j).map (fun k => iCell (k + by')) = ((n.mv by').kids).map iCell := by
            rw [← HKN.out, List.take_length]
            unfold Nd.mv
            rw [List.map_map]
            rfl
          rw [hall] at hkv
          have hd : decide ((j : Int) < (j : Int)) = false := decide_eq_false (by omega)
          obtain ⟨va', vc', rfl⟩ := owns_slice hkv
          have hown := HOWN.out.keptB (by rw [HB0.out]; exact hbi)
          have HKV := Lib.hid hkv
          have HBI := Lib.hid hbi
          have HN := Lib.hid hown
          have HN2 := Lib.hid (owns_below HOR.out (by rw [HB0.out]; exact hbi))
          have c0 : wr.cell? ⟨b, 0, none⟩ = some (.int .i64 n.kind) := by rw [Lib.cell_of_heap hobj]; rfl
          have c1 : wr.cell? ⟨b, 1, none⟩ = some (.slice va' j vc') := by rw [Lib.cell_of_heap hobj]; rfl
          have c2 : wr.cell? ⟨b, 2, none⟩ = some (.int .i64 n.lo) := by rw [Lib.cell_of_heap hobj]; rfl
          have c3 : wr.cell? ⟨b, 3, none⟩ = some (.int .i64 n.hi) := by rw [Lib.cell_of_heap hobj]; rfl
          have c4 : wr.cell? ⟨b, 4, none⟩ = some (.slice ta tn tc) := by rw [Lib.cell_of_heap hobj]; rfl
          clear hall hkv hbi hown hobj
          have hkl2 : (n.mv by').kids.length = j := by
            unfold Nd.mv
            rw [List.length_map, HKN.out]
          have hmk : ndCells (n.mv by', .slice va' j vc', .slice ta tn tc) = [.int .i64 n.kind, .slice va' j vc', .int .i64 n.lo, .int .i64 n.hi, .slice ta tn tc] := rfl
          have HMK := Lib.hid hmk
          have HKL2 := Lib.hid hkl2
          have hYb : Y.length ≤ 100000 := by omega
          clear hmk hkl2
          have hBb : B ≤ wr.heap.size := by omega
          go_wp2_with (at_builtin; go_loud (refine wpList_append_src rfl _ _ _ _ rfl w.heap.size ENd _ Y.length (ndsCells Y) rfl (HN2.out.alloc _) _ 1 [.int .i64 n.kind, .slice va' j vc', .int .i64 n.lo, .int .i64 n.hi, .slice ta tn tc] rfl (by exact src_last (cs := #[.int .i64 n.kind, .slice va' j vc', .int .i64 n.lo, .int .i64 n.hi, .slice ta tn tc]) Tryd.underlying23 1 1 5 rfl rfl (by simp [Value.oneCell'])) (by unfold maxLen; omega) (by omega) (by simp; omega) ?_); intro v9 w9 hown9 hgr9 _ _; have H9 := Lib.hid (And.intro hown9 hgr9); clear hown9 hgr9)
          go_roundw
          case rel =>
            obtain ⟨hown9, hgr9⟩ := H9.out
            have hbA := belowA' (o := .cells #[.int .i64 n.kind, .slice va' j vc', .int .i64 n.lo, .int .i64 n.hi, .slice ta tn tc] 33) (Below.refl wr.heap.size wr) (Nat.le_refl _)
            have hbw : Below wo.heap.size wo wr := by rw [HB0.out]; exact HBI.out
            have hna : NdAt (wr.alloc (.cells #[.int .i64 n.kind, .slice va' j vc', .int .i64 n.lo, .int .i64 n.hi, .slice ta tn tc] 33)) B (n.mv by', .slice va' j vc', .slice ta tn tc) := by
              refine ⟨?_, ?_⟩
              · have := owns_base (HKV.out.alloc (.cells #[.int .i64 n.kind, .slice va' j vc', .int .i64 n.lo, .int .i64 n.hi, .slice ta tn tc] 33)) (A := B) (by omega)
                rw [← HKL2.out] at this
                simp only
                rw [HKL2.out] at this ⊢
                exact this
              · have h1 := own_keptX HND.out.2 (grown_of_below hbw none) (fun k hk => by cases hk)
                have h2 := own_keptX h1 (grown_of_below hbA none) (fun k hk => by cases hk)
                simp only at h2
                rw [HTN.out] at h2
                have e : (n.mv by').set = n.set := rfl
                simp only
                rw [e, HTN.out]
                exact h2
            have hmore := (HN.out.keptB hbA).more hna hgr9 (by rw [HMK.out]; exact owns_base hown9 hB)
            have hball : Below w.heap.size w wr := HBR.out.trans (HBI.out.mono hszr)
            refine ⟨i + 1, Y ++ [(n.mv by', .slice va' j vc', .slice ta tn tc)], by omega, by go_num, hmore, by rw [ndsCells_append, show ndsCells [(n.mv by', Value.slice va' j vc', Value.slice ta tn tc)] = [.int .i64 n.kind, .slice va' j vc', .int .i64 n.lo, .int .i64 n.hi, .slice ta tn tc] from rfl, List.length_append]; exact hown9, ?_, ?_⟩
            · rw [List.map_append, HYY.out, HFT.out, mv_append]
              rfl
            · exact (hball.trans (hbA.mono hball.size)).grown hgr9 (by simp; have := hball.size; omega) (fun e he => (HN2.out.lt e he).1)
          case measure => simp [intOf]; omega
    · have hge : i = m := by omega
      subst hge
      rw [← HM.out, List.take_length] at hY
      have hd : decide ((i : Int) < (i : Int)) = false := decide_eq_false (by omega)
      go_wp2_with fail
      go_ret
      exact ⟨_, Y, rfl, hown, hY, hbr⟩
end Go.Proofs.YthmhmckkkceclaaDoor
/-
  RexpJoins' walk.
-/
namespace Go.Proofs.YthmhmckkkceclaaDoor
open Go.RowKit
theorem nds_one {w : World} {B : Nat} {Z : List NdL} (h : ∀ z ∈ Z, NdAt w B z) : ∀ u ∈ ndsCells Z, u.oneCell' = true := by
  intro u hu
  obtain ⟨z, hz, hu⟩ := List.mem_flatMap.1 hu
  obtain ⟨a, c, e1⟩ := owns_slice (h z hz).1
  obtain ⟨a', c', e2⟩ := owns_slice (h z hz).2
  unfold ndCells at hu
  rw [e1, e2] at hu
  simp only [List.mem_cons, List.mem_nil_iff, or_false] at hu
  rcases hu with rfl | rfl | rfl | rfl | rfl <;> rfl
theorem NOwn.app {w : World} {B : Nat} {v v' u : Value} {Z Z' : List NdL} {B' : Nat} (h : NOwn w B v Z) (h' : NOwn w B v' Z') (ho : w.ownsRow B' 33 5 u (Z.length + Z'.length) (ndsCells Z ++ ndsCells Z')) (hB : B ≤ B') : NOwn w B u (Z ++ Z') :=
  ⟨by rw [ndsCells_append, List.length_append]; exact owns_base ho hB, fun z hz => (List.mem_append.1 hz).elim (h.parts z) (h'.parts z)⟩
theorem NdAt.beside {w w' : World} {B B' n : Nat} {z : NdL} {v : Value} {xs : List Value} (h : NdAt w B z) (hv : w.ownsRow B' 33 5 v n xs) (hg : w.grownBy w' v.ownBlock) : NdAt w' B z :=
  ⟨h.1.kept hg (by
    cases hk : z.2.1.ownBlock with
    | none => exact .inl rfl
    | some j => exact .inr fun e => own_apartX h.1 hv (by decide) hk e.symm), h.2.kept hg (by
    cases hk : z.2.2.ownBlock with
    | none => exact .inl rfl
    | some j => exact .inr fun e => own_apartX h.2 hv (by decide) hk e.symm)⟩
theorem nds_set_last (Z : List NdL) (n : Nd) (kv tv : Value) (k : Nat) (hk : Z.length = k) (x : Int) : (ndsCells (Z ++ [(n, kv, tv)])).set (k * 5) (.int .i64 x) = ndsCells (Z ++ [({ n with kind := x }, kv, tv)]) := by
  rw [ndsCells_append, ndsCells_append, List.set_append_right _ _ (by rw [ndsCells_len, hk]; exact Nat.le_refl _), ndsCells_len, hk, Nat.sub_self]
  rfl
theorem last_kind {l : List Nd} (h : l ≠ []) (k : Int) : (∀ n, l.getLast? = some n → n.kind ≠ k) ↔ (l[l.length - 1]'(by have := List.length_pos_iff.2 h; omega)).kind ≠ k := by
  have hp := List.length_pos_iff.2 h
  rw [List.getLast?_eq_getElem?, List.getElem?_eq_getElem (by omega)]
  exact ⟨fun h => h _ rfl, fun h n e => by cases e; exact h⟩
set_option maxRecDepth 100000 in
set_option maxHeartbeats 40000000 in
theorem joins_walk (s t : ByteArray) (w : World) (hT : Tabs w) (hs : s.size ≤ 1048576) (ht : t.size ≤ 1048576) : Calls Tryd.prog 4 #[.string s, .string t] w fun e w' => e = .returned (.bool true) ∧ Below w.heap.size w w' := by
  have cA := law18_awake w hT
  have z1 : (txtPar ++ s ++ txtRap).size ≤ maxLen := by
    rw [ByteArray.size_append, ByteArray.size_append]
    show 1 + s.size + 1 ≤ _
    unfold maxLen
    omega
  have z2 : (txtPar ++ s ++ txtMid ++ t ++ txtRap).size ≤ maxLen := by
    rw [ByteArray.size_append, ByteArray.size_append, ByteArray.size_append, ByteArray.size_append]
    show 1 + s.size + 2 + t.size + 1 ≤ _
    unfold maxLen
    omega
  have z3 : (s ++ txtOr ++ t).size ≤ maxLen := by
    rw [ByteArray.size_append, ByteArray.size_append]
    show s.size + 1 + t.size ≤ _
    unfold maxLen
    omega
  have z4 : s.size ≤ maxLen := by unfold maxLen; omega
  have z5 : t.size ≤ maxLen := by unfold maxLen; omega
  have F1 := fun h => parse_par (s := s) h
  have F2 := fun h h' => parse_two (s := s) (t := t) h h'
  have F3 := fun h h' k k' => parse_or (s := s) (t := t) h h' k k'
  have F4 := fun h => tree_small (s := s) h
  have F5 := fun h => tree_small (s := t) h
  have F6 := sizes_of s
  have F7 := sizes_of t
  obtain ⟨E1, hE1⟩ : ∃ E, parseE s = E := ⟨_, rfl⟩
  obtain ⟨E2, hE2⟩ : ∃ E, parseE t = E := ⟨_, rfl⟩
  obtain ⟨E3, hE3⟩ : ∃ E, parseE (txtPar ++ s ++ txtRap) = E := ⟨_, rfl⟩
  obtain ⟨E4, hE4⟩ : ∃ E, parseE (txtPar ++ s ++ txtMid ++ t ++ txtRap) = E := ⟨_, rfl⟩
  obtain ⟨E5, hE5⟩ : ∃ E, parseE (s ++ txtOr ++ t) = E := ⟨_, rfl⟩
  obtain ⟨L1, hL1⟩ : ∃ E, parseL s = E := ⟨_, rfl⟩
  obtain ⟨L2, hL2⟩ : ∃ E, parseL t = E := ⟨_, rfl⟩
  obtain ⟨L3, hL3⟩ : ∃ E, parseL (txtPar ++ s ++ txtRap) = E := ⟨_, rfl⟩
  obtain ⟨L4, hL4⟩ : ∃ E, parseL (txtPar ++ s ++ txtMid ++ t ++ txtRap) = E := ⟨_, rfl⟩
  obtain ⟨L5, hL5⟩ : ∃ E, parseL (s ++ txtOr ++ t) = E := ⟨_, rfl⟩
  have C1 := Lib.hid (fun W (hW : Below w.heap.size w W) => par_at s E1 L1 W hE1 hL1 (Utf8Tabs_below hT hW) z4)
  have C2 := Lib.hid (fun W (hW : Below w.heap.size w W) => par_at t E2 L2 W hE2 hL2 (Utf8Tabs_below hT hW) z5)
  have C3 := Lib.hid (fun W (hW : Below w.heap.size w W) => par_at _ E3 L3 W hE3 hL3 (Utf8Tabs_below hT hW) z1)
  have C4 := Lib.hid (fun W (hW : Below w.heap.size w W) => par_at _ E4 L4 W hE4 hL4 (Utf8Tabs_below hT hW) z2)
  have C5 := Lib.hid (fun W (hW : Below w.heap.size w W) => par_at _ E5 L5 W hE5 hL5 (Utf8Tabs_below hT hW) z3)
  rw [hE1, hE3, hL1, hL3] at F1
  rw [hE1, hE2, hE4, hL1, hL2, hL4] at F2
  rw [hE1, hE2, hE5, hL1, hL2, hL5] at F3
  rw [hE1, hL1] at F4
  rw [hE2, hL2] at F5
  rw [hL1] at F6
  rw [hL2] at F7
  unfold txtPar txtRap at C3
  unfold txtPar txtRap txtMid at C4
  unfold txtOr at C5
  have HF1 := Lib.hid F1
  have HF2 := Lib.hid F2
  have HF3 := Lib.hid F3
  have HF4 := Lib.hid F4
  have HF5 := Lib.hid F5
  clear hE1 hE2 hE3 hE4 hE5 hL1 hL2 hL3 hL4 hL5 F1 F2 F3 F4 F5 hT z1 z2 z3 z4 z5
  have HS := Lib.hid (fun W B B' v v' Z Z' (h : NOwn W B v Z) (h' : NOwn W B' v' Z') (hz : Z.map Prod.fst = Z'.map Prod.fst) (hl : Z.length ≤ 100000) => ref_Same B B' v v' Z Z' W h h' hz hl)
  go_enter Tryd.func4, Tryd.ntmps4
  go_upto_region 3 with (go_at_call 8; refine cA.mono ?_; rintro e w1 ⟨rfl, hb1⟩)
  have D1 := C1.out w1 hb1
  clear cA
  go_upto_region 4 with (go_at_call 9; refine D1.mono ?_; rintro e w2 ⟨v1, Z1, rfl, hn1, hl1, hb2⟩; obtain ⟨a1, c1, rfl⟩ := owns_slice hn1.own; have H2 := Lib.hid (And.intro hn1 (And.intro hl1 (hb1.trans (hb2.mono hb1.size)))); clear hn1 hl1 hb2)
  have D2 := C2.out w2 H2.out.2.2
  clear D1 C1
  go_upto_region 5 with (go_at_call 9; refine D2.mono ?_; rintro e w3 ⟨v2, Z2, rfl, hn2, hl2, hb3⟩; obtain ⟨a2, c2, rfl⟩ := owns_slice hn2.own; have H3 := Lib.hid (And.intro hn2 (And.intro hl2 hb3)); clear hn2 hl2 hb3)
  have hw3 := H2.out.2.2.trans (H3.out.2.2.mono H2.out.2.2.size)
  have HW3 := Lib.hid hw3
  have D3 := C3.out w3 hw3
  clear D2 C2 hw3
  go_upto_region 6 with (go_at_call 9; refine D3.mono ?_; rintro e w4 ⟨v3, Z3, rfl, hn3, hl3, hb4⟩; obtain ⟨a3, c3, rfl⟩ := owns_slice hn3.own; have H4 := Lib.hid (And.intro hn3 (And.intro hl3 hb4)); clear hn3 hl3 hb4)
  clear D3 C3
  have hZ1 : Z1.length ≤ 1000 := by
    have := congrArg List.length H2.out.2.1
    rw [List.length_map] at this
    omega
  go_cut [55] from 32 to 55 (fun vv wx => vv = .bool false ∧ Below w4.heap.size w4 wx)
  case first =>
    by_cases h1 : E1 = 0
    · have q := HF1.out h1
      have f1 : (E1 == 0) = true := by simpa using h1
      rcases q with ⟨q, ql⟩ | q | q
      · have CS := HS.out w4 _ _ _ _ Z1 Z3 (H2.out.1.keptB (H3.out.2.2.trans (H4.out.2.2.mono H3.out.2.2.size))) H4.out.1 (by rw [H2.out.2.1, H4.out.2.1]; exact ql.symm) (by omega)
        have g1 : (E3 == 0) = true := by simpa using q
        have g2 : (E3 != 0) = false := by simpa using q
        clear q ql h1
        go_wp2_with (go_at_call 11; refine CS.mono ?_; rintro e w5 ⟨rfl, hb5⟩)
        go_meet
        exact ⟨rfl, hb5⟩
      · have g1 : (E3 == 0) = false := by rw [q]; rfl
        have g2 : (E3 != 0) = true := by rw [q]; rfl
        have g3 : (E3 != 4) = false := by rw [q]; rfl
        clear q h1
        go_wp2_with fail
        go_meet
        exact ⟨rfl, Below.refl _ _⟩
      · have g1 : (E3 == 0) = false := by rw [q]; rfl
        have g2 : (E3 != 0) = true := by rw [q]; rfl
        have g3 : (E3 != 4) = true := by rw [q]; rfl
        have g4 : (E3 != 9) = false := by rw [q]; rfl
        clear q h1
        go_wp2_with fail
        go_meet
        exact ⟨rfl, Below.refl _ _⟩
    · have hf : (E1 == 0) = false := by simpa using h1
      clear h1
      go_wp2_with fail
      go_meet
      exact ⟨rfl, Below.refl _ _⟩
  case rest =>
    obtain ⟨rfl, hbc⟩ := hcut
    have HB4 := Lib.hid (H4.out.2.2.trans (hbc.mono H4.out.2.2.size))
    have HBW := Lib.hid (HW3.out.trans (HB4.out.mono HW3.out.size))
    clear hbc H4 HF1
    by_cases h1 : E1 = 0
    · have f1 : (E1 != 0) = false := by simpa using h1
      by_cases h2 : E2 = 0
      · have f2 : (E2 != 0) = false := by simpa using h2
        have F2 := Lib.hid (HF2.out h1 h2)
        have F3 := Lib.hid (HF3.out h1 h2)
        obtain ⟨n1, s1, k1⟩ := HF4.out h1
        obtain ⟨n2, s2, k2⟩ := HF5.out h2
        have N1 := Lib.hid n1
        have N2 := Lib.hid n2
        have K2 := Lib.hid k2
        have A1 := Lib.hid ((H2.out.1.keptB (H3.out.2.2.trans (HB4.out.mono H3.out.2.2.size))).base (A := w.heap.size) (hb1.size))
        have A2 := Lib.hid ((H3.out.1.keptB HB4.out).base (A := w.heap.size) H2.out.2.2.size)
        have P1 := Lib.hid H2.out.2.1
        have P2 := Lib.hid H3.out.2.1
        clear n1 n2 k1 k2 h1 h2 HF2 HF3 HF4 HF5 H2 H3 HW3 HB4
        have hl1 : Z1.length = L1.length := by rw [← P1.out, List.length_map]
        have hl2 : Z2.length = L2.length := by rw [← P2.out, List.length_map]
        have hk2 : ∀ z ∈ Z2, z.1.kids.length ≤ 100000 ∧ ∀ k ∈ z.1.kids, k ≤ 100000 := fun z hz => by
          have h := K2.out z.1 (by rw [← P2.out]; exact List.mem_map.2 ⟨z, hz, rfl⟩)
          exact ⟨Nat.le_trans h.1 (by decide), fun k hk => Nat.le_trans (h.2 k hk) (by decide)⟩
        have ONE1 := Lib.hid (nds_one A1.out.parts)
        have hp1 : 1 ≤ Z1.length := by rw [hl1]; exact List.length_pos_iff.2 N1.out
        have hp2 : 1 ≤ Z2.length := by rw [hl2]; exact List.length_pos_iff.2 N2.out
        have hZ1b : Z1.length ≤ 600 := by omega
        have hZ2b : Z2.length ≤ 600 := by omega
        have HL1 := Lib.hid hl1
        have HL2 := Lib.hid hl2
        have HK2 := Lib.hid hk2
        have LIT := Lib.hid (World.ownsRow_lit (base := wc.heap.size) (e := 33) (size := 5) wc #[] 0 (Nat.le_refl _) (by decide) rfl)
        have hbA := belowA' (o := .cells #[] 33) (Below.refl wc.heap.size wc) (Nat.le_refl _)
        have HBA := Lib.hid hbA
        clear hl1 hl2 hk2 hbA hZ1 F6 F7
        have hwc := HBW.out.size
        go_upto_region 10 with fail
        go_upto_region 11 with (first | (at_builtin; go_loud (refine wpList_append_src rfl _ _ _ _ rfl wc.heap.size ENd _ 0 [] rfl LIT.out _ Z1.length (ndsCells Z1) rfl (by exact src_arg Tryd.underlying23 (argRow_owns (A1.out.keptB HBA.out).own) ONE1.out) (by unfold maxLen; omega) (by omega) (by simp) ?_); intro v6 w6 hown6 hgr6 _ _; have hb6 := HBA.out.grown hgr6 (by simp) (fun e he => (LIT.out.lt e he).1); have CM := law_moved w.heap.size (.slice a2 Z2.length c2) Z2 Z1.length w6 (A2.out.keptB hb6) (by have := hb6.size; omega) (by omega) (by omega) HK2.out; have H6 := Lib.hid (And.intro hown6 hb6); clear hown6 hgr6 hb6) | (go_at_call 12; refine CM.mono ?_; rintro e w7 ⟨v7, Z7, rfl, hn7, hz7, hb7⟩; obtain ⟨a7, c7, rfl⟩ := owns_slice hn7.own; have ONE7 := Lib.hid (nds_one hn7.parts); have O6 := Lib.hid (owns_below H6.out.1 hb7); have hl7 : Z7.length = Z2.length := (by have h := congrArg List.length hz7; rw [List.length_map, mv_length, List.length_map] at h; exact h); have hl7' : Z7.length ≤ 600 := Nat.le_trans (Nat.le_of_eq hl7) hZ2b; have HL7 := Lib.hid hl7; have H7 := Lib.hid (And.intro hn7 (And.intro hz7 hb7)); have hsz7 := Nat.le_trans H6.out.2.size hb7.size; clear hn7 hz7 hb7 hl7) | (at_builtin; go_loud (refine wpList_append_src rfl _ _ _ _ rfl wc.heap.size ENd _ (0 + Z1.length) ([] ++ ndsCells Z1) rfl O6.out _ Z7.length (ndsCells Z7) rfl (by exact src_arg Tryd.underlying23 (argRow_owns H7.out.1.own) ONE7.out) (by unfold maxLen; omega) (by omega) (by omega) ?_); intro v8 w8 hown8 hgr8 _ _; rw [Nat.zero_add, List.nil_append] at hown8; obtain ⟨a8, c8, rfl⟩ := owns_slice hown8; have hb8 := (H6.out.2.trans (H7.out.2.2.mono H6.out.2.size)).grown hgr8 hsz7 (fun e he => (O6.out.lt e he).1); have H8 := Lib.hid (And.intro hown8 (And.intro hgr8 hb8)); clear hown8 hgr8 hb8))
        have hb8 := H8.out.2.2
        have HW8 := Lib.hid (HBW.out.trans (hb8.mono hwc))
        have hboth : NOwn w8 w.heap.size (.slice a8 (Z1.length + Z7.length) c8) (Z1 ++ Z7) := by
          refine ⟨?_, fun z hz => ?_⟩
          · have h := owns_base H8.out.1 hwc
            rw [ndsCells_append, List.length_append]
            exact h
          · rcases List.mem_append.1 hz with hz | hz
            · exact (A1.out.keptB hb8).parts z hz
            · exact (H7.out.1.parts z hz).beside O6.out H8.out.2.1
        have HBO := Lib.hid hboth
        have ONE8 := Lib.hid (nds_one hboth.parts)
        have hZB : (Z1 ++ Z7).map Prod.fst = L1 ++ mv L1.length L2 := by
          rw [List.map_append, P1.out, H7.out.2.1, P2.out, HL1.out]
        have HZB := Lib.hid hZB
        have D4 := C4.out w8 HW8.out
        obtain ⟨k, hk⟩ : ∃ k, Z1.length + Z7.length = k := ⟨_, rfl⟩
        have hkl : (Z1 ++ Z7).length = k := by rw [List.length_append, ← hk]
        have hk1 : Z1.length < k := by
          have := HL7.out
          omega
        have hk2 : k ≤ 1200 := by omega
        rw [hk] at HBO ⊢
        have HK := Lib.hid hkl
        clear hb8 hboth hZB hkl hk C4
        go_upto_region 12 with (go_at_call 9; refine D4.mono ?_; rintro e w9 ⟨v9, Z9, rfl, hnx, hlx, hbx⟩; obtain ⟨a9, c9, rfl⟩ := owns_slice hnx.own; have H9 := Lib.hid (And.intro hnx (And.intro hlx hbx)); clear hnx hlx hbx)
        have HW9 := Lib.hid (HW8.out.trans (H9.out.2.2.mono HW8.out.size))
        have B9 := Lib.hid (HBO.out.keptB H9.out.2.2)
        have LIT2 := Lib.hid (World.ownsRow_lit (base := w9.heap.size) (e := 33) (size := 5) w9 #[] 0 (Nat.le_refl _) (by decide) rfl)
        have HBA2 := Lib.hid (belowA' (o := .cells #[] 33) (Below.refl w9.heap.size w9) (Nat.le_refl _))
        have y1 : IntKind.i64.wrap ((Z1.length : Int) - 1) = (Z1.length : Int) - 1 := IntWalk.i64_in _ (by omega)
        have y2 : IntKind.i64.wrap ((k : Int) - 1) = (k : Int) - 1 := IntWalk.i64_in _ (by omega)
        clear D4
        go_upto_region 13 with (first | (at_builtin; go_loud (refine wpList_append_src rfl _ _ _ _ rfl w9.heap.size ENd _ 0 [] rfl LIT2.out _ k (ndsCells (Z1 ++ Z7)) rfl (by exact src_arg Tryd.underlying23 (by have h := argRow_owns (B9.out.keptB HBA2.out).own; rw [HK.out] at h; exact h) ONE8.out) (by unfold maxLen; omega) (by omega) (by simp) ?_); intro v10 w10 hown10 hgr10 _ _; rw [Nat.zero_add, List.nil_append] at hown10; have hb10 := HBA2.out.grown hgr10 (by simp) (fun e he => (LIT2.out.lt e he).1); have H10 := Lib.hid (And.intro hown10 hb10); have hsz10 := hb10.size; clear hown10 hgr10 hb10) | (at_builtin; go_loud (refine wpList_append_src rfl _ _ _ _ rfl w9.heap.size ENd _ k (ndsCells (Z1 ++ Z7)) rfl ((H10.out.1.alloc _).alloc _) _ 1 [.int .i64 3, .slice (some ⟨w10.heap.size, 0, none⟩) 2 2, .int .i64 0, .int .i64 0, .slice none 0 0] rfl (by exact src_last (cs := #[.int .i64 3, .slice (some ⟨w10.heap.size, 0, none⟩) 2 2, .int .i64 0, .int .i64 0, .slice none 0 0]) Tryd.underlying23 1 1 5 (by simp) rfl (by simp [Value.oneCell'])) (by unfold maxLen; omega) (by omega) (by simp; omega) ?_); intro v11 w11 hown11 hgr11 _ _; obtain ⟨a11, c11, rfl⟩ := owns_slice hown11; have H11 := Lib.hid (And.intro hown11 hgr11); clear hown11 hgr11))
        have hbK := belowA' (o := .cells #[.int .i64 ((Z1.length : Int) - 1), .int .i64 ((k : Int) - 1)] 3) (Below.refl w10.heap.size w10) (Nat.le_refl _)
        have hbN := belowA' (o := .cells #[.int .i64 3, .slice (some ⟨w10.heap.size, 0, none⟩) 2 2, .int .i64 0, .int .i64 0, .slice none 0 0] 33) hbK (by simp)
        have hb11 : Below w9.heap.size w9 w11 := (H10.out.2.trans (hbN.mono hsz10)).grown H11.out.2 (by simp; omega) (fun e he => (H10.out.1.lt e he).1)
        have hk7 : Z1.length + Z7.length = k := by rw [← HK.out, List.length_append]
        have hkid : NdAt ((w10.alloc (.cells #[.int .i64 ((Z1.length : Int) - 1), .int .i64 ((k : Int) - 1)] 3)).alloc (.cells #[.int .i64 3, .slice (some ⟨w10.heap.size, 0, none⟩) 2 2, .int .i64 0, .int .i64 0, .slice none 0 0] 33)) w.heap.size (twoN 3 Z1.length Z7.length, .slice (some ⟨w10.heap.size, 0, none⟩) 2 2, .slice none 0 0) := by
          refine ⟨?_, World.ownsRow_nil _ _ _ _⟩
          have h := (World.ownsRow_lit (base := w.heap.size) (e := 3) (size := 1) w10 #[.int .i64 ((Z1.length : Int) - 1), .int .i64 ((k : Int) - 1)] 2 (Nat.le_trans HW9.out.size hsz10) (by decide) rfl).alloc (.cells #[.int .i64 3, .slice (some ⟨w10.heap.size, 0, none⟩) 2 2, .int .i64 0, .int .i64 0, .slice none 0 0] 33)
          have e1 : ([Z1.length - 1, Z1.length + Z7.length - 1] : List Nat).map iCell = [.int .i64 ((Z1.length : Int) - 1), .int .i64 ((k : Int) - 1)] := by
            simp only [List.map_cons, List.map_nil, iCell]
            rw [show ((Z1.length - 1 : Nat) : Int) = (Z1.length : Int) - 1 by omega, show ((Z1.length + Z7.length - 1 : Nat) : Int) = (k : Int) - 1 by omega]
          unfold twoN
          simp only
          rw [e1]
          exact h
        have hkid11 := hkid.beside ((H10.out.1.alloc _).alloc _) H11.out.2
        have hwant : NOwn w11 w.heap.size (.slice a11 (k + 1) c11) ((Z1 ++ Z7) ++ [(twoN 3 Z1.length Z7.length, .slice (some ⟨w10.heap.size, 0, none⟩) 2 2, .slice none 0 0)]) := by
          refine ⟨?_, fun z hz => ?_⟩
          · have h := owns_base H11.out.1 HW9.out.size
            rw [ndsCells_append, List.length_append, HK.out]
            exact h
          · rcases List.mem_append.1 hz with hz | hz
            · exact (B9.out.keptB hb11).parts z hz
            · rw [List.mem_singleton.1 hz]
              exact hkid11
        have hwm : ((Z1 ++ Z7) ++ [(twoN 3 Z1.length Z7.length, (Value.slice (some ⟨w10.heap.size, 0, none⟩) 2 2, Value.slice none 0 0))]).map Prod.fst = L1 ++ mv L1.length L2 ++ [twoN 3 L1.length L2.length] := by
          rw [List.map_append, HZB.out]
          simp only [List.map_cons, List.map_nil]
          rw [HL1.out, HL7.out, HL2.out]
        obtain ⟨g11, hg11⟩ : ∃ g, a11 = some ⟨g, 0, none⟩ := by
          rcases H11.out.1.2 with ⟨e, h0⟩ | ⟨g, cap, cur, e, _⟩
          · omega
          · exact ⟨g, (Value.slice.inj e).1⟩
        subst hg11
        have WANT := Lib.hid hwant
        have WM := Lib.hid hwm
        have HB11 := Lib.hid hb11
        have HKID := Lib.hid hkid11
        have HK7 := Lib.hid hk7
        obtain ⟨p10, hp10⟩ : ∃ p, w10.heap.size = p := ⟨_, rfl⟩
        rw [hp10] at WANT WM HKID
        have hZ9 : E4 = 0 → Z9.length ≤ 100000 := fun _ => by
          have h := congrArg List.length H9.out.2.1
          rw [List.length_map] at h
          rcases F2.out with ⟨_, h2⟩ | h2 | h2 | h2
          · rw [h2, ← WM.out, List.length_map, List.length_append, HK.out] at h
            simp at h
            omega
          · omega
          · omega
          · omega
        have HZ9 := Lib.hid hZ9
        clear hbK hbN hb11 hk7 hkid hkid11 hwant hwm hp10 hZ9 y1 y2
        go_cut [116] from 93 to 116 (fun vv wx => vv = .bool false ∧ Below w11.heap.size w11 wx)
        case first =>
          rcases F2.out with ⟨q, ql⟩ | q | q | q
          · have CS := HS.out w11 _ _ _ _ Z9 _ (H9.out.1.keptB HB11.out) WANT.out (by rw [H9.out.2.1, ql, WM.out]) (HZ9.out q)
            have g1 : (E4 == 0) = true := by simpa using q
            have g2 : (E4 != 0) = false := by simpa using q
            clear q ql
            go_wp2_with (go_at_call 11; refine CS.mono ?_; rintro e w12 ⟨rfl, hb12⟩)
            go_meet
            exact ⟨rfl, hb12⟩
          · have g1 : (E4 == 0) = false := by rw [q]; rfl
            have g2 : (E4 != 0) = true := by rw [q]; rfl
            have g3 : (E4 != 4) = false := by rw [q]; rfl
            clear q
            go_wp2_with fail
            go_meet
            exact ⟨rfl, Below.refl _ _⟩
          · have g1 : (E4 == 0) = false := by rw [q]; rfl
            have g2 : (E4 != 0) = true := by rw [q]; rfl
            have g3 : (E4 != 4) = true := by rw [q]; rfl
            have g4 : (E4 != 9) = false := by rw [q]; rfl
            clear q
            go_wp2_with fail
            go_meet
            exact ⟨rfl, Below.refl _ _⟩
          · have g1 : (E4 == 0) = false := by rw [q]; rfl
            have g2 : (E4 != 0) = true := by rw [q]; rfl
            have g3 : (E4 != 4) = true := by rw [q]; rfl
            have g4 : (E4 != 9) = true := by rw [q]; rfl
            have g5 : (E4 != 3) = false := by rw [q]; rfl
            clear q
            go_wp2_with fail
            go_meet
            exact ⟨rfl, Below.refl _ _⟩
        case rest =>
          obtain ⟨rfl, hbd⟩ := hcut
          obtain ⟨wd, hwd⟩ : ∃ x : World, x = wc := ⟨_, rfl⟩
          subst hwd
          have hb9d := HB11.out.trans (hbd.mono HB11.out.size)
          have HBD := Lib.hid hbd
          have HW := Lib.hid (HW9.out.trans (hb9d.mono HW9.out.size))
          have hb8d := H9.out.2.2.trans (hb9d.mono H9.out.2.2.size)
          have hbcd := H8.out.2.2.trans (hb8d.mono H8.out.2.2.size)
          have X1 := A1.out.keptB hbcd
          have X2 := A2.out.keptB hbcd
          obtain ⟨g1, k1, e1, q1⟩ := nds_at X1 (k := Z1.length - 1) (by omega)
          obtain ⟨g2, k2', e2, q2⟩ := nds_at X2 (k := Z2.length - 1) (by omega)
          cases e1
          cases e2
          have r1 := (q1 _ (Below.refl _ _)).1
          have r2 := (q2 _ (Below.refl _ _)).1
          have hKD1 : Z1[Z1.length - 1].1.kind = (L1[L1.length - 1]'(by have := HL1.out; omega)).kind := by
            have h : (Z1.map Prod.fst)[Z1.length - 1]? = L1[L1.length - 1]? := by rw [P1.out, HL1.out]
            rw [List.getElem?_map, List.getElem?_eq_getElem (by omega), List.getElem?_eq_getElem (by have := HL1.out; omega)] at h
            exact congrArg Nd.kind (Option.some.inj h)
          have hKD2 : Z2[Z2.length - 1].1.kind = (L2[L2.length - 1]'(by have := HL2.out; omega)).kind := by
            have h : (Z2.map Prod.fst)[Z2.length - 1]? = L2[L2.length - 1]? := by rw [P2.out, HL2.out]
            rw [List.getElem?_map, List.getElem?_eq_getElem (by omega), List.getElem?_eq_getElem (by have := HL2.out; omega)] at h
            exact congrArg Nd.kind (Option.some.inj h)
          rw [hKD1] at r1
          rw [hKD2] at r2
          have FIN := Lib.hid (fun h1 h2 => F3.out ((last_kind N1.out 4).2 h1) ((last_kind N2.out 4).2 h2))
          obtain ⟨KD1, hk1e⟩ : ∃ K, (L1[L1.length - 1]'(by have := HL1.out; omega)).kind = K := ⟨_, rfl⟩
          obtain ⟨KD2, hk2e⟩ : ∃ K, (L2[L2.length - 1]'(by have := HL2.out; omega)).kind = K := ⟨_, rfl⟩
          rw [hk1e] at r1
          rw [hk2e] at r2
          rw [hk1e, hk2e] at FIN
          clear hKD1 hKD2 hk1e hk2e q1 q2 X1 X2 hbd F3 F2
          have y1 : IntKind.i64.wrap ((Z1.length : Int) - 1) = (Z1.length : Int) - 1 := IntWalk.i64_in _ (by omega)
          have y2 : IntKind.i64.wrap ((Z2.length : Int) - 1) = (Z2.length : Int) - 1 := IntWalk.i64_in _ (by omega)
          have y3 : ((Z1.length : Int) - 1).toNat = Z1.length - 1 := by omega
          have y4 : ((Z2.length : Int) - 1).toNat = Z2.length - 1 := by omega
          have y5 : (0 : Int) ≤ (Z1.length : Int) - 1 := by omega
          have y6 : (0 : Int) ≤ (Z2.length : Int) - 1 := by omega
          have y7 : (Z1.length : Int) - 1 < (Z1.length : Int) := by omega
          have y8 : (Z2.length : Int) - 1 < (Z2.length : Int) := by omega
          go_upto_region 15 with fail
          go_cut [134] from 117 to 134 (fun vv wx => vv = .bool (KD1 == 4 || KD2 == 4) ∧ Below wd.heap.size wd wx)
          case first =>
            by_cases hk1 : KD1 = 4
            · have t1 : (KD1 == 4) = true := by simpa using hk1
              clear hk1
              go_wp2_with fail
              go_meet
              exact ⟨by rw [t1, Bool.true_or], Below.refl _ _⟩
            · have t1 : (KD1 == 4) = false := by simpa using hk1
              clear hk1
              go_wp2_with fail
              go_meet
              exact ⟨by rw [t1, Bool.false_or], Below.refl _ _⟩
          case rest =>
            obtain ⟨rfl, hbe⟩ := hcut
            obtain ⟨we, hwe⟩ : ∃ x : World, x = wc := ⟨_, rfl⟩
            subst hwe
            clear r1 r2 y1 y2 y3 y4 y5 y6 y7 y8
            have HWE := Lib.hid (HW.out.trans (hbe.mono HW.out.size))
            have hb11e := HBD.out.trans (hbe.mono HBD.out.size)
            have HBE := Lib.hid hb11e
            cases hKK : (KD1 == 4 || KD2 == 4) with
            | true =>
              clear hKK
              go_wp2_with fail
              go_ret
              exact ⟨rfl, HWE.out⟩
            | false =>
              have hk12 : KD1 ≠ 4 ∧ KD2 ≠ 4 := by simpa using hKK
              have FI := Lib.hid (FIN.out hk12.1 hk12.2)
              have D5 := C5.out we HWE.out
              clear hKK hk12 FIN hbe hb11e
              go_upto_region 18 with (go_at_call 9; refine D5.mono ?_; rintro e w13 ⟨v13, Z13, rfl, hnx, hlx, hbx⟩; obtain ⟨a13, c13, rfl⟩ := owns_slice hnx.own; have H13 := Lib.hid (And.intro hnx (And.intro hlx hbx)); clear hnx hlx hbx)
              have hwe := WANT.out.keptB (HBE.out.trans (H13.out.2.2.mono HBE.out.size))
              have hgl : g11 < w11.heap.size := (WANT.out.own.lt g11 rfl).2
              have hlw : ((Z1 ++ Z7) ++ [(twoN 3 Z1.length Z7.length, (Value.slice (some ⟨p10, 0, none⟩) 2 2, Value.slice none 0 0))]).length = k + 1 := by rw [List.length_append, HK.out]; rfl
              obtain ⟨g', k', e', q'⟩ := nds_at hwe (k := k) (by rw [hlw]; omega)
              rw [hlw] at e'
              cases e'
              have r3 := (q' _ (Below.refl _ _)).1
              have hlast : ((Z1 ++ Z7) ++ [(twoN 3 Z1.length Z7.length, (Value.slice (some ⟨p10, 0, none⟩) 2 2, Value.slice none 0 0))])[k]'(by rw [hlw]; omega) = (twoN 3 Z1.length Z7.length, (Value.slice (some ⟨p10, 0, none⟩) 2 2, Value.slice none 0 0)) := by
                rw [List.getElem_append_right (by rw [HK.out]; exact Nat.le_refl _)]
                simp [HK.out]
              rw [hlast] at r3
              have hfz := hwe.own
              rw [hlw] at hfz
              have hfz' := hfz.frozenAt (k * 5)
              have HWN := Lib.hid hwe
              have HGL := Lib.hid hgl
              have HLW := Lib.hid hlw
              have HFZ := Lib.hid hfz
              clear q' hlast hwe hgl hlw hfz
              go_upto_region 19 with fail
              clear r3 hfz'
              have hst := HFZ.out.stored (k * 5) (.int .i64 4)
              have hset : (ndsCells ((Z1 ++ Z7) ++ [(twoN 3 Z1.length Z7.length, (Value.slice (some ⟨p10, 0, none⟩) 2 2, Value.slice none 0 0))])).set (k * 5) (.int .i64 4) = ndsCells ((Z1 ++ Z7) ++ [(twoN 4 Z1.length Z7.length, (Value.slice (some ⟨p10, 0, none⟩) 2 2, Value.slice none 0 0))]) := by
                exact nds_set_last (Z1 ++ Z7) (twoN 3 Z1.length Z7.length) _ _ k HK.out 4
              rw [hset] at hst
              obtain ⟨w14, hw14⟩ : ∃ x, w13.setCell ⟨g11, k * 5, none⟩ (.int .i64 4) = x := ⟨_, rfl⟩
              rw [hw14] at hst ⊢
              have hb14 : Below w.heap.size w w14 := by
                have h := HWE.out.trans (H13.out.2.2.mono HWE.out.size)
                rw [← hw14]
                exact h.setCell (p := ⟨g11, k * 5, none⟩) (by have h1 := (HFZ.out.lt g11 rfl).1; exact h1) _
              have hw4 : NOwn w14 w.heap.size (.slice (some ⟨g11, 0, none⟩) (k + 1) c11) ((Z1 ++ Z7) ++ [(twoN 4 Z1.length Z7.length, (Value.slice (some ⟨p10, 0, none⟩) 2 2, Value.slice none 0 0))]) := by
                refine ⟨?_, fun z hz => ?_⟩
                · rw [List.length_append, HK.out]
                  exact hst.1
                · rcases List.mem_append.1 hz with hz | hz
                  · exact (HWN.out.parts z (List.mem_append_left _ hz)).beside HFZ.out hst.2
                  · rw [List.mem_singleton.1 hz]
                    exact (HWN.out.parts _ (List.mem_append_right _ (List.mem_singleton.2 rfl))).beside HFZ.out hst.2
              have hwm4 : ((Z1 ++ Z7) ++ [(twoN 4 Z1.length Z7.length, (Value.slice (some ⟨p10, 0, none⟩) 2 2, Value.slice none 0 0))]).map Prod.fst = L1 ++ mv L1.length L2 ++ [twoN 4 L1.length L2.length] := by
                rw [List.map_append, HZB.out]
                simp only [List.map_cons, List.map_nil]
                rw [HL1.out, HL7.out, HL2.out]
              have hn13 : NOwn w14 we.heap.size (.slice a13 Z13.length c13) Z13 := by
                rw [← hw14]
                exact H13.out.1.kept (gset w13 g11 (k * 5) (.int .i64 4)) (fun j hj => by cases hj; have := HGL.out; have := HBE.out.size; omega)
              have HB14 := Lib.hid hb14
              have HW4 := Lib.hid hw4
              have HM4 := Lib.hid hwm4
              have HN13 := Lib.hid hn13
              have hlz : E5 = 0 → Z13.length ≤ 100000 := fun q => by
                have h := congrArg List.length H13.out.2.1
                rw [List.length_map] at h
                rcases FI.out with ⟨_, h2⟩ | h2 | h2
                · rw [h2, ← HM4.out, List.length_map, List.length_append, HK.out] at h
                  simp at h
                  omega
                · omega
                · omega
              have HLZ := Lib.hid hlz
              clear hst hset hw14 hb14 hw4 hwm4 hn13 hlz
              rcases FI.out with ⟨q, ql⟩ | q | q
              · have CS := HS.out w14 _ _ _ _ Z13 _ HN13.out HW4.out (by rw [H13.out.2.1, ql, HM4.out]) (HLZ.out q)
                have x1 : (E5 == 0) = true := by simpa using q
                clear q ql
                go_wp2_with (go_at_call 11; refine CS.mono ?_; rintro e w15 ⟨rfl, hb15⟩)
                go_ret
                exact ⟨rfl, HB14.out.trans (hb15.mono HB14.out.size)⟩
              · have x1 : (E5 == 0) = false := by rw [q]; rfl
                have x2 : (E5 == 4) = true := by rw [q]; rfl
                clear q
                go_wp2_with fail
                go_ret
                exact ⟨rfl, HB14.out⟩
              · have x1 : (E5 == 0) = false := by rw [q]; rfl
                have x2 : (E5 == 4) = false := by rw [q]; rfl
                have x3 : (E5 == 3) = true := by rw [q]; rfl
                clear q
                go_wp2_with fail
                go_ret
                exact ⟨rfl, HB14.out⟩
      · have hf : (E2 != 0) = true := by simpa using h2
        clear h2 h1
        go_wp2_with fail
        go_ret
        exact ⟨rfl, HBW.out⟩
    · have hf : (E1 != 0) = true := by simpa using h1
      clear h1
      go_wp2_with fail
      go_ret
      exact ⟨rfl, HBW.out⟩
end Go.Proofs.YthmhmckkkceclaaDoor
