/-
  JSON, plainly: the one form is read back, whether its texts are valid or not.
-/
import Derived.Test.YtljnbbdhmlfhjaaDoorJsWr
import Derived.Test.YtljnbbdhmlfhjaaDoorJsnAll
namespace Go.Proofs.YtljnbbdhmlfhjaaDoor
open Go.RowKit
theorem form_headN (j : J) (h : numsJ j) : ∃ c r, formJ j = c :: r ∧ isW c = false ∧ c ≠ 93 ∧ c ≠ 125 ∧ c ≠ 44 := by
  cases j with
  | nul => exact ⟨_, _, rfl, by decide, by decide, by decide, by decide⟩
  | bool b => cases b <;> exact ⟨_, _, rfl, by decide, by decide, by decide, by decide⟩
  | str s => exact ⟨_, _, rfl, by decide, by decide, by decide, by decide⟩
  | arr l => exact ⟨_, _, rfl, by decide, by decide, by decide, by decide⟩
  | obj l => exact ⟨_, _, rfl, by decide, by decide, by decide, by decide⟩
  | num s =>
    obtain ⟨c, r, rfl, hc⟩ := num_head h
    refine ⟨c, r, rfl, ?_⟩
    rcases hc with rfl | hc
    · exact ⟨by decide, by decide, by decide, by decide⟩
    · refine ⟨?_, isD_ne hc (by decide), isD_ne hc (by decide), isD_ne hc (by decide)⟩
      have a1 := isD_ne (d := 32) hc (by decide)
      have a2 := isD_ne (d := 9) hc (by decide)
      have a3 := isD_ne (d := 10) hc (by decide)
      have a4 := isD_ne (d := 13) hc (by decide)
      simp [isW, a1, a2, a3, a4]
theorem val_ofN {j : J} (hj : numsJ j) (k : Nat) (t : Bs) : valP (k + 1) (formJ j ++ t) = spR (barP (valP k) (formJ j ++ t)) := by
  obtain ⟨c, r, e, hw, -⟩ := form_headN j hj
  rw [valP, e, List.cons_append, sp_no _ hw]
mutual
theorem val_backN : ∀ (j : J), numsJ j → ∀ (k : Nat) (t : Bs), (formJ j ++ t).length < k → numEnd t → valP k (formJ j ++ t) = some (j, sp t)
  | .nul, h, k, t, hk, _ => by
    obtain ⟨k, rfl⟩ : ∃ k', k = k' + 1 := ⟨k - 1, by omega⟩
    rw [val_ofN h]; rfl
  | .bool true, h, k, t, hk, _ => by
    obtain ⟨k, rfl⟩ : ∃ k', k = k' + 1 := ⟨k - 1, by omega⟩
    rw [val_ofN h]; rfl
  | .bool false, h, k, t, hk, _ => by
    obtain ⟨k, rfl⟩ : ∃ k', k = k' + 1 := ⟨k - 1, by omega⟩
    rw [val_ofN h]; rfl
  | .num s, h, k, t, hk, ht => by
    obtain ⟨k, rfl⟩ : ∃ k', k = k' + 1 := ⟨k - 1, by omega⟩
    rw [val_ofN h]
    have h' : NumS s := h
    have hn := num_of h' ht
    have h0 : s.length ≠ 0 := by
      intro e
      exact ((num_iff s).1 h').1 (List.eq_nil_of_length_eq_zero e)
    obtain ⟨c, r, e, hc⟩ := num_head h'
    have hb : ∀ d : UInt8, d ≠ 45 → isD d = false → (s ++ t).head? ≠ some d := by
      intro d h1 h2
      rw [e]
      simp only [List.cons_append, List.head?_cons, ne_eq, Option.some.injEq]
      rcases hc with rfl | hc
      · exact fun e => h1 e.symm
      · exact isD_ne hc h2
    show spR (barP (valP k) (s ++ t)) = _
    unfold barP
    rw [if_neg (hb _ (by decide) (by decide)), if_neg (hb _ (by decide) (by decide)), if_neg (hb _ (by decide) (by decide)), if_neg (hb _ (by decide) (by decide)), if_neg (hb _ (by decide) (by decide)), if_neg (hb _ (by decide) (by decide))]
    unfold numP
    rw [hn, if_neg h0, List.take_left, List.drop_left]
    rfl
  | .str s, h, k, t, hk, _ => by
    obtain ⟨k, rfl⟩ : ∃ k', k = k' + 1 := ⟨k - 1, by omega⟩
    rw [val_ofN h]
    show spR (barP (valP k) (quote s ++ t)) = _
    have e : barP (valP k) (quote s ++ t) = strP (quote s ++ t) := rfl
    rw [e]
    unfold strP
    rw [text_back]
    rfl
  | .arr l, h, k, t, hk, _ => by
    obtain ⟨k, rfl⟩ : ∃ k', k = k' + 1 := ⟨k - 1, by omega⟩
    rw [val_ofN h]
    have e0 : formJ (.arr l) ++ t = 91 :: (formL l ++ 93 :: t) := by simp [formJ]
    rw [e0] at hk ⊢
    have e : barP (valP k) (91 :: (formL l ++ 93 :: t)) = arrP (valP k) (formL l ++ 93 :: t) := rfl
    rw [e]
    simp only [List.length_cons] at hk
    cases l with
    | nil => rfl
    | cons x l =>
      have h' : numsL (x :: l) := h
      obtain ⟨c, r, e1, hw, h93, -⟩ := form_headN x h'.1
      have ih := items_backN (x :: l) h' (by simp) k ((formL (x :: l) ++ 93 :: t).length + 1) t (by omega) (by
        have : ∀ m : List J, m.length ≤ (formT m).length := by
          intro m
          induction m with
          | nil => exact Nat.le_refl _
          | cons y m ih => simp only [formT, List.length_cons, List.length_append]; omega
        have := this l
        simp only [formL, List.length_append, List.length_cons]
        omega)
      have e2 : formL (x :: l) ++ 93 :: t = c :: (r ++ (formT l ++ 93 :: t)) := by simp [formL, e1]
      unfold arrP
      rw [e2] at ih ⊢
      rw [sp_no _ hw, next_no _ h93, ih]
      rfl
  | .obj l, h, k, t, hk, _ => by
    obtain ⟨k, rfl⟩ : ∃ k', k = k' + 1 := ⟨k - 1, by omega⟩
    rw [val_ofN h]
    have e0 : formJ (.obj l) ++ t = 123 :: (formM l ++ 125 :: t) := by simp [formJ]
    rw [e0] at hk ⊢
    have e : barP (valP k) (123 :: (formM l ++ 125 :: t)) = objP (valP k) (formM l ++ 125 :: t) := rfl
    rw [e]
    simp only [List.length_cons] at hk
    cases l with
    | nil => rfl
    | cons x l =>
      have h' : numsM (x :: l) := h
      have ih := mems_backN (x :: l) h' (by simp) k ((formM (x :: l) ++ 125 :: t).length + 1) t (by omega) (by
        have : ∀ m : List (Bs × J), m.length ≤ (formU m).length := by
          intro m
          induction m with
          | nil => exact Nat.le_refl _
          | cons y m ih => simp only [formU, List.length_cons, List.length_append]; omega
        have := this l
        simp only [formM, List.length_append, List.length_cons]
        omega)
      obtain ⟨n, j⟩ := x
      have e2 : formM ((n, j) :: l) ++ 125 :: t = 34 :: (escS n ++ 34 :: 58 :: (formJ j ++ (formU l ++ 125 :: t))) := by simp [formM, formE, quote]
      unfold objP
      rw [e2] at ih ⊢
      rw [sp_no _ (by decide), next_no _ (by decide), ih]
      rfl
theorem items_backN : ∀ (l : List J), numsL l → l ≠ [] → ∀ (k n : Nat) (t : Bs), (formL l ++ 93 :: t).length < k → l.length ≤ n → itemsL (valP k) n (formL l ++ 93 :: t) = some (l, t)
  | [], _, h, _, _, _, _, _ => absurd rfl h
  | [x], h, _, k, n, t, hk, hn => by
    obtain ⟨n, rfl⟩ : ∃ n', n = n' + 1 := ⟨n - 1, by simp at hn; omega⟩
    have e : formL [x] ++ 93 :: t = formJ x ++ 93 :: t := by simp [formL, formT]
    rw [e] at hk ⊢
    have hv := val_backN x h.1 k (93 :: t) hk (numEnd_cons (by decide))
    rw [sp_no _ (by decide)] at hv
    simp only [itemsL, hv, more_end]
  | x :: y :: l, h, _, k, n, t, hk, hn => by
    obtain ⟨n, rfl⟩ : ∃ n', n = n' + 1 := ⟨n - 1, by simp at hn; omega⟩
    have e : formL (x :: y :: l) ++ 93 :: t = formJ x ++ 44 :: (formL (y :: l) ++ 93 :: t) := by simp [formL, formT]
    rw [e] at hk ⊢
    have hv := val_backN x h.1 k (44 :: (formL (y :: l) ++ 93 :: t)) hk (numEnd_cons (by decide))
    rw [sp_no _ (by decide)] at hv
    have ih := items_backN (y :: l) h.2 (by simp) k n t (by simp only [List.length_append, List.length_cons] at hk ⊢; omega) (by simp at hn ⊢; omega)
    simp only [itemsL, hv, more_more (by decide : (44 : UInt8) ≠ 93)]
    rw [ih]
    rfl
theorem mems_backN : ∀ (l : List (Bs × J)), numsM l → l ≠ [] → ∀ (k n : Nat) (t : Bs), (formM l ++ 125 :: t).length < k → l.length ≤ n → memsL (valP k) n (formM l ++ 125 :: t) = some (l, t)
  | [], _, h, _, _, _, _, _ => absurd rfl h
  | [(m, x)], h, _, k, n, t, hk, hn => by
    obtain ⟨n, rfl⟩ : ∃ n', n = n' + 1 := ⟨n - 1, by simp at hn; omega⟩
    have e : formM [(m, x)] ++ 125 :: t = quote m ++ 58 :: (formJ x ++ 125 :: t) := by simp [formM, formU, formE]
    rw [e] at hk ⊢
    have hv := val_backN x h.1 k (125 :: t) (by simp only [List.length_append, List.length_cons] at hk ⊢; omega) (numEnd_cons (by decide))
    rw [sp_no _ (by decide)] at hv
    have hm : memP' (valP k) (quote m ++ 58 :: (formJ x ++ 125 :: t)) = some ((m, x), 125 :: t) := by
      unfold memP'
      have : sp (quote m ++ 58 :: (formJ x ++ 125 :: t)) = quote m ++ 58 :: (formJ x ++ 125 :: t) := by
        rw [quote_app]
        exact sp_no _ (by decide)
      rw [this, text_back]
      simp only []
      rw [sp_no _ (by decide), next_yes]
      simp only [hv]
    simp only [memsL, hm, more_end]
  | (m, x) :: y :: l, h, _, k, n, t, hk, hn => by
    obtain ⟨n, rfl⟩ : ∃ n', n = n' + 1 := ⟨n - 1, by simp at hn; omega⟩
    have e : formM ((m, x) :: y :: l) ++ 125 :: t = quote m ++ 58 :: (formJ x ++ 44 :: (formM (y :: l) ++ 125 :: t)) := by simp [formM, formU, formE]
    rw [e] at hk ⊢
    have hv := val_backN x h.1 k (44 :: (formM (y :: l) ++ 125 :: t)) (by simp only [List.length_append, List.length_cons] at hk ⊢; omega) (numEnd_cons (by decide))
    rw [sp_no _ (by decide)] at hv
    have hm : memP' (valP k) (quote m ++ 58 :: (formJ x ++ 44 :: (formM (y :: l) ++ 125 :: t))) = some ((m, x), 44 :: (formM (y :: l) ++ 125 :: t)) := by
      unfold memP'
      have : sp (quote m ++ 58 :: (formJ x ++ 44 :: (formM (y :: l) ++ 125 :: t))) = quote m ++ 58 :: (formJ x ++ 44 :: (formM (y :: l) ++ 125 :: t)) := by
        rw [quote_app]
        exact sp_no _ (by decide)
      rw [this, text_back]
      simp only []
      rw [sp_no _ (by decide), next_yes]
      simp only [hv]
    have ih := mems_backN (y :: l) h.2 (by simp) k n t (by simp only [List.length_append, List.length_cons] at hk ⊢; omega) (by simp at hn ⊢; omega)
    simp only [memsL, hm, more_more (by decide : (44 : UInt8) ≠ 125)]
    rw [ih]
    rfl
end
theorem doc_backN {j : J} (hj : numsJ j) : docJ (formJ j) = some j := by
  have h := val_backN j hj ((formJ j).length + 1) [] (by simp) numEnd_nil
  rw [List.append_nil] at h
  unfold docJ
  rw [h]
  rfl
/-- What becomes of a value's one form. -/
theorem parse_any {j : J} (hj : numsJ j) (hd : deepJ j ≤ 16) : (parseE (formJ j) = 0 ∧ parseJ (formJ j) = j ∧ okJ j ∧ (formJ j).length ≤ 16384) ∨ parseE (formJ j) = 8 ∨ parseE (formJ j) = 4 := by
  by_cases h1 : 16384 < (formJ j).length
  · right; right
    unfold parseE
    rw [if_pos h1]
  · cases hv : Lib.validD (formJ j) with
    | false =>
      right; left
      unfold parseE
      rw [if_neg h1, if_pos hv]
    | true =>
      left
      have hdoc := doc_backN hj
      obtain ⟨hok, -⟩ := doc_ok hv hdoc
      obtain ⟨p1, p2, -⟩ := (parse_doc (by omega) hv hdoc).1 hd
      exact ⟨p1, p2, hok, by omega⟩
end Go.Proofs.YtljnbbdhmlfhjaaDoor
