/-
  JSON, plainly: the one form of a text is its own; values within one another; unclosed ones.
-/
import Derived.Test.YtljnbbdhmlfhjaaDoorJsnR
namespace Go.Proofs.YtljnbbdhmlfhjaaDoor
open Go.RowKit
theorem parse_zero {s : Bs} (h : parseE s = 0) : s.length ≤ 16384 ∧ Lib.validD s = true ∧ ∃ j, docJ s = some j ∧ deepJ j ≤ 16 ∧ parseJ s = j ∧ oneF s = formJ j := by
  have h0 := h
  unfold parseE at h
  split at h
  · cases h
  · rename_i h1
    split at h
    · cases h
    · rename_i h2
      have h2' : Lib.validD s = true := by simpa using h2
      split at h
      · cases h
      · rename_i j hj
        split at h
        · cases h
        · rename_i h3
          have hp : parseJ s = j := by
            unfold parseJ
            rw [if_neg (by simp [h1, h2']), hj]
            simp only []
            rw [if_neg h3]
          exact ⟨by omega, h2', j, hj, by omega, hp, by unfold oneF; rw [if_pos h0, hp]⟩
theorem doc_ok {s : Bs} {j : J} (hv : Lib.validD s = true) (h : docJ s = some j) : okJ j ∧ (formJ j).length ≤ 6 * s.length := by
  unfold docJ at h
  split at h
  · rename_i j' hh
    cases h
    obtain ⟨-, h2, h3⟩ := val_rdg _ _ _ _ hh
    exact ⟨(h3 hv).1, by simpa using h2⟩
  · cases h
theorem sp_all : ∀ (x t : Bs), (∀ c ∈ x, isW c = true) → sp (x ++ t) = sp t
  | [], _, _ => rfl
  | c :: x, t, h => by
    rw [List.cons_append, sp_yes _ (h c (by simp))]
    exact sp_all x t fun d hd => h d (by simp [hd])
theorem doc_pad {j : J} (hj : okJ j) {x y : Bs} (hx : ∀ c ∈ x, isW c = true) (hy : ∀ c ∈ y, isW c = true) : docJ (x ++ (formJ j ++ y)) = some j := by
  have hye : numEnd y := by
    intro c r e
    have := hy c (by rw [e]; simp)
    simp only [isW, Bool.or_eq_true, beq_iff_eq] at this
    rcases this with ((rfl | rfl) | rfl) | rfl <;> exact ⟨by decide, by decide, by decide, by decide⟩
  have hs : sp (x ++ (formJ j ++ y)) = formJ j ++ y := by
    obtain ⟨c, r, e, hw, -⟩ := form_head j hj
    rw [sp_all _ _ hx, e, List.cons_append, sp_no _ hw]
  have hsy : sp y = [] := by
    have := sp_all y [] hy
    rwa [List.append_nil] at this
  have e1 : valP ((x ++ (formJ j ++ y)).length + 1) (x ++ (formJ j ++ y)) = valP ((x ++ (formJ j ++ y)).length + 1) (formJ j ++ y) := by
    rw [valP, hs, val_of hj]
  unfold docJ
  rw [e1, val_back j hj _ y (by rw [List.length_append, List.length_append, List.length_append]; omega) hye, hsy]
theorem parse_doc {s : Bs} {j : J} (h1 : s.length ≤ 16384) (h2 : Lib.validD s = true) (h : docJ s = some j) :
    (deepJ j ≤ 16 → parseE s = 0 ∧ parseJ s = j ∧ oneF s = formJ j) ∧ (16 < deepJ j → parseE s = 9 ∧ oneF s = []) := by
  have e : parseE s = if 16 < deepJ j then 9 else 0 := by
    unfold parseE
    rw [if_neg (by omega), h2, if_neg (by simp), h]
  constructor
  · intro hd
    rw [if_neg (by omega)] at e
    obtain ⟨-, -, j', hj', -, hp, ho⟩ := parse_zero e
    rw [h] at hj'
    cases hj'
    exact ⟨e, hp, ho⟩
  · intro hd
    rw [if_pos hd] at e
    exact ⟨e, by unfold oneF; rw [e, if_neg (by decide)]⟩
/-- A text's one form, with space about it. -/
theorem parse_pad {j : J} (hj : okJ j) {x y : Bs} (hx : ∀ c ∈ x, isW c = true) (hy : ∀ c ∈ y, isW c = true) (hl : (x ++ (formJ j ++ y)).length ≤ 16384) :
    (deepJ j ≤ 16 → parseE (x ++ (formJ j ++ y)) = 0 ∧ parseJ (x ++ (formJ j ++ y)) = j ∧ oneF (x ++ (formJ j ++ y)) = formJ j) ∧ (16 < deepJ j → parseE (x ++ (formJ j ++ y)) = 9 ∧ oneF (x ++ (formJ j ++ y)) = []) := by
  refine parse_doc hl ?_ (doc_pad hj hx hy)
  rw [valid_ascii x (fun c hc => isW_low (hx c hc)), form_valid j hj]
  have := valid_ascii y (fun c hc => isW_low (hy c hc)) []
  rw [List.append_nil] at this
  rw [this]; rfl
theorem parse_form {j : J} (hj : okJ j) (hl : (formJ j).length ≤ 16384) :
    (deepJ j ≤ 16 → parseE (formJ j) = 0 ∧ parseJ (formJ j) = j ∧ oneF (formJ j) = formJ j) ∧ (16 < deepJ j → parseE (formJ j) = 9 ∧ oneF (formJ j) = []) := by
  have h := parse_pad hj (x := []) (y := []) (fun _ h => by simp at h) (fun _ h => by simp at h) (by simpa using hl)
  simpa using h
theorem deep_one (j : J) : deepJ (.arr [j]) = deepJ j + 1 := by simp [deepJ, deepL]
theorem form_one (j : J) : formJ (.arr [j]) = 91 :: (formJ j ++ [93]) := by simp [formJ, formL, formT]
/-- JsonBack, plainly. -/
theorem law_back (b : Bs) (h : parseE b = 0) (hl : (oneF b).length ≤ 16000) :
    (parseE (oneF b) = 0 ∧ oneF (oneF b) = oneF b) ∧ (parseE ([32, 10] ++ oneF b ++ [9, 13]) = 0 ∧ oneF ([32, 10] ++ oneF b ++ [9, 13]) = oneF b) ∧
      ((parseE ([91] ++ oneF b ++ [93]) = 0 ∧ oneF ([91] ++ oneF b ++ [93]) = [91] ++ oneF b ++ [93]) ∨ parseE ([91] ++ oneF b ++ [93]) = 9) := by
  obtain ⟨-, hv, j, hj, hd, -, ho⟩ := parse_zero h
  obtain ⟨hok, -⟩ := doc_ok hv hj
  rw [ho] at hl ⊢
  have h1 := (parse_form hok (by omega)).1 hd
  have h2 := (parse_pad hok (x := [32, 10]) (y := [9, 13]) (by decide) (by decide) (by simp only [List.length_append, List.length_cons, List.length_nil]; omega)).1 hd
  have ok2 : okJ (.arr [j]) := ⟨hok, trivial⟩
  have h3 := parse_form ok2 (by rw [form_one]; simp only [List.length_append, List.length_cons, List.length_nil]; omega)
  rw [form_one, deep_one] at h3
  have e3 : [91] ++ formJ j ++ [93] = 91 :: (formJ j ++ [93]) := by simp
  rw [List.append_assoc, e3]
  refine ⟨⟨h1.1, h1.2.2⟩, ⟨h2.1, h2.2.2⟩, ?_⟩
  by_cases hd2 : deepJ j + 1 ≤ 16
  · exact .inl ⟨(h3.1 hd2).1, (h3.1 hd2).2.2⟩
  · exact .inr (h3.2 (by omega)).1
theorem law_len (b : Bs) : (oneF b).length ≤ 6 * b.length := by
  by_cases h : parseE b = 0
  · obtain ⟨-, hv, j, hj, hd, -, ho⟩ := parse_zero h
    rw [ho]
    exact (doc_ok hv hj).2
  · unfold oneF
    rw [if_neg h]
    exact Nat.zero_le _
/-! ### Within one another -/
/-- One more about a value. -/
def wrapJ (b : Bool) (j : J) : J := if b then .obj [([97], j)] else .arr [j]
def openB (b : Bool) : Bs := if b then [123, 34, 97, 34, 58] else [91]
theorem wrap_ok (b : Bool) {j : J} (h : okJ j) : okJ (wrapJ b j) := by
  cases b
  · exact ⟨h, trivial⟩
  · exact ⟨⟨by decide, h⟩, trivial⟩
theorem wrap_deep (b : Bool) (j : J) : deepJ (wrapJ b j) = deepJ j + 1 := by
  cases b <;> simp [wrapJ, deepJ, deepL, deepM, deepE]
theorem wrap_form (b : Bool) (j : J) : formJ (wrapJ b j) = (if b then [123, 34, 97, 34, 58] ++ formJ j ++ [125] else [91] ++ formJ j ++ [93]) := by
  cases b
  · simp [wrapJ, formJ, formL, formT]
  · simp only [wrapJ, if_true, formJ, formM, formU, formE, List.append_nil]
    have : quote [97] = [34, 97, 34] := by decide
    rw [this]
    simp
/-- Nothing behind it, or no value. -/
def Cut (s : Bs) : Prop := ∀ k, s.length < k → valP k s = none ∨ ∃ j, valP k s = some (j, [])
theorem cut_open (b : Bool) {s : Bs} (h : Cut s) (hs : ∃ c r, s = c :: r ∧ isW c = false ∧ c ≠ 93) : ∀ k, (openB b ++ s).length < k → valP k (openB b ++ s) = none := by
  intro k hk
  obtain ⟨k, rfl⟩ : ∃ k', k = k' + 1 := ⟨k - 1, by omega⟩
  obtain ⟨c, r, e, hw, hc⟩ := hs
  cases b with
  | false =>
    have e0 : openB false ++ s = 91 :: s := rfl
    rw [e0] at hk ⊢
    rw [valP, sp_no _ (by decide)]
    have e1 : barP (valP k) (91 :: s) = arrP (valP k) s := rfl
    have hss : sp s = s := by rw [e, sp_no _ hw]
    rw [e1]
    unfold arrP
    rw [hss]
    have hn : nextB 93 s = none := by rw [e, next_no _ hc]
    simp only [hn, itemsL]
    rcases h k (by simp only [List.length_cons] at hk; omega) with h | ⟨j, h⟩
    · simp only [h]; rfl
    · simp only [h]; rfl
  | true =>
    have e0 : openB true ++ s = 123 :: 34 :: 97 :: 34 :: 58 :: s := rfl
    rw [e0] at hk ⊢
    rw [valP, sp_no _ (by decide)]
    have e1 : barP (valP k) (123 :: 34 :: 97 :: 34 :: 58 :: s) = objP (valP k) (34 :: 97 :: 34 :: 58 :: s) := rfl
    rw [e1]
    unfold objP
    rw [sp_no _ (by decide), next_no _ (by decide)]
    have ht : textP (34 :: 97 :: 34 :: 58 :: s) = some ([97], 58 :: s) := rfl
    have hm : memP' (valP k) (34 :: 97 :: 34 :: 58 :: s) = none ∨ ∃ m, memP' (valP k) (34 :: 97 :: 34 :: 58 :: s) = some (m, []) := by
      unfold memP'
      rw [sp_no _ (by decide), ht]
      simp only []
      rw [sp_no _ (by decide), next_yes]
      simp only []
      rcases h k (by simp only [List.length_cons] at hk; omega) with h | ⟨j, h⟩
      · left; simp only [h]
      · right; simp only [h]; exact ⟨_, rfl⟩
    simp only [memsL]
    rcases hm with h | ⟨m, h⟩
    · simp only [h]; rfl
    · simp only [h]; rfl
theorem cut_one : Cut [49] := by
  intro k hk
  obtain ⟨k, rfl⟩ : ∃ k', k = k' + 1 := ⟨k - 1, by omega⟩
  exact .inr ⟨.num [49], rfl⟩
theorem open_head (b : Bool) (s : Bs) : ∃ c r, openB b ++ s = c :: r ∧ isW c = false ∧ c ≠ 93 := by
  cases b
  · exact ⟨_, _, rfl, by decide, by decide⟩
  · exact ⟨_, _, rfl, by decide, by decide⟩
theorem opens_none : ∀ (bs : List Bool), bs ≠ [] → ∀ k, (bs.flatMap openB ++ [49]).length < k → valP k (bs.flatMap openB ++ [49]) = none
  | [], h => absurd rfl h
  | [b], _ => by
    intro k hk
    have e : [b].flatMap openB ++ [49] = openB b ++ [49] := by simp
    rw [e] at hk ⊢
    exact cut_open b cut_one ⟨_, _, rfl, by decide, by decide⟩ k hk
  | b :: c :: bs, _ => by
    intro k hk
    have e : (b :: c :: bs).flatMap openB ++ [49] = openB b ++ ((c :: bs).flatMap openB ++ [49]) := by simp
    have e2 : (c :: bs).flatMap openB ++ [49] = openB c ++ (bs.flatMap openB ++ [49]) := by simp
    rw [e] at hk ⊢
    refine cut_open b (fun k hk => .inl (opens_none (c :: bs) (by simp) k hk)) ?_ k hk
    rw [e2]
    exact open_head c _
theorem openB_low (b : Bool) : ∀ c ∈ openB b, c.toNat < 128 := by cases b <;> decide
theorem opens_form (bs : List Bool) (h : bs ≠ []) (hl : bs.length ≤ 20) : parseE (bs.flatMap openB ++ [49]) = 6 := by
  have hlow : ∀ c ∈ bs.flatMap openB ++ [49], c.toNat < 128 := by
    intro c hc
    simp only [List.mem_append, List.mem_flatMap, List.mem_cons, List.not_mem_nil, or_false] at hc
    rcases hc with ⟨b, -, hb⟩ | rfl
    · exact openB_low b c hb
    · decide
  have hlen : ∀ bs : List Bool, (bs.flatMap openB).length ≤ 5 * bs.length := by
    intro bs
    induction bs with
    | nil => exact Nat.le_refl _
    | cons b bs ih =>
      have : (openB b).length ≤ 5 := by cases b <;> decide
      simp only [List.flatMap_cons, List.length_append, List.length_cons]
      omega
  have hv : Lib.validD (bs.flatMap openB ++ [49]) = true := by
    have := valid_ascii _ hlow []
    rw [List.append_nil] at this
    rw [this]; rfl
  have hn := opens_none bs h _ (Nat.lt_succ_self _)
  have hd : docJ (bs.flatMap openB ++ [49]) = none := by
    unfold docJ
    rw [hn]
  have := hlen bs
  unfold parseE
  rw [if_neg (by rw [List.length_append, List.length_cons, List.length_nil]; omega), hv, if_neg (by simp), hd]
end Go.Proofs.YtljnbbdhmlfhjaaDoor
