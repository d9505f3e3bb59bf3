/-
  JSON, plainly: a number's shape; a value's one form is read as the value.
-/
import Derived.Test.YtljnbbdhmlfhjaaDoorJsnP
namespace Go.Proofs.YtljnbbdhmlfhjaaDoor
open Go.RowKit
theorem sp_len : ∀ s : Bs, (sp s).length ≤ s.length
  | [] => Nat.le_refl _
  | c :: s => by
    have := sp_len s
    simp only [sp]
    split <;> simp only [List.length_cons] <;> omega
theorem sp_no {c : UInt8} (s : Bs) (h : isW c = false) : sp (c :: s) = c :: s := by simp [sp, h]
theorem sp_yes {c : UInt8} (s : Bs) (h : isW c = true) : sp (c :: s) = sp s := by simp [sp, h]
theorem sp_sp : ∀ s : Bs, sp (sp s) = sp s
  | [] => rfl
  | c :: s => by
    cases h : isW c with
    | true => rw [sp_yes s h]; exact sp_sp s
    | false => rw [sp_no s h, sp_no s h]
/-! ### Numbers -/
theorem digs_le : ∀ s : Bs, digs s ≤ s.length
  | [] => Nat.le_refl _
  | c :: s => by
    have := digs_le s
    simp only [digs]
    split <;> simp only [List.length_cons] <;> omega
theorem digs_all : ∀ (x t : Bs), (∀ c ∈ x, isD c = true) → (∀ c r, t = c :: r → isD c = false) → digs (x ++ t) = x.length
  | [], t, _, h => by
    cases t with
    | nil => rfl
    | cons c t => simp [digs, h c t rfl]
  | c :: x, t, hx, h => by
    simp [digs, hx c (by simp), digs_all x t (fun d hd => hx d (by simp [hd])) h]
theorem digs_take : ∀ (s : Bs), ∀ c ∈ s.take (digs s), isD c = true
  | [], c, h => by simp at h
  | d :: s, c, h => by
    simp only [digs] at h
    split at h
    · rename_i hd
      simp only [List.take_succ_cons, List.mem_cons] at h
      rcases h with rfl | h
      · exact hd
      · exact digs_take s c h
    · simp at h
theorem digs_zero {s : Bs} (h : digs s = 0) : ∀ c r, s = c :: r → isD c = false := by
  intro c r e
  subst e
  simp only [digs] at h
  split at h
  · cases h
  · rename_i hh; simpa using hh
/-- Digits, at least one. -/
def Digs (x : Bs) : Prop := x ≠ [] ∧ ∀ c ∈ x, isD c = true
theorem Digs.head {x : Bs} (h : Digs x) : ∃ d y, x = d :: y ∧ isD d = true := by
  obtain ⟨h1, h2⟩ := h
  cases x with
  | nil => exact absurd rfl h1
  | cons d y => exact ⟨d, y, rfl, h2 d (by simp)⟩
def FracS (fr : Bs) : Prop := fr = [] ∨ ∃ y, fr = 46 :: y ∧ Digs y
def SignS (sg : Bs) : Prop := sg = [] ∨ sg = [43] ∨ sg = [45]
def ExpS (ex : Bs) : Prop := ex = [] ∨ ∃ e sg z, ex = e :: (sg ++ z) ∧ (e = 101 ∨ e = 69) ∧ SignS sg ∧ Digs z
/-- A number's text. -/
def NumS (a : Bs) : Prop := ∃ sg x fr ex : Bs, a = sg ++ (x ++ (fr ++ ex)) ∧ (sg = [] ∨ sg = [45]) ∧ (Digs x ∧ (x.head? = some 48 → x.length = 1)) ∧ FracS fr ∧ ExpS ex
/-- What may stand behind a number. -/
def numEnd (t : Bs) : Prop := ∀ c r, t = c :: r → isD c = false ∧ c ≠ 46 ∧ c ≠ 101 ∧ c ≠ 69
theorem isD_ne {c d : UInt8} (hc : isD c = true) (hd : isD d = false) : c ≠ d := by
  intro e; rw [e, hd] at hc; cases hc
theorem Digs.no {x t : Bs} (h : Digs x) (ht : ∀ c r, t = c :: r → isD c = false) : digs (x ++ t) = x.length := digs_all x t h.2 ht
theorem Digs.len {x : Bs} (h : Digs x) : 0 < x.length := by
  obtain ⟨d, y, rfl, -⟩ := h.head
  simp
theorem exp_of {ex t : Bs} (h : ExpS ex) (ht : numEnd t) (k : Nat) : expN k (ex ++ t) = some (k + ex.length) := by
  rcases h with rfl | ⟨e, sg, z, rfl, he, hs, hz⟩
  · unfold expN
    cases t with
    | nil => rfl
    | cons c r =>
      obtain ⟨-, -, h1, h2⟩ := ht c r rfl
      simp [h1, h2]
  · have hz' : ∀ c r, t = c :: r → isD c = false := fun c r e => (ht c r e).1
    have hsg : signN (sg ++ (z ++ t)) = sg.length := by
      rcases hs with rfl | rfl | rfl
      · obtain ⟨d, y, rfl, hd⟩ := hz.head
        have h1 := isD_ne (d := 43) hd (by decide)
        have h2 := isD_ne (d := 45) hd (by decide)
        simp [signN, h1, h2]
      · rfl
      · rfl
    have e1 : ((e :: (sg ++ z)) ++ t).drop 1 = sg ++ (z ++ t) := by simp
    have e2 : ((e :: (sg ++ z)) ++ t).drop (1 + sg.length) = z ++ t := by
      rw [← List.drop_drop, e1, List.drop_left]
    have hl := hz.len
    unfold expN
    rw [if_pos (by rcases he with rfl | rfl <;> simp), e1, hsg, e2, hz.no hz', if_neg (by omega)]
    simp only [List.length_cons, List.length_append]
    congr 1; omega
theorem exp_head {ex t : Bs} (h : ExpS ex) (ht : numEnd t) : ∀ c r, ex ++ t = c :: r → isD c = false ∧ c ≠ 46 := by
  intro c r e
  rcases h with rfl | ⟨d, sg, z, rfl, he, -, -⟩
  · exact ⟨(ht c r e).1, (ht c r e).2.1⟩
  · simp only [List.cons_append, List.cons.injEq] at e
    obtain ⟨rfl, -⟩ := e
    rcases he with rfl | rfl <;> exact ⟨by decide, by decide⟩
theorem frac_of {fr u : Bs} (h : FracS fr) (hu : ∀ c r, u = c :: r → isD c = false ∧ c ≠ 46) (k : Nat) : fracN k (fr ++ u) = some (k + fr.length) := by
  rcases h with rfl | ⟨y, rfl, hy⟩
  · unfold fracN
    cases u with
    | nil => rfl
    | cons c r =>
      obtain ⟨-, h1⟩ := hu c r rfl
      simp [h1]
  · have hl := hy.len
    unfold fracN
    rw [if_pos (by simp)]
    have e1 : ((46 :: y) ++ u).drop 1 = y ++ u := by simp
    rw [e1, hy.no (fun c r e => (hu c r e).1), if_neg (by omega)]
    simp only [List.length_cons]
    congr 1; omega
theorem frac_head {fr u : Bs} (h : FracS fr) (hu : ∀ c r, u = c :: r → isD c = false ∧ c ≠ 46) : ∀ c r, fr ++ u = c :: r → isD c = false := by
  intro c r e
  rcases h with rfl | ⟨y, rfl, -⟩
  · exact (hu c r e).1
  · simp only [List.cons_append, List.cons.injEq] at e
    obtain ⟨rfl, -⟩ := e
    decide
theorem num_of {a t : Bs} (h : NumS a) (ht : numEnd t) : numN (a ++ t) = a.length := by
  obtain ⟨sg, x, fr, ex, rfl, hsg, ⟨hx, hx0⟩, hfr, hex⟩ := h
  have e0 : sg ++ (x ++ (fr ++ ex)) ++ t = sg ++ (x ++ (fr ++ (ex ++ t))) := by simp
  have hm : minusN (sg ++ (x ++ (fr ++ (ex ++ t)))) = sg.length := by
    rcases hsg with rfl | rfl
    · obtain ⟨d, y, rfl, hd⟩ := hx.head
      have h2 := isD_ne (d := 45) hd (by decide)
      simp [minusN, h2]
    · rfl
  have hu := exp_head hex ht
  have hd : digs (x ++ (fr ++ (ex ++ t))) = x.length := hx.no (frac_head hfr hu)
  have hl := hx.len
  have e1 : (sg ++ (x ++ (fr ++ (ex ++ t)))).drop (sg.length + x.length) = fr ++ (ex ++ t) := by
    rw [← List.drop_drop, List.drop_left, List.drop_left]
  have e2 : (sg ++ (x ++ (fr ++ (ex ++ t)))).drop (sg.length + x.length + fr.length) = ex ++ t := by
    rw [← List.drop_drop, e1, List.drop_left]
  rw [e0]
  unfold numN
  rw [hm, List.drop_left, hd, e1, frac_of hfr hu]
  simp only []
  rw [e2, exp_of hex ht, if_neg]
  · simp only [List.length_append]; omega
  · rintro (h | ⟨h1, h2⟩)
    · omega
    · obtain ⟨d, y, rfl, -⟩ := hx.head
      have := hx0 (by simpa using h1)
      omega
theorem numEnd_nil : numEnd [] := fun _ _ e => by cases e
theorem num_len {a : Bs} (h : NumS a) : numN a = a.length := by
  have := num_of h numEnd_nil
  simpa using this
theorem exp_inv {k k' : Nat} {s : Bs} (h : expN k s = some k') : ∃ f, k' = k + f ∧ f ≤ s.length ∧ ExpS (s.take f) := by
  unfold expN at h
  split at h
  · rename_i he
    split at h
    · cases h
    · rename_i hd
      cases h
      cases s with
      | nil => simp at he
      | cons e s =>
        simp only [List.drop_succ_cons, List.drop_zero, Nat.add_comm 1] at hd he ⊢
        have hle := digs_le (s.drop (signN s))
        have hz : Digs ((s.drop (signN s)).take (digs (s.drop (signN s)))) := by
          refine ⟨fun e' => hd ?_, digs_take _⟩
          have := congrArg List.length e'
          simp only [List.length_take, List.length_nil] at this
          omega
        have hsl : signN s ≤ s.length := by
          unfold signN
          split
          · rename_i hh
            cases s with
            | nil => simp at hh
            | cons => simp
          · omega
        refine ⟨signN s + 1 + digs (s.drop (signN s)), by omega, ?_, .inr ⟨e, s.take (signN s), (s.drop (signN s)).take (digs (s.drop (signN s))), ?_, ?_, ?_, hz⟩⟩
        · simp only [List.length_drop] at hle
          simp only [List.length_cons]
          omega
        · rw [Nat.add_right_comm, List.take_succ_cons, List.take_add]
        · simpa using he
        · unfold SignS signN
          split
          · rename_i hh
            cases s with
            | nil => simp at hh
            | cons c s =>
              simp only [List.head?_cons, Option.some.injEq] at hh
              rcases hh with rfl | rfl
              · exact .inr (.inl rfl)
              · exact .inr (.inr rfl)
          · exact .inl rfl
  · cases h
    exact ⟨0, rfl, Nat.zero_le _, .inl rfl⟩
theorem frac_inv {k k' : Nat} {s : Bs} (h : fracN k s = some k') : ∃ f, k' = k + f ∧ f ≤ s.length ∧ FracS (s.take f) := by
  unfold fracN at h
  split at h
  · rename_i he
    split at h
    · cases h
    · rename_i hd
      cases h
      cases s with
      | nil => simp at he
      | cons e s =>
        simp only [List.drop_succ_cons, List.drop_zero, List.head?_cons, Option.some.injEq] at hd he ⊢
        subst he
        have hle := digs_le s
        have hz : Digs (s.take (digs s)) := by
          refine ⟨fun e' => hd ?_, digs_take _⟩
          have := congrArg List.length e'
          simp only [List.length_take, List.length_nil] at this
          omega
        exact ⟨digs s + 1, by omega, by simp only [List.length_cons]; omega, .inr ⟨_, by rw [List.take_succ_cons], hz⟩⟩
  · cases h
    exact ⟨0, rfl, Nat.zero_le _, .inl rfl⟩
theorem minus_le (s : Bs) : minusN s ≤ s.length := by
  unfold minusN
  split
  · rename_i hh
    cases s with
    | nil => simp at hh
    | cons => simp
  · omega
theorem num_inv {s : Bs} (h : numN s ≠ 0) : numN s ≤ s.length ∧ NumS (s.take (numN s)) := by
  obtain ⟨m, hm⟩ : ∃ m, minusN s = m := ⟨_, rfl⟩
  obtain ⟨n, hn⟩ : ∃ n, digs (s.drop m) = n := ⟨_, rfl⟩
  have hml := minus_le s
  have hnl := digs_le (s.drop m)
  rw [hm] at hml
  rw [hn] at hnl
  simp only [List.length_drop] at hnl
  have hsg : s.take m = [] ∨ s.take m = [45] := by
    rw [← hm]
    unfold minusN
    split
    · rename_i hh
      cases s with
      | nil => simp at hh
      | cons c s =>
        simp only [List.head?_cons, Option.some.injEq] at hh
        subst hh
        exact .inr rfl
    · exact .inl rfl
  unfold numN at h ⊢
  rw [hm, hn] at h ⊢
  split at h
  · exact absurd rfl h
  · rename_i h0
    rw [if_neg h0]
    simp only [not_or, not_and, Nat.not_lt] at h0
    obtain ⟨h1, h2⟩ := h0
    split at h
    · exact absurd rfl h
    · rename_i k hk
      obtain ⟨f, rfl, hf, hF⟩ := frac_inv hk
      simp only [List.length_drop] at hf
      split at h
      · exact absurd rfl h
      · rename_i k' hk'
        obtain ⟨g, rfl, hg, hG⟩ := exp_inv hk'
        simp only [List.length_drop] at hg
        refine ⟨by omega, s.take m, (s.drop m).take n, (s.drop (m + n)).take f, (s.drop (m + n + f)).take g, ?_, hsg, ⟨⟨fun e' => h1 ?_, ?_⟩, fun e' => ?_⟩, hF, hG⟩
        · rw [List.take_add, List.take_add, List.take_add, List.append_assoc, List.append_assoc]
        · have := congrArg List.length e'
          simp only [List.length_take, List.length_drop, List.length_nil] at this
          omega
        · rw [← hn]; exact digs_take _
        · have : (s.drop m).head? = some 48 := by
            rw [List.head?_take] at e'
            split at e'
            · cases e'
            · exact e'
          have := h2 this
          simp only [List.length_take, List.length_drop]
          omega
theorem num_iff (s : Bs) : NumS s ↔ s ≠ [] ∧ numN s = s.length := by
  constructor
  · intro h
    refine ⟨?_, num_len h⟩
    rintro rfl
    obtain ⟨sg, x, fr, ex, e, -, ⟨hx, -⟩, -⟩ := h
    have := hx.len
    have := congrArg List.length e
    simp only [List.length_append, List.length_nil] at this
    omega
  · rintro ⟨h1, h2⟩
    have h0 : numN s ≠ 0 := by
      intro e
      rw [e] at h2
      exact h1 (List.eq_nil_of_length_eq_zero h2.symm)
    have := (num_inv h0).2
    rwa [h2, List.take_length] at this
theorem num_head {a : Bs} (h : NumS a) : ∃ c r, a = c :: r ∧ (c = 45 ∨ isD c = true) := by
  obtain ⟨sg, x, fr, ex, rfl, hsg, ⟨hx, -⟩, -⟩ := h
  obtain ⟨d, y, rfl, hd⟩ := hx.head
  rcases hsg with rfl | rfl
  · exact ⟨d, _, rfl, .inr hd⟩
  · exact ⟨45, _, rfl, .inl rfl⟩
/-! ### Strings -/
theorem hexV_D : ∀ n, n < 16 → hexV' (hexD n) = some n := by decide
theorem esc_plain {c : UInt8} (h1 : ¬ (c = 34 ∨ c = 92)) (h2 : ¬ c.toNat < 32) : escB c = [c] := by
  have a1 : c ≠ 8 := by rintro rfl; exact h2 (by decide)
  have a2 : c ≠ 12 := by rintro rfl; exact h2 (by decide)
  have a3 : c ≠ 10 := by rintro rfl; exact h2 (by decide)
  have a4 : c ≠ 13 := by rintro rfl; exact h2 (by decide)
  have a5 : c ≠ 9 := by rintro rfl; exact h2 (by decide)
  simp [escB, h1, h2, a1, a2, a3, a4, a5]
theorem esc_back {c : UInt8} (h : (c = 34 ∨ c = 92) ∨ c.toNat < 32) : ∃ e, escB c = 92 :: e ∧ ∀ r, escP (e ++ r) = some ([c], r) := by
  by_cases h1 : c = 34 ∨ c = 92
  · refine ⟨[c], by simp [escB, h1], fun r => ?_⟩
    rcases h1 with rfl | rfl <;> rfl
  by_cases a1 : c = 8
  · subst a1; exact ⟨[98], rfl, fun r => rfl⟩
  by_cases a2 : c = 12
  · subst a2; exact ⟨[102], rfl, fun r => rfl⟩
  by_cases a3 : c = 10
  · subst a3; exact ⟨[110], rfl, fun r => rfl⟩
  by_cases a4 : c = 13
  · subst a4; exact ⟨[114], rfl, fun r => rfl⟩
  by_cases a5 : c = 9
  · subst a5; exact ⟨[116], rfl, fun r => rfl⟩
  have h2 : c.toNat < 32 := h.elim (fun h => absurd h h1) id
  refine ⟨[117, 48, 48, hexD (c.toNat / 16), hexD (c.toNat % 16)], by simp [escB, h1, a1, a2, a3, a4, a5, h2], fun r => ?_⟩
  have e1 : hexV' (hexD (c.toNat / 16)) = some (c.toNat / 16) := hexV_D _ (by omega)
  have e2 : hexV' (hexD (c.toNat % 16)) = some (c.toNat % 16) := hexV_D _ (by omega)
  have e0 : hexV' 48 = some 0 := rfl
  have e3 : hexP ([117, 48, 48, hexD (c.toNat / 16), hexD (c.toNat % 16)] ++ r) = some (c.toNat, r) := by
    simp only [List.cons_append, List.nil_append, hexP, if_true, hex4, e0, e1, e2]
    congr 2
    omega
  have e4 : plainE 117 = none := by decide
  unfold escP
  simp only [List.cons_append, List.nil_append, e4] at e3 ⊢
  rw [e3]
  simp only []
  rw [if_neg (by omega), if_neg (by omega), encR_ascii c (by omega)]
theorem escS_cons (c : UInt8) (s : Bs) : escS (c :: s) = escB c ++ escS s := by simp [escS]
theorem str_back : ∀ (s t : Bs) (k : Nat), (escS s ++ 34 :: t).length < k → strL k (escS s ++ 34 :: t) = some (s, t) := by
  intro s
  induction s with
  | nil =>
    intro t k hk
    obtain ⟨k, rfl⟩ : ∃ k', k = k' + 1 := ⟨k - 1, by omega⟩
    simp [escS, strL]
  | cons c s ih =>
    intro t k hk
    obtain ⟨k, rfl⟩ : ∃ k', k = k' + 1 := ⟨k - 1, by omega⟩
    rw [escS_cons, List.append_assoc] at hk ⊢
    by_cases h : (c = 34 ∨ c = 92) ∨ c.toNat < 32
    · obtain ⟨e, he, hr⟩ := esc_back h
      rw [he, List.cons_append] at hk ⊢
      have := ih t k (by simp only [List.length_cons, List.length_append] at hk ⊢; omega)
      simp only [strL, hr, this]
      rfl
    · simp only [not_or] at h
      obtain ⟨⟨h1, h2⟩, h3⟩ := h
      rw [esc_plain (by simp [h1, h2]) h3] at hk ⊢
      have := ih t k (by simp only [List.length_cons, List.length_append, List.length_nil] at hk ⊢; omega)
      simp only [List.cons_append, List.nil_append, strL, h1, h2, h3, if_false, this]
      rfl
theorem quote_app (s t : Bs) : quote s ++ t = 34 :: (escS s ++ 34 :: t) := by simp [quote]
theorem text_back (s t : Bs) : textP (quote s ++ t) = some (s, t) := by
  rw [quote_app]
  simp only [textP, if_true]
  exact str_back s t _ (Nat.lt_succ_self _)
/-! ### Values -/
mutual
/-- A value that can be written. -/
def okJ : J → Prop
  | .nul => True
  | .bool _ => True
  | .num s => NumS s
  | .str s => Lib.validD s = true
  | .arr l => okL l
  | .obj l => okM l
def okL : List J → Prop
  | [] => True
  | x :: l => okJ x ∧ okL l
def okM : List (Bs × J) → Prop
  | [] => True
  | x :: l => okE x ∧ okM l
def okE : Bs × J → Prop
  | (n, x) => Lib.validD n = true ∧ okJ x
end
theorem form_head (j : J) (h : okJ j) : ∃ c r, formJ j = c :: r ∧ isW c = false ∧ c ≠ 93 ∧ c ≠ 125 ∧ c ≠ 44 := by
  cases j with
  | nul => exact ⟨_, _, rfl, by decide, by decide, by decide, by decide⟩
  | bool b => cases b <;> exact ⟨_, _, rfl, by decide, by decide, by decide, by decide⟩
  | str s => exact ⟨_, _, rfl, by decide, by decide, by decide, by decide⟩
  | arr l => exact ⟨_, _, rfl, by decide, by decide, by decide, by decide⟩
  | obj l => exact ⟨_, _, rfl, by decide, by decide, by decide, by decide⟩
  | num s =>
    obtain ⟨c, r, rfl, hc⟩ := num_head h
    refine ⟨c, r, rfl, ?_⟩
    rcases hc with rfl | hc
    · exact ⟨by decide, by decide, by decide, by decide⟩
    · refine ⟨?_, isD_ne hc (by decide), isD_ne hc (by decide), isD_ne hc (by decide)⟩
      have a1 := isD_ne (d := 32) hc (by decide)
      have a2 := isD_ne (d := 9) hc (by decide)
      have a3 := isD_ne (d := 10) hc (by decide)
      have a4 := isD_ne (d := 13) hc (by decide)
      simp [isW, a1, a2, a3, a4]
theorem numEnd_cons {c : UInt8} {t : Bs} (h : isD c = false ∧ c ≠ 46 ∧ c ≠ 101 ∧ c ≠ 69) : numEnd (c :: t) := by
  intro d r e
  cases e
  exact h
theorem next_yes (c : UInt8) (s : Bs) : nextB c (c :: s) = some s := by simp [nextB]
theorem next_no {c d : UInt8} (s : Bs) (h : d ≠ c) : nextB c (d :: s) = none := by simp [nextB, h]
/-- The end of an array, or more of it. -/
theorem more_end {α : Type} (e : UInt8) (x : α) (rest : Bs → Option (List α × Bs)) (s : Bs) : moreP e x rest (e :: s) = some ([x], s) := by simp [moreP, next_yes]
theorem more_more {α : Type} {e : UInt8} (he : 44 ≠ e) (x : α) (rest : Bs → Option (List α × Bs)) (s : Bs) : moreP e x rest (44 :: s) = addL x (rest s) := by
  simp [moreP, next_yes, next_no s he]
theorem val_of {j : J} (hj : okJ j) (k : Nat) (t : Bs) : valP (k + 1) (formJ j ++ t) = spR (barP (valP k) (formJ j ++ t)) := by
  obtain ⟨c, r, e, hw, -⟩ := form_head j hj
  rw [valP, e, List.cons_append, sp_no _ hw]
mutual
theorem val_back : ∀ (j : J), okJ j → ∀ (k : Nat) (t : Bs), (formJ j ++ t).length < k → numEnd t → valP k (formJ j ++ t) = some (j, sp t)
  | .nul, h, k, t, hk, _ => by
    obtain ⟨k, rfl⟩ : ∃ k', k = k' + 1 := ⟨k - 1, by omega⟩
    rw [val_of h]; rfl
  | .bool true, h, k, t, hk, _ => by
    obtain ⟨k, rfl⟩ : ∃ k', k = k' + 1 := ⟨k - 1, by omega⟩
    rw [val_of h]; rfl
  | .bool false, h, k, t, hk, _ => by
    obtain ⟨k, rfl⟩ : ∃ k', k = k' + 1 := ⟨k - 1, by omega⟩
    rw [val_of h]; rfl
  | .num s, h, k, t, hk, ht => by
    obtain ⟨k, rfl⟩ : ∃ k', k = k' + 1 := ⟨k - 1, by omega⟩
    rw [val_of h]
    have h' : NumS s := h
    have hn := num_of h' ht
    have h0 : s.length ≠ 0 := by
      intro e
      exact ((num_iff s).1 h').1 (List.eq_nil_of_length_eq_zero e)
    obtain ⟨c, r, e, hc⟩ := num_head h'
    have hb : ∀ d : UInt8, d ≠ 45 → isD d = false → (s ++ t).head? ≠ some d := by
      intro d h1 h2
      rw [e]
      simp only [List.cons_append, List.head?_cons, ne_eq, Option.some.injEq]
      rcases hc with rfl | hc
      · exact fun e => h1 e.symm
      · exact isD_ne hc h2
    show spR (barP (valP k) (s ++ t)) = _
    unfold barP
    rw [if_neg (hb _ (by decide) (by decide)), if_neg (hb _ (by decide) (by decide)), if_neg (hb _ (by decide) (by decide)), if_neg (hb _ (by decide) (by decide)), if_neg (hb _ (by decide) (by decide)), if_neg (hb _ (by decide) (by decide))]
    unfold numP
    rw [hn, if_neg h0, List.take_left, List.drop_left]
    rfl
  | .str s, h, k, t, hk, _ => by
    obtain ⟨k, rfl⟩ : ∃ k', k = k' + 1 := ⟨k - 1, by omega⟩
    rw [val_of h]
    show spR (barP (valP k) (quote s ++ t)) = _
    have e : barP (valP k) (quote s ++ t) = strP (quote s ++ t) := rfl
    rw [e]
    unfold strP
    rw [text_back]
    rfl
  | .arr l, h, k, t, hk, _ => by
    obtain ⟨k, rfl⟩ : ∃ k', k = k' + 1 := ⟨k - 1, by omega⟩
    rw [val_of h]
    have e0 : formJ (.arr l) ++ t = 91 :: (formL l ++ 93 :: t) := by simp [formJ]
    rw [e0] at hk ⊢
    have e : barP (valP k) (91 :: (formL l ++ 93 :: t)) = arrP (valP k) (formL l ++ 93 :: t) := rfl
    rw [e]
    simp only [List.length_cons] at hk
    cases l with
    | nil => rfl
    | cons x l =>
      have h' : okL (x :: l) := h
      obtain ⟨c, r, e1, hw, h93, -⟩ := form_head x h'.1
      have ih := items_back (x :: l) h' (by simp) k ((formL (x :: l) ++ 93 :: t).length + 1) t (by omega) (by
        have : ∀ m : List J, m.length ≤ (formT m).length := by
          intro m
          induction m with
          | nil => exact Nat.le_refl _
          | cons y m ih => simp only [formT, List.length_cons, List.length_append]; omega
        have := this l
        simp only [formL, List.length_append, List.length_cons]
        omega)
      have e2 : formL (x :: l) ++ 93 :: t = c :: (r ++ (formT l ++ 93 :: t)) := by simp [formL, e1]
      unfold arrP
      rw [e2] at ih ⊢
      rw [sp_no _ hw, next_no _ h93, ih]
      rfl
  | .obj l, h, k, t, hk, _ => by
    obtain ⟨k, rfl⟩ : ∃ k', k = k' + 1 := ⟨k - 1, by omega⟩
    rw [val_of h]
    have e0 : formJ (.obj l) ++ t = 123 :: (formM l ++ 125 :: t) := by simp [formJ]
    rw [e0] at hk ⊢
    have e : barP (valP k) (123 :: (formM l ++ 125 :: t)) = objP (valP k) (formM l ++ 125 :: t) := rfl
    rw [e]
    simp only [List.length_cons] at hk
    cases l with
    | nil => rfl
    | cons x l =>
      have h' : okM (x :: l) := h
      have ih := mems_back (x :: l) h' (by simp) k ((formM (x :: l) ++ 125 :: t).length + 1) t (by omega) (by
        have : ∀ m : List (Bs × J), m.length ≤ (formU m).length := by
          intro m
          induction m with
          | nil => exact Nat.le_refl _
          | cons y m ih => simp only [formU, List.length_cons, List.length_append]; omega
        have := this l
        simp only [formM, List.length_append, List.length_cons]
        omega)
      obtain ⟨n, j⟩ := x
      have e2 : formM ((n, j) :: l) ++ 125 :: t = 34 :: (escS n ++ 34 :: 58 :: (formJ j ++ (formU l ++ 125 :: t))) := by simp [formM, formE, quote]
      unfold objP
      rw [e2] at ih ⊢
      rw [sp_no _ (by decide), next_no _ (by decide), ih]
      rfl
theorem items_back : ∀ (l : List J), okL l → l ≠ [] → ∀ (k n : Nat) (t : Bs), (formL l ++ 93 :: t).length < k → l.length ≤ n → itemsL (valP k) n (formL l ++ 93 :: t) = some (l, t)
  | [], _, h, _, _, _, _, _ => absurd rfl h
  | [x], h, _, k, n, t, hk, hn => by
    obtain ⟨n, rfl⟩ : ∃ n', n = n' + 1 := ⟨n - 1, by simp at hn; omega⟩
    have e : formL [x] ++ 93 :: t = formJ x ++ 93 :: t := by simp [formL, formT]
    rw [e] at hk ⊢
    have hv := val_back x h.1 k (93 :: t) hk (numEnd_cons (by decide))
    rw [sp_no _ (by decide)] at hv
    simp only [itemsL, hv, more_end]
  | x :: y :: l, h, _, k, n, t, hk, hn => by
    obtain ⟨n, rfl⟩ : ∃ n', n = n' + 1 := ⟨n - 1, by simp at hn; omega⟩
    have e : formL (x :: y :: l) ++ 93 :: t = formJ x ++ 44 :: (formL (y :: l) ++ 93 :: t) := by simp [formL, formT]
    rw [e] at hk ⊢
    have hv := val_back x h.1 k (44 :: (formL (y :: l) ++ 93 :: t)) hk (numEnd_cons (by decide))
    rw [sp_no _ (by decide)] at hv
    have ih := items_back (y :: l) h.2 (by simp) k n t (by simp only [List.length_append, List.length_cons] at hk ⊢; omega) (by simp at hn ⊢; omega)
    simp only [itemsL, hv, more_more (by decide : (44 : UInt8) ≠ 93)]
    rw [ih]
    rfl
theorem mems_back : ∀ (l : List (Bs × J)), okM l → l ≠ [] → ∀ (k n : Nat) (t : Bs), (formM l ++ 125 :: t).length < k → l.length ≤ n → memsL (valP k) n (formM l ++ 125 :: t) = some (l, t)
  | [], _, h, _, _, _, _, _ => absurd rfl h
  | [(m, x)], h, _, k, n, t, hk, hn => by
    obtain ⟨n, rfl⟩ : ∃ n', n = n' + 1 := ⟨n - 1, by simp at hn; omega⟩
    have e : formM [(m, x)] ++ 125 :: t = quote m ++ 58 :: (formJ x ++ 125 :: t) := by simp [formM, formU, formE]
    rw [e] at hk ⊢
    have hv := val_back x h.1.2 k (125 :: t) (by simp only [List.length_append, List.length_cons] at hk ⊢; omega) (numEnd_cons (by decide))
    rw [sp_no _ (by decide)] at hv
    have hm : memP' (valP k) (quote m ++ 58 :: (formJ x ++ 125 :: t)) = some ((m, x), 125 :: t) := by
      unfold memP'
      have : sp (quote m ++ 58 :: (formJ x ++ 125 :: t)) = quote m ++ 58 :: (formJ x ++ 125 :: t) := by
        rw [quote_app]
        exact sp_no _ (by decide)
      rw [this, text_back]
      simp only []
      rw [sp_no _ (by decide), next_yes]
      simp only [hv]
    simp only [memsL, hm, more_end]
  | (m, x) :: y :: l, h, _, k, n, t, hk, hn => by
    obtain ⟨n, rfl⟩ : ∃ n', n = n' + 1 := ⟨n - 1, by simp at hn; omega⟩
    have e : formM ((m, x) :: y :: l) ++ 125 :: t = quote m ++ 58 :: (formJ x ++ 44 :: (formM (y :: l) ++ 125 :: t)) := by simp [formM, formU, formE]
    rw [e] at hk ⊢
    have hv := val_back x h.1.2 k (44 :: (formM (y :: l) ++ 125 :: t)) (by simp only [List.length_append, List.length_cons] at hk ⊢; omega) (numEnd_cons (by decide))
    rw [sp_no _ (by decide)] at hv
    have hm : memP' (valP k) (quote m ++ 58 :: (formJ x ++ 44 :: (formM (y :: l) ++ 125 :: t))) = some ((m, x), 44 :: (formM (y :: l) ++ 125 :: t)) := by
      unfold memP'
      have : sp (quote m ++ 58 :: (formJ x ++ 44 :: (formM (y :: l) ++ 125 :: t))) = quote m ++ 58 :: (formJ x ++ 44 :: (formM (y :: l) ++ 125 :: t)) := by
        rw [quote_app]
        exact sp_no _ (by decide)
      rw [this, text_back]
      simp only []
      rw [sp_no _ (by decide), next_yes]
      simp only [hv]
    have ih := mems_back (y :: l) h.2 (by simp) k n t (by simp only [List.length_append, List.length_cons] at hk ⊢; omega) (by simp at hn ⊢; omega)
    simp only [memsL, hm, more_more (by decide : (44 : UInt8) ≠ 125)]
    rw [ih]
    rfl
end
end Go.Proofs.YtljnbbdhmlfhjaaDoor
