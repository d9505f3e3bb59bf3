/-
  JSON, plainly: what is read can be written, and is no longer than six times what was read.
-/
import Derived.Test.YtljnbbdhmlfhjaaDoorJsnQ
namespace Go.Proofs.YtljnbbdhmlfhjaaDoor
open Go.RowKit
/-- A reader's step: the rest is shorter, the form no longer than six times what was read, what is valid stays valid. -/
def Rdg (len : Nat) (ok : Prop) (s r : Bs) : Prop := r.length < s.length ∧ len + 6 * r.length ≤ 6 * s.length ∧ (Lib.validD s = true → ok ∧ Lib.validD r = true)
theorem next_inv {c : UInt8} {s r : Bs} (h : nextB c s = some r) : s = c :: r := by
  cases s with
  | nil => cases h
  | cons d s =>
    simp only [nextB] at h
    split at h
    · rename_i e
      cases h
      rw [e]
    · cases h
theorem valid_low {c : UInt8} (h : c.toNat < 128) (s : Bs) : Lib.validD (c :: s) = Lib.validD s := Lib.validD_cons c s h
theorem isW_low {c : UInt8} (h : isW c = true) : c.toNat < 128 := by
  simp only [isW, Bool.or_eq_true, beq_iff_eq] at h
  rcases h with ((rfl | rfl) | rfl) | rfl <;> decide
theorem isD_low {c : UInt8} (h : isD c = true) : c.toNat < 128 := by
  simp only [isD, decide_eq_true_eq] at h
  omega
theorem sp_valid : ∀ s : Bs, Lib.validD (sp s) = Lib.validD s
  | [] => rfl
  | c :: s => by
    cases h : isW c with
    | true => rw [sp_yes s h, valid_low (isW_low h)]; exact sp_valid s
    | false => rw [sp_no s h]
/-! ### Strings -/
theorem escB_len (c : UInt8) : (escB c).length ≤ 6 := by
  unfold escB
  repeat' split
  all_goals simp
theorem escS_len (s : Bs) : (escS s).length ≤ 6 * s.length := by
  induction s with
  | nil => exact Nat.le_refl _
  | cons c s ih =>
    have := escB_len c
    rw [escS_cons, List.length_append, List.length_cons]
    omega
theorem hexV_low {c : UInt8} {n : Nat} (h : hexV' c = some n) : c.toNat < 128 ∧ n < 16 := by
  unfold hexV' at h
  repeat' split at h
  all_goals first
    | (cases h; omega)
    | cases h
theorem hex4_inv {s r : Bs} {n : Nat} (h : hex4 s = some (n, r)) : s.length = r.length + 4 ∧ Lib.validD s = Lib.validD r ∧ n < 65536 := by
  unfold hex4 at h
  split at h
  · split at h
    · rename_i e1 e2 e3 e4
      cases h
      have h1 := hexV_low e1
      have h2 := hexV_low e2
      have h3 := hexV_low e3
      have h4 := hexV_low e4
      refine ⟨by simp, ?_, by omega⟩
      rw [valid_low h1.1, valid_low h2.1, valid_low h3.1, valid_low h4.1]
    · cases h
  · cases h
theorem hex_inv {s r : Bs} {n : Nat} (h : hexP s = some (n, r)) : s.length = r.length + 5 ∧ Lib.validD s = Lib.validD r ∧ n < 65536 := by
  cases s with
  | nil => cases h
  | cons c s =>
    simp only [hexP] at h
    split at h
    · rename_i hc
      subst hc
      obtain ⟨h1, h2, h3⟩ := hex4_inv h
      refine ⟨by rw [List.length_cons, h1], by rw [valid_low (by decide), h2], h3⟩
    · cases h
theorem valid_one (n : Nat) (h : scalar n) : Lib.validD (encR n) = true := by
  have := valid_encode n h []
  rw [List.append_nil] at this
  rw [this]; rfl
theorem plain_inv {c b : UInt8} (h : plainE c = some b) : c.toNat < 128 ∧ b.toNat < 128 := by
  unfold plainE at h
  repeat' split at h
  all_goals first
    | (cases h; rename_i e; subst e; exact ⟨by decide, by decide⟩)
    | cases h
theorem low_inv {n : Nat} {s b r : Bs} (hn : 55296 ≤ n ∧ n ≤ 56319) (h : lowP n s = some (b, r)) : b.length ≤ 4 ∧ r.length < s.length ∧ Lib.validD b = true ∧ Lib.validD s = Lib.validD r := by
  cases s with
  | nil => cases h
  | cons c s =>
    simp only [lowP] at h
    split at h
    · rename_i hc
      subst hc
      split at h
      · cases h
      · rename_i m r' hh
        obtain ⟨h1, h2, h3⟩ := hex_inv hh
        split at h
        · rename_i hm
          simp only [Option.some.injEq, Prod.mk.injEq] at h
          obtain ⟨hb, rfl⟩ := h
          rw [← hb]
          clear hb hh
          have hz : scalar (65536 + (n - 55296) * 1024 + (m - 56320)) := by unfold scalar; omega
          generalize 65536 + (n - 55296) * 1024 + (m - 56320) = z at *
          refine ⟨(encR_len _).2, by rw [List.length_cons, h1]; omega, valid_one _ hz, by rw [valid_low (by decide), h2]⟩
        · cases h
    · cases h
theorem esc_inv {s b r : Bs} (h : escP s = some (b, r)) : b.length + r.length ≤ s.length ∧ r.length < s.length ∧ Lib.validD b = true ∧ Lib.validD s = Lib.validD r := by
  cases s with
  | nil => cases h
  | cons c s =>
    unfold escP at h
    simp only [] at h
    split at h
    · rename_i d hd
      cases h
      obtain ⟨h1, h2⟩ := plain_inv hd
      refine ⟨by simp; omega, by simp, by rw [valid_low h2]; rfl, valid_low h1 _⟩
    · split at h
      · cases h
      · rename_i n r' hh
        obtain ⟨h1, h2, h3⟩ := hex_inv hh
        split at h
        · rename_i hn
          obtain ⟨g1, g2, g3, g4⟩ := low_inv hn h
          exact ⟨by omega, by omega, g3, by rw [h2, g4]⟩
        · split at h
          · cases h
          · cases h
            have := encR_len n
            refine ⟨by omega, by omega, valid_one _ ?_, h2⟩
            unfold scalar
            omega
theorem addS_inv {b t r : Bs} {o : Option (Bs × Bs)} (h : addS b o = some (t, r)) : ∃ t', o = some (t', r) ∧ t = b ++ t' := by
  cases o with
  | none => cases h
  | some p =>
    obtain ⟨t', r'⟩ := p
    simp only [addS, Option.some.injEq, Prod.mk.injEq] at h
    obtain ⟨rfl, rfl⟩ := h
    exact ⟨t', rfl, rfl⟩
theorem str_len : ∀ (k : Nat) (s t r : Bs), strL k s = some (t, r) → t.length + r.length + 1 ≤ s.length
  | 0, s, t, r, h => by cases h
  | k + 1, [], t, r, h => by cases h
  | k + 1, c :: s, t, r, h => by
    simp only [strL] at h
    split at h
    · cases h; simp
    · split at h
      · split at h
        · cases h
        · rename_i b r' hh
          obtain ⟨t', e, rfl⟩ := addS_inv h
          have := str_len k _ _ _ e
          obtain ⟨g1, g2, -⟩ := esc_inv hh
          simp only [List.length_append, List.length_cons]
          omega
      · split at h
        · cases h
        · obtain ⟨t', e, rfl⟩ := addS_inv h
          have := str_len k _ _ _ e
          simp only [List.length_append, List.length_cons, List.length_nil]
          omega
theorem str_high : ∀ (x u : Bs) (k : Nat) (t r : Bs), (∀ c ∈ x, 128 ≤ c.toNat) → strL k (x ++ u) = some (t, r) → ∃ k' t', k' ≤ k ∧ strL k' u = some (t', r) ∧ t = x ++ t'
  | [], u, k, t, r, _, h => ⟨k, t, Nat.le_refl _, h, rfl⟩
  | c :: x, u, 0, t, r, _, h => by cases h
  | c :: x, u, k + 1, t, r, hx, h => by
    have hc : 128 ≤ c.toNat := hx c (by simp)
    have h1 : c ≠ 34 := by rintro rfl; exact absurd hc (by decide)
    have h2 : c ≠ 92 := by rintro rfl; exact absurd hc (by decide)
    simp only [List.cons_append, strL, h1, h2, if_false, if_neg (show ¬ c.toNat < 32 by omega)] at h
    obtain ⟨t', e, rfl⟩ := addS_inv h
    obtain ⟨k', t'', hk, e', rfl⟩ := str_high x u k t' r (fun d hd => hx d (by simp [hd])) e
    exact ⟨k', t'', by omega, e', rfl⟩
theorem enc_high {z : Nat} (hz : scalar z) (h : 128 ≤ z) : ∀ c ∈ encR z, 128 ≤ c.toNat := by
  rcases encR_shape z hz with ⟨hr, -⟩ | ⟨-, hr', a, b, e, ha, hb⟩ | ⟨-, hr', a, b, c, e, ha, hb, hc⟩ | ⟨-, hr', a, b, c, d, e, ha, hb, hc, hd⟩
  · omega
  all_goals
    rw [e]
    intro x hx
    simp only [List.mem_cons, List.not_mem_nil, or_false] at hx
  · rcases hx with rfl | rfl <;> omega
  · rcases hx with rfl | rfl | rfl <;> omega
  · rcases hx with rfl | rfl | rfl | rfl <;> omega
theorem str_valid : ∀ (n k : Nat) (s t r : Bs), k ≤ n → strL k s = some (t, r) → Lib.validD s = true → Lib.validD t = true ∧ Lib.validD r = true := by
  intro n
  induction n with
  | zero =>
    intro k s t r hk h
    obtain rfl : k = 0 := by omega
    cases h
  | succ n ih =>
    intro k s t r hk h hv
    cases k with
    | zero => cases h
    | succ k =>
      cases s with
      | nil => cases h
      | cons c s =>
        by_cases hc : c.toNat < 128
        · rw [valid_low hc] at hv
          simp only [strL] at h
          split at h
          · cases h; exact ⟨rfl, hv⟩
          · split at h
            · split at h
              · cases h
              · rename_i b r' hh
                obtain ⟨t', e, rfl⟩ := addS_inv h
                obtain ⟨g1, g2, g3, g4⟩ := esc_inv hh
                obtain ⟨i1, i2⟩ := ih k _ _ _ (by omega) e (by rw [← g4, hv])
                exact ⟨by rw [valid_append _ _ g3, i1], i2⟩
            · split at h
              · cases h
              · obtain ⟨t', e, rfl⟩ := addS_inv h
                obtain ⟨i1, i2⟩ := ih k _ _ _ (by omega) e hv
                exact ⟨by rw [List.cons_append, List.nil_append, valid_low hc, i1], i2⟩
        · obtain ⟨rs, hrs, e⟩ := (valid_iff _).1 hv
          cases rs with
          | nil => cases e
          | cons z us =>
            obtain ⟨hz, hus⟩ := scalars_cons.1 hrs
            rw [enc_cons] at e
            have hz2 : 128 ≤ z := by
              rcases encR_shape z hz with ⟨hr, a, e1, ha⟩ | ⟨h1, -⟩ | ⟨h1, -⟩ | ⟨h1, -⟩
              · rw [e1] at e
                simp only [List.cons_append, List.cons.injEq] at e
                rw [e.1] at hc
                omega
              all_goals omega
            rw [e] at h
            have hh := enc_high hz hz2
            obtain ⟨x0, x, ex⟩ : ∃ x0 x, encR z = x0 :: x := by
              have := (encR_len z).1
              cases hq : encR z with
              | nil => rw [hq] at this; simp at this
              | cons a b => exact ⟨a, b, rfl⟩
            rw [ex, List.cons_append] at h
            have hx0 : 128 ≤ x0.toNat := hh x0 (by rw [ex]; simp)
            have h1 : x0 ≠ 34 := by rintro rfl; exact absurd hx0 (by decide)
            have h2 : x0 ≠ 92 := by rintro rfl; exact absurd hx0 (by decide)
            simp only [strL, h1, h2, if_false, if_neg (show ¬ x0.toNat < 32 by omega)] at h
            obtain ⟨t', e', rfl⟩ := addS_inv h
            obtain ⟨k', t'', hk', e'', rfl⟩ := str_high x _ k t' r (fun d hd => hh d (by rw [ex]; simp [hd])) e'
            obtain ⟨i1, i2⟩ := ih k' _ _ _ (by omega) e'' (valid_enc us hus)
            refine ⟨?_, i2⟩
            have e3 : [x0] ++ (x ++ t'') = encR z ++ t'' := by rw [ex]; rfl
            rw [e3, valid_encode z hz, i1]
theorem text_rdg {s t r : Bs} (h : textP s = some (t, r)) : Rdg (quote t).length (Lib.validD t = true) s r := by
  cases s with
  | nil => cases h
  | cons c s =>
    simp only [textP] at h
    split at h
    · rename_i hc
      subst hc
      have h1 := str_len _ _ _ _ h
      have h2 := escS_len t
      refine ⟨by simp only [List.length_cons]; omega, by simp only [quote, List.length_cons, List.length_append, List.length_nil]; omega, fun hv => ?_⟩
      rw [valid_low (by decide)] at hv
      exact str_valid _ _ _ _ _ (Nat.le_refl _) h hv
    · cases h
/-! ### Values -/
theorem word_inv : ∀ (w : Bs) (j j' : J) (s r : Bs), wordP w j s = some (j', r) → s = w ++ r ∧ j' = j
  | [], j, j', s, r, h => by cases h; exact ⟨rfl, rfl⟩
  | c :: w, j, j', s, r, h => by
    simp only [wordP] at h
    split at h
    · cases h
    · rename_i r' hh
      obtain ⟨rfl, rfl⟩ := word_inv w j j' r' r h
      exact ⟨next_inv hh, rfl⟩
theorem word_rdg {w : Bs} (hw : ∀ c ∈ w, c.toNat < 128) (h0 : w ≠ []) {j j' : J} (ef : formJ j = w) (ok : okJ j) {s r : Bs} (h : wordP w j s = some (j', r)) : Rdg (formJ j').length (okJ j') s r := by
  obtain ⟨rfl, rfl⟩ := word_inv _ _ _ _ _ h
  have : 0 < w.length := List.length_pos_iff.2 h0
  rw [ef]
  refine ⟨by rw [List.length_append]; omega, by rw [List.length_append]; omega, fun hv => ⟨ok, ?_⟩⟩
  rwa [valid_ascii w hw] at hv
theorem num_low {a : Bs} (h : NumS a) : ∀ c ∈ a, c.toNat < 128 := by
  obtain ⟨sg, x, fr, ex, rfl, hsg, ⟨hx, -⟩, hfr, hex⟩ := h
  intro c hc
  simp only [List.mem_append] at hc
  rcases hc with hc | hc | hc | hc
  · rcases hsg with rfl | rfl
    · simp at hc
    · simp only [List.mem_cons, List.not_mem_nil, or_false] at hc; subst hc; decide
  · exact isD_low (hx.2 c hc)
  · rcases hfr with rfl | ⟨y, rfl, hy⟩
    · simp at hc
    · simp only [List.mem_cons] at hc
      rcases hc with rfl | hc
      · decide
      · exact isD_low (hy.2 c hc)
  · rcases hex with rfl | ⟨e, sg', z, rfl, he, hs, hz⟩
    · simp at hc
    · simp only [List.mem_cons, List.mem_append] at hc
      rcases hc with rfl | hc | hc
      · rcases he with rfl | rfl <;> decide
      · rcases hs with rfl | rfl | rfl
        · simp at hc
        · simp only [List.mem_cons, List.not_mem_nil, or_false] at hc; subst hc; decide
        · simp only [List.mem_cons, List.not_mem_nil, or_false] at hc; subst hc; decide
      · exact isD_low (hz.2 c hc)
theorem num_rdg {s r : Bs} {j : J} (h : numP s = some (j, r)) : Rdg (formJ j).length (okJ j) s r := by
  unfold numP at h
  split at h
  · cases h
  · rename_i h0
    cases h
    obtain ⟨h1, h2⟩ := num_inv h0
    refine ⟨by rw [List.length_drop]; omega, by simp only [formJ, List.length_take, List.length_drop]; omega, fun hv => ⟨h2, ?_⟩⟩
    rw [← List.take_append_drop (numN s) s, valid_ascii _ (num_low h2)] at hv
    exact hv
theorem Rdg.sp {len : Nat} {ok : Prop} {s r : Bs} (h : Rdg len ok (sp s) r) : Rdg len ok s r := by
  obtain ⟨h1, h2, h3⟩ := h
  have := sp_len s
  exact ⟨by omega, by omega, fun hv => h3 (by rw [sp_valid, hv])⟩
theorem Rdg.spR {len : Nat} {ok : Prop} {s r : Bs} (h : Rdg len ok s r) : Rdg len ok s (Go.Proofs.YtljnbbdhmlfhjaaDoor.sp r) := by
  obtain ⟨h1, h2, h3⟩ := h
  have := sp_len r
  exact ⟨by omega, by omega, fun hv => ⟨(h3 hv).1, by rw [sp_valid]; exact (h3 hv).2⟩⟩
theorem Rdg.next {len : Nat} {ok : Prop} {c : UInt8} (hc : c.toNat < 128) {s r : Bs} (h : Rdg len ok s r) : Rdg (len + 1) ok (c :: s) r := by
  obtain ⟨h1, h2, h3⟩ := h
  exact ⟨by simp only [List.length_cons]; omega, by simp only [List.length_cons]; omega, fun hv => h3 (by rwa [valid_low hc] at hv)⟩
theorem more_inv {α : Type} {e : UInt8} {x : α} {rest : Bs → Option (List α × Bs)} {s r : Bs} {l : List α} (h : moreP e x rest s = some (l, r)) :
    (l = [x] ∧ s = e :: r) ∨ ∃ l' s', s = 44 :: s' ∧ nextB e s = none ∧ rest s' = some (l', r) ∧ l = x :: l' := by
  unfold moreP at h
  split at h
  · rename_i r' hh
    cases h
    exact .inl ⟨rfl, next_inv hh⟩
  · rename_i hh
    split at h
    · cases h
    · rename_i r' h2
      right
      cases hr : rest r' with
      | none => rw [hr] at h; cases h
      | some p =>
        rw [hr] at h
        obtain ⟨l', r''⟩ := p
        cases h
        exact ⟨l', r', next_inv h2, hh, hr, rfl⟩
def ValOk (val : Bs → Option (J × Bs)) : Prop := ∀ s j r, val s = some (j, r) → Rdg (formJ j).length (okJ j) s r
theorem items_rdg {val : Bs → Option (J × Bs)} (hv : ValOk val) : ∀ (n : Nat) (s r : Bs) (l : List J), itemsL val n s = some (l, r) → l ≠ [] ∧ Rdg (formL l).length (okL l) s r
  | 0, s, r, l, h => by cases h
  | n + 1, s, r, l, h => by
    simp only [itemsL] at h
    split at h
    · cases h
    · rename_i j r1 hh
      obtain ⟨a1, a2, a3⟩ := hv _ _ _ hh
      rcases more_inv h with ⟨rfl, rfl⟩ | ⟨l', s', rfl, -, hr, rfl⟩
      · refine ⟨by simp, ?_⟩
        simp only [List.length_cons] at a1 a2
        refine ⟨by omega, by simp only [formL, formT, List.length_append, List.length_nil]; omega, fun w => ?_⟩
        obtain ⟨b1, b2⟩ := a3 w
        exact ⟨⟨b1, trivial⟩, by rwa [valid_low (by decide)] at b2⟩
      · obtain ⟨hne, c1, c2, c3⟩ := items_rdg hv n s' r l' hr
        refine ⟨by simp, ?_⟩
        obtain ⟨y, l', rfl⟩ := List.exists_cons_of_ne_nil hne
        simp only [List.length_cons] at a1 a2
        refine ⟨by omega, ?_, fun w => ?_⟩
        · simp only [formL, formT, List.length_append, List.length_cons] at c2 ⊢
          omega
        · obtain ⟨b1, b2⟩ := a3 w
          rw [valid_low (by decide)] at b2
          obtain ⟨d1, d2⟩ := c3 b2
          exact ⟨⟨b1, d1⟩, d2⟩
theorem mem_rdg {val : Bs → Option (J × Bs)} (hv : ValOk val) {s r : Bs} {m : Bs × J} (h : memP' val s = some (m, r)) : Rdg (formE m).length (okE m) s r := by
  unfold memP' at h
  split at h
  · cases h
  · rename_i n r1 hh
    split at h
    · cases h
    · rename_i r2 h2
      split at h
      · cases h
      · rename_i j r3 h3
        cases h
        obtain ⟨a1, a2, a3⟩ := (text_rdg hh).sp.spR
        obtain ⟨c1, c2, c3⟩ := hv _ _ _ h3
        rw [next_inv h2] at a1 a2 a3
        simp only [List.length_cons] at a1 a2
        refine ⟨by omega, by simp only [formE, List.length_append, List.length_cons]; omega, fun w => ?_⟩
        obtain ⟨b1, b2⟩ := a3 w
        rw [valid_low (by decide)] at b2
        obtain ⟨d1, d2⟩ := c3 b2
        exact ⟨⟨b1, d1⟩, d2⟩
theorem mems_rdg {val : Bs → Option (J × Bs)} (hv : ValOk val) : ∀ (n : Nat) (s r : Bs) (l : List (Bs × J)), memsL val n s = some (l, r) → l ≠ [] ∧ Rdg (formM l).length (okM l) s r
  | 0, s, r, l, h => by cases h
  | n + 1, s, r, l, h => by
    simp only [memsL] at h
    split at h
    · cases h
    · rename_i j r1 hh
      obtain ⟨a1, a2, a3⟩ := mem_rdg hv hh
      rcases more_inv h with ⟨rfl, rfl⟩ | ⟨l', s', rfl, -, hr, rfl⟩
      · refine ⟨by simp, ?_⟩
        simp only [List.length_cons] at a1 a2
        refine ⟨by omega, by simp only [formM, formU, List.length_append, List.length_nil]; omega, fun w => ?_⟩
        obtain ⟨b1, b2⟩ := a3 w
        exact ⟨⟨b1, trivial⟩, by rwa [valid_low (by decide)] at b2⟩
      · obtain ⟨hne, c1, c2, c3⟩ := mems_rdg hv n s' r l' hr
        refine ⟨by simp, ?_⟩
        obtain ⟨y, l', rfl⟩ := List.exists_cons_of_ne_nil hne
        simp only [List.length_cons] at a1 a2
        refine ⟨by omega, ?_, fun w => ?_⟩
        · simp only [formM, formU, List.length_append, List.length_cons] at c2 ⊢
          omega
        · obtain ⟨b1, b2⟩ := a3 w
          rw [valid_low (by decide)] at b2
          obtain ⟨d1, d2⟩ := c3 b2
          exact ⟨⟨b1, d1⟩, d2⟩
theorem arr_rdg {val : Bs → Option (J × Bs)} (hv : ValOk val) {s r : Bs} {j : J} (h : arrP val s = some (j, r)) : Rdg (formJ j).length (okJ j) (91 :: s) r := by
  have hsl := sp_len s
  have hsv := sp_valid s
  unfold arrP at h
  split at h
  · rename_i r1 hh
    cases h
    have e := next_inv hh
    rw [e] at hsl hsv
    rw [valid_low (by decide)] at hsv
    simp only [List.length_cons] at hsl
    refine ⟨by simp only [List.length_cons]; omega, by simp only [formJ, formL, List.length_cons, List.nil_append, List.length_nil]; omega, fun w => ⟨trivial, ?_⟩⟩
    rwa [valid_low (by decide), ← hsv] at w
  · split at h
    · cases h
    · rename_i l r1 hh
      cases h
      obtain ⟨-, c1, c2, c3⟩ := items_rdg hv _ _ _ _ hh
      refine ⟨by simp only [List.length_cons]; omega, by simp only [formJ, List.length_cons, List.length_append, List.length_nil]; omega, fun w => ?_⟩
      rw [valid_low (by decide), ← hsv] at w
      exact c3 w
theorem obj_rdg {val : Bs → Option (J × Bs)} (hv : ValOk val) {s r : Bs} {j : J} (h : objP val s = some (j, r)) : Rdg (formJ j).length (okJ j) (123 :: s) r := by
  have hsl := sp_len s
  have hsv := sp_valid s
  unfold objP at h
  split at h
  · rename_i r1 hh
    cases h
    have e := next_inv hh
    rw [e] at hsl hsv
    rw [valid_low (by decide)] at hsv
    simp only [List.length_cons] at hsl
    refine ⟨by simp only [List.length_cons]; omega, by simp only [formJ, formM, List.length_cons, List.nil_append, List.length_nil]; omega, fun w => ⟨trivial, ?_⟩⟩
    rwa [valid_low (by decide), ← hsv] at w
  · split at h
    · cases h
    · rename_i l r1 hh
      cases h
      obtain ⟨-, c1, c2, c3⟩ := mems_rdg hv _ _ _ _ hh
      refine ⟨by simp only [List.length_cons]; omega, by simp only [formJ, List.length_cons, List.length_append, List.length_nil]; omega, fun w => ?_⟩
      rw [valid_low (by decide), ← hsv] at w
      exact c3 w
theorem head_cons {s : Bs} {c : UInt8} (h : s.head? = some c) : s = c :: s.drop 1 := by
  cases s with
  | nil => cases h
  | cons d s => cases h; rfl
theorem bar_rdg {val : Bs → Option (J × Bs)} (hv : ValOk val) : ValOk (barP val) := by
  intro s j r h
  unfold barP at h
  split at h
  · exact word_rdg (w := nullB) (j := .nul) (by decide) (by decide) rfl trivial h
  split at h
  · exact word_rdg (w := trueB) (j := .bool true) (by decide) (by decide) rfl trivial h
  split at h
  · exact word_rdg (w := falseB) (j := .bool false) (by decide) (by decide) rfl trivial h
  split at h
  · unfold strP at h
    split at h
    · cases h
    · rename_i t r1 hh
      cases h
      exact text_rdg hh
  split at h
  · rename_i hs
    rw [head_cons hs]
    exact arr_rdg hv h
  split at h
  · rename_i hs
    rw [head_cons hs]
    exact obj_rdg hv h
  · exact num_rdg h
theorem val_rdg : ∀ k, ValOk (valP k)
  | 0 => fun _ _ _ h => by cases h
  | k + 1 => fun s j r h => by
    rw [valP] at h
    cases hb : barP (valP k) (sp s) with
    | none => rw [hb] at h; cases h
    | some p =>
      obtain ⟨j', r'⟩ := p
      rw [hb] at h
      cases h
      exact (bar_rdg (val_rdg k) _ _ _ hb).sp.spR
/-! ### The one form is valid -/
theorem hexD_low : ∀ n, n < 16 → (hexD n).toNat < 128 := by decide
theorem escB_valid {c : UInt8} (h : c.toNat < 128) : ∀ d ∈ escB c, d.toNat < 128 := by
  have h1 := hexD_low (c.toNat / 16 % 16) (Nat.mod_lt _ (by decide))
  have h2 := hexD_low (c.toNat % 16) (Nat.mod_lt _ (by decide))
  intro d hd
  unfold escB at hd
  repeat' split at hd
  all_goals
    simp only [List.mem_cons, List.not_mem_nil, or_false] at hd
  · rcases hd with rfl | rfl
    · decide
    · exact h
  · rcases hd with rfl | rfl <;> decide
  · rcases hd with rfl | rfl <;> decide
  · rcases hd with rfl | rfl <;> decide
  · rcases hd with rfl | rfl <;> decide
  · rcases hd with rfl | rfl <;> decide
  · rename_i hc
    rw [Nat.mod_eq_of_lt (by omega)] at h1
    rcases hd with rfl | rfl | rfl | rfl | rfl | rfl
    · decide
    · decide
    · decide
    · decide
    · exact h1
    · exact h2
  · rw [hd]; exact h
theorem escS_enc : ∀ rs : List Nat, scalars rs → Lib.validD (escS (enc rs)) = true
  | [], _ => rfl
  | z :: rs, h => by
    obtain ⟨hz, hrs⟩ := scalars_cons.1 h
    have ih := escS_enc rs hrs
    have e : escS (enc (z :: rs)) = escS (encR z) ++ escS (enc rs) := by rw [enc_cons]; simp [escS]
    rw [e]
    by_cases h1 : z < 128
    · rcases encR_shape z hz with ⟨hr, a, e1, ha⟩ | ⟨h1, -⟩ | ⟨h1, -⟩ | ⟨h1, -⟩
      · have : escS [a] = escB a := by simp [escS]
        rw [e1, this, valid_ascii _ (escB_valid (by omega)), ih]
      all_goals omega
    · have hh := enc_high hz (by omega)
      have : ∀ x : Bs, (∀ c ∈ x, 128 ≤ c.toNat) → escS x = x := by
        intro x
        induction x with
        | nil => intro _; rfl
        | cons c x ihx =>
          intro hx
          have hc := hx c (by simp)
          rw [escS_cons, ihx (fun d hd => hx d (by simp [hd])), esc_plain]
          · rfl
          · rintro (rfl | rfl)
            · exact absurd hc (by decide)
            · exact absurd hc (by decide)
          · omega
      rw [this _ hh, valid_encode z hz, ih]
theorem quote_valid {s : Bs} (h : Lib.validD s = true) (t : Bs) : Lib.validD (quote s ++ t) = Lib.validD t := by
  obtain ⟨rs, hrs, rfl⟩ := (valid_iff _).1 h
  rw [quote_app, valid_low (by decide), valid_append _ _ (escS_enc rs hrs), valid_low (by decide)]
mutual
theorem form_valid : ∀ (j : J), okJ j → ∀ t, Lib.validD (formJ j ++ t) = Lib.validD t
  | .nul, _, t => valid_ascii _ (by decide) t
  | .bool true, _, t => valid_ascii _ (by decide) t
  | .bool false, _, t => valid_ascii _ (by decide) t
  | .num s, h, t => valid_ascii _ (num_low h) t
  | .str s, h, t => quote_valid h t
  | .arr l, h, t => by
    have e : formJ (.arr l) ++ t = 91 :: (formL l ++ 93 :: t) := by simp [formJ]
    rw [e, valid_low (by decide), forms_valid l h, valid_low (by decide)]
  | .obj l, h, t => by
    have e : formJ (.obj l) ++ t = 123 :: (formM l ++ 125 :: t) := by simp [formJ]
    rw [e, valid_low (by decide), formm_valid l h, valid_low (by decide)]
theorem forms_valid : ∀ (l : List J), okL l → ∀ t, Lib.validD (formL l ++ t) = Lib.validD t
  | [], _, t => rfl
  | x :: l, h, t => by
    have e : formL (x :: l) ++ t = formJ x ++ (formT l ++ t) := by simp [formL]
    rw [e, form_valid x h.1, formt_valid l h.2]
theorem formt_valid : ∀ (l : List J), okL l → ∀ t, Lib.validD (formT l ++ t) = Lib.validD t
  | [], _, t => rfl
  | x :: l, h, t => by
    have e : formT (x :: l) ++ t = 44 :: (formJ x ++ (formT l ++ t)) := by simp [formT]
    rw [e, valid_low (by decide), form_valid x h.1, formt_valid l h.2]
theorem formm_valid : ∀ (l : List (Bs × J)), okM l → ∀ t, Lib.validD (formM l ++ t) = Lib.validD t
  | [], _, t => rfl
  | (n, x) :: l, h, t => by
    have e : formM ((n, x) :: l) ++ t = quote n ++ 58 :: (formJ x ++ (formU l ++ t)) := by simp [formM, formE]
    rw [e, quote_valid h.1.1, valid_low (by decide), form_valid x h.1.2, formu_valid l h.2]
theorem formu_valid : ∀ (l : List (Bs × J)), okM l → ∀ t, Lib.validD (formU l ++ t) = Lib.validD t
  | [], _, t => rfl
  | (n, x) :: l, h, t => by
    have e : formU ((n, x) :: l) ++ t = 44 :: (quote n ++ 58 :: (formJ x ++ (formU l ++ t))) := by simp [formU, formE]
    rw [e, valid_low (by decide), quote_valid h.1.1, valid_low (by decide), form_valid x h.1.2, formu_valid l h.2]
end
end Go.Proofs.YtljnbbdhmlfhjaaDoor
