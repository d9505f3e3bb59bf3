/-
  Plain laws of UTF-8: the runes of a text, the text of runes, valid texts. No program in sight.
-/
import Derived.Lib.MapLaws
import Derived.Lib.ValidLaws
namespace Go.Proofs.YtljnbbdhmlfhjaaGreatDoor
open Go.Lib

def runesGo : Nat → List UInt8 → List Nat
  | 0, _ => []
  | n + 1, l => if l = [] then [] else (decodeL l).1 :: runesGo n (l.drop (decodeL l).2)
def runes (l : List UInt8) : List Nat := runesGo l.length l

theorem runesGo_nil : ∀ n, runesGo n [] = []
  | 0 => rfl
  | _ + 1 => by simp [runesGo]
theorem runesGo_fuel : ∀ (n m : Nat) (l : List UInt8), l.length ≤ n → l.length ≤ m → runesGo n l = runesGo m l
  | 0, m, l, hn, _ => by
    have : l = [] := List.eq_nil_of_length_eq_zero (by omega)
    subst this
    rw [runesGo_nil, runesGo_nil]
  | n + 1, 0, l, _, hm => by
    have : l = [] := List.eq_nil_of_length_eq_zero (by omega)
    subst this
    rw [runesGo_nil, runesGo_nil]
  | n + 1, m + 1, l, hn, hm => by
    by_cases hne : l = []
    · subst hne
      rw [runesGo_nil, runesGo_nil]
    · have hw := decodeL_width l
      have hl : 0 < l.length := List.length_pos_iff.2 hne
      simp only [runesGo, if_neg hne]
      rw [runesGo_fuel n m _ (by rw [List.length_drop]; omega) (by rw [List.length_drop]; omega)]
theorem runes_nil : runes [] = [] := rfl
theorem runes_step (l : List UInt8) (hne : l ≠ []) : runes l = (decodeL l).1 :: runes (l.drop (decodeL l).2) := by
  have hw := decodeL_width l
  have hl : 0 < l.length := List.length_pos_iff.2 hne
  unfold runes
  obtain ⟨n, hn⟩ : ∃ n, l.length = n + 1 := ⟨l.length - 1, by omega⟩
  rw [hn]
  simp only [runesGo, if_neg hne]
  rw [runesGo_fuel n _ _ (by rw [List.length_drop]; omega) (Nat.le_refl _)]

/-- An induction over the runes of a text. -/
theorem runes_ind {P : List UInt8 → Prop} (h0 : P []) (h1 : ∀ l, l ≠ [] → P (l.drop (decodeL l).2) → P l) : ∀ l, P l := by
  have : ∀ n (l : List UInt8), l.length ≤ n → P l := by
    intro n
    induction n with
    | zero => intro l hl; have : l = [] := List.eq_nil_of_length_eq_zero (by omega); subst this; exact h0
    | succ n ih =>
      intro l hl
      by_cases hne : l = []
      · subst hne; exact h0
      · have hw := decodeL_width l
        have hl' : 0 < l.length := List.length_pos_iff.2 hne
        exact h1 l hne (ih _ (by rw [List.length_drop]; omega))
  exact fun l => this l.length l (Nat.le_refl _)

def scalar (r : Nat) : Prop := r < 55296 ∨ (57344 ≤ r ∧ r ≤ 1114111)
theorem decodeL_scalar (l : List UInt8) : scalar (decodeL l).1 := by
  rw [decodeL_N]
  have k0 := (l.getD 0 0).toNat_lt
  have k1 := (l.getD 1 0).toNat_lt
  unfold scalar
  rcases decodeN_shape l.length (l.getD 0 0).toNat (l.getD 1 0).toNat (l.getD 2 0).toNat (l.getD 3 0).toNat with ⟨c, e⟩ | ⟨c1, c2, c3, cv, e⟩ | ⟨c1, c2, c3, c4, cv, cs, e⟩ | ⟨c1, c2, c3, c4, c5, cv, cw, e⟩ | e
  all_goals (rw [e]; dsimp only; omega)
theorem runes_scalar (l : List UInt8) : ∀ r ∈ runes l, scalar r := by
  refine runes_ind (P := fun l => ∀ r ∈ runes l, scalar r) ?_ ?_ l
  · intro r h; cases h
  · intro l hne ih r h
    rw [runes_step l hne] at h
    rcases List.mem_cons.1 h with h | h
    · subst h; exact decodeL_scalar l
    · exact ih r h
theorem runes_length (l : List UInt8) : (runes l).length ≤ l.length := by
  refine runes_ind (P := fun l => (runes l).length ≤ l.length) (Nat.le_refl _) ?_ l
  intro l hne ih
  have hw := decodeL_width l
  have hl : 0 < l.length := List.length_pos_iff.2 hne
  rw [runes_step l hne]
  simp only [List.length_cons, List.length_drop] at ih ⊢
  omega

def encR (r : Nat) : List UInt8 := encodeRune (r : Int)
theorem byteN (z : Int) (h0 : 0 ≤ z) (h1 : z < 256) : (z.toNat.toUInt8).toNat = z.toNat := by
  rw [Nat.toUInt8_eq, UInt8.toNat_ofNat']
  omega
theorem encR_len (r : Nat) : 1 ≤ (encR r).length ∧ (encR r).length ≤ 4 := by
  have := encodeRuneZ_length (r : Int)
  simpa [encR, encodeRune] using this

/-- What the encoding of a scalar is, byte by byte. -/
theorem encR_shape (r : Nat) (h : scalar r) :
    (r < 128 ∧ ∃ a : UInt8, encR r = [a] ∧ a.toNat = r) ∨
    (128 ≤ r ∧ r < 2048 ∧ ∃ a b : UInt8, encR r = [a, b] ∧ a.toNat = 192 + r / 64 ∧ b.toNat = 128 + r % 64) ∨
    (2048 ≤ r ∧ r < 65536 ∧ ∃ a b c : UInt8, encR r = [a, b, c] ∧ a.toNat = 224 + r / 4096 ∧ b.toNat = 128 + r / 64 % 64 ∧ c.toNat = 128 + r % 64) ∨
    (65536 ≤ r ∧ r ≤ 1114111 ∧ ∃ a b c d : UInt8, encR r = [a, b, c, d] ∧ a.toNat = 240 + r / 262144 ∧ b.toNat = 128 + r / 4096 % 64 ∧ c.toNat = 128 + r / 64 % 64 ∧ d.toNat = 128 + r % 64) := by
  unfold scalar at h
  unfold encR encodeRune
  by_cases h1 : r < 128
  · left
    refine ⟨h1, _, by rw [encodeRuneZ_one (by omega) (by omega)]; rfl, ?_⟩
    rw [byteN _ (by omega) (by omega)]; omega
  · right
    by_cases h2 : r < 2048
    · left
      refine ⟨by omega, h2, _, _, by rw [encodeRuneZ_two (by omega) (by omega)]; rfl, ?_, ?_⟩ <;> (rw [byteN _ (by omega) (by omega)]; omega)
    · right
      by_cases h3 : r < 65536
      · left
        refine ⟨by omega, h3, _, _, _, by rw [encodeRuneZ_three (by omega)]; rfl, ?_, ?_, ?_⟩ <;> (rw [byteN _ (by omega) (by omega)]; omega)
      · right
        refine ⟨by omega, by omega, _, _, _, _, by rw [encodeRuneZ_four (by omega) (by omega)]; rfl, ?_, ?_, ?_, ?_⟩ <;> (rw [byteN _ (by omega) (by omega)]; omega)

theorem decodeN_one (n b0 b1 b2 b3 : Nat) (h : b0 < 128) : decodeN n b0 b1 b2 b3 = (b0, 1) := by simp [decodeN, h]
theorem decodeN_two (n b0 b1 b2 b3 r : Nat) (hr : 128 ≤ r ∧ r < 2048) (h0 : b0 = 192 + r / 64) (h1 : b1 = 128 + r % 64) (hn : 1 < n) : decodeN n b0 b1 b2 b3 = (r, 2) := by
  unfold decodeN
  rw [if_neg (by omega), if_pos (by omega), if_pos (by omega)]
  exact congrArg (·, 2) (by omega)
theorem decodeN_three (n b0 b1 b2 b3 r : Nat) (hr : 2048 ≤ r ∧ r < 65536) (hs : scalar r) (h0 : b0 = 224 + r / 4096) (h1 : b1 = 128 + r / 64 % 64) (h2 : b2 = 128 + r % 64) (hn : 2 < n) : decodeN n b0 b1 b2 b3 = (r, 3) := by
  unfold scalar at hs
  unfold decodeN
  rw [if_neg (by omega), if_neg (by omega), if_pos (by omega)]
  have e : b0 % 16 * 4096 + b1 % 64 * 64 + b2 % 64 = r := by omega
  rw [e, if_pos (by omega)]
theorem decodeN_four (n b0 b1 b2 b3 r : Nat) (hr : 65536 ≤ r ∧ r ≤ 1114111) (h0 : b0 = 240 + r / 262144) (h1 : b1 = 128 + r / 4096 % 64) (h2 : b2 = 128 + r / 64 % 64) (h3 : b3 = 128 + r % 64) (hn : 3 < n) : decodeN n b0 b1 b2 b3 = (r, 4) := by
  unfold decodeN
  rw [if_neg (by omega), if_neg (by omega), if_neg (by omega), if_pos (by omega)]
  have e : b0 % 8 * 262144 + b1 % 64 * 4096 + b2 % 64 * 64 + b3 % 64 = r := by omega
  rw [e, if_pos (by omega)]

theorem decode_encode (r : Nat) (h : scalar r) (t : List UInt8) : decodeL (encR r ++ t) = (r, (encR r).length) := by
  rw [decodeL_N]
  rcases encR_shape r h with ⟨hr, a, e, ha⟩ | ⟨hr, hr', a, b, e, ha, hb⟩ | ⟨hr, hr', a, b, c, e, ha, hb, hc⟩ | ⟨hr, hr', a, b, c, d, e, ha, hb, hc, hd⟩
  · rw [e]; simp only [List.cons_append, List.nil_append, List.getD_cons_zero, List.length_cons, List.length_nil]
    rw [decodeN_one _ _ _ _ _ (by omega), ha]
  · rw [e]; simp only [List.cons_append, List.nil_append, List.getD_cons_zero, List.getD_cons_succ, List.length_cons, List.length_nil]
    exact decodeN_two _ _ _ _ _ r ⟨hr, hr'⟩ ha hb (by omega)
  · rw [e]; simp only [List.cons_append, List.nil_append, List.getD_cons_zero, List.getD_cons_succ, List.length_cons, List.length_nil]
    exact decodeN_three _ _ _ _ _ r ⟨hr, hr'⟩ h ha hb hc (by omega)
  · rw [e]; simp only [List.cons_append, List.nil_append, List.getD_cons_zero, List.getD_cons_succ, List.length_cons, List.length_nil]
    exact decodeN_four _ _ _ _ _ r ⟨hr, hr'⟩ ha hb hc hd (by omega)
theorem encR_ne (r : Nat) (t : List UInt8) : encR r ++ t ≠ [] := by
  have := encR_len r
  intro h
  have h2 := congrArg List.length h
  simp only [List.length_append, List.length_nil] at h2
  omega
theorem runes_encode (r : Nat) (h : scalar r) (t : List UInt8) : runes (encR r ++ t) = r :: runes t := by
  rw [runes_step _ (encR_ne r t), decode_encode r h t]
  simp only [List.drop_left]
theorem valid_encode (r : Nat) (h : scalar r) (t : List UInt8) : validD (encR r ++ t) = validD t := by
  rw [validD_step _ (encR_ne r t), decode_encode r h t]
  simp only [List.drop_left]
  rw [if_neg]
  rintro ⟨h1, h2⟩
  rcases encR_shape r h with ⟨hr, a, e, ha⟩ | ⟨hr, hr', a, b, e, ha, hb⟩ | ⟨hr, hr', a, b, c, e, ha, hb, hc⟩ | ⟨hr, hr', a, b, c, d, e, ha, hb, hc, hd⟩
  · omega
  all_goals (rw [e] at h2; simp at h2)

/-- The text of runes. -/
def enc (l : List Nat) : List UInt8 := l.flatMap encR
theorem enc_nil : enc [] = [] := rfl
theorem enc_cons (r : Nat) (l : List Nat) : enc (r :: l) = encR r ++ enc l := by simp [enc]
theorem enc_append (a b : List Nat) : enc (a ++ b) = enc a ++ enc b := by simp [enc]
def scalars (l : List Nat) : Prop := ∀ r ∈ l, scalar r
theorem scalars_nil : scalars [] := fun _ h => by cases h
theorem scalars_cons {r : Nat} {l : List Nat} : scalars (r :: l) ↔ scalar r ∧ scalars l := by simp [scalars]
theorem scalars_append {a b : List Nat} : scalars (a ++ b) ↔ scalars a ∧ scalars b := by
  simp only [scalars, List.mem_append]
  exact ⟨fun h => ⟨fun r hr => h r (.inl hr), fun r hr => h r (.inr hr)⟩, fun h r hr => hr.elim (h.1 r) (h.2 r)⟩
theorem runes_enc_append (l : List Nat) (h : scalars l) (t : List UInt8) : runes (enc l ++ t) = l ++ runes t := by
  induction l with
  | nil => rfl
  | cons r l ih =>
    rw [scalars_cons] at h
    rw [enc_cons, List.append_assoc, runes_encode r h.1, ih h.2, List.cons_append]
theorem runes_enc (l : List Nat) (h : scalars l) : runes (enc l) = l := by
  have := runes_enc_append l h []
  simpa [runes_nil] using this
theorem valid_enc_append (l : List Nat) (h : scalars l) (t : List UInt8) : validD (enc l ++ t) = validD t := by
  induction l with
  | nil => rfl
  | cons r l ih =>
    rw [scalars_cons] at h
    rw [enc_cons, List.append_assoc, valid_encode r h.1, ih h.2]
theorem valid_enc (l : List Nat) (h : scalars l) : validD (enc l) = true := by
  have := valid_enc_append l h []
  simpa [validD_nil] using this
theorem enc_runes (l : List UInt8) : validD l = true → enc (runes l) = l := by
  refine runes_ind (P := fun l => validD l = true → enc (runes l) = l) (fun _ => rfl) ?_ l
  intro l hne ih h
  rw [validD_step l hne] at h
  by_cases hb : (decodeL l).1 = 65533 ∧ (decodeL l).2 = 1
  · rw [if_pos hb] at h; cases h
  · rw [if_neg hb] at h
    rw [runes_step l hne, enc_cons, ih h, encR, encode_decode l hne hb, List.take_append_drop]
theorem runes_scalars (l : List UInt8) : scalars (runes l) := runes_scalar l
theorem valid_iff (l : List UInt8) : validD l = true ↔ ∃ rs, scalars rs ∧ l = enc rs :=
  ⟨fun h => ⟨runes l, runes_scalars l, (enc_runes l h).symm⟩, fun ⟨rs, h, e⟩ => e ▸ valid_enc rs h⟩
theorem runes_append (s t : List UInt8) (h : validD s = true) : runes (s ++ t) = runes s ++ runes t := by
  obtain ⟨rs, hs, rfl⟩ := (valid_iff s).1 h
  rw [runes_enc_append rs hs, runes_enc rs hs]
theorem valid_append (s t : List UInt8) (h : validD s = true) : validD (s ++ t) = validD t := by
  obtain ⟨rs, hs, rfl⟩ := (valid_iff s).1 h
  rw [valid_enc_append rs hs]
theorem enc_length (l : List Nat) : l.length ≤ (enc l).length ∧ (enc l).length ≤ 4 * l.length := by
  induction l with
  | nil => simp [enc]
  | cons r l ih =>
    have := encR_len r
    rw [enc_cons]
    simp only [List.length_append, List.length_cons]
    omega

/-- A byte that stands within a rune, or none. -/
def contB (b : UInt8) : Bool := decide (128 ≤ b.toNat ∧ b.toNat ≤ 191)
theorem decode_cont (b : UInt8) (t : List UInt8) (h : contB b = true) : decodeL (b :: t) = (65533, 1) := by
  have hb : 128 ≤ b.toNat ∧ b.toNat ≤ 191 := by simpa [contB] using h
  rw [decodeL_N]
  simp only [List.getD_cons_zero]
  unfold decodeN
  rw [if_neg (by omega), if_neg (by omega), if_neg (by omega), if_neg (by omega)]
theorem valid_cont (b : UInt8) (t : List UInt8) (h : contB b = true) : validD (b :: t) = false := by
  rw [validD_step _ (by simp), decode_cont b t h]; simp
theorem runes_cont (b : UInt8) (t : List UInt8) (h : contB b = true) : runes (b :: t) = 65533 :: runes t := by
  rw [runes_step _ (by simp), decode_cont b t h]; rfl

theorem decodeN_cut2 (b0 b1 b2 b3 : Nat) (h0 : 192 ≤ b0) : decodeN 1 b0 b1 b2 b3 = (65533, 1) := by
  unfold decodeN; rw [if_neg (by omega), if_neg (by omega), if_neg (by omega), if_neg (by omega)]
theorem decodeN_cut3 (b0 b1 b2 b3 : Nat) (h0 : 224 ≤ b0) : decodeN 2 b0 b1 b2 b3 = (65533, 1) := by
  unfold decodeN; rw [if_neg (by omega)]
  by_cases h : b0 / 32 = 6 ∧ (1 < 2 ∧ b1 / 64 = 2)
  · omega
  · rw [if_neg h, if_neg (by omega), if_neg (by omega)]
theorem decodeN_cut4 (b0 b1 b2 b3 : Nat) (h0 : 240 ≤ b0) (h1 : b0 < 256) : decodeN 3 b0 b1 b2 b3 = (65533, 1) := by
  unfold decodeN; rw [if_neg (by omega), if_neg (by omega), if_neg (by omega), if_neg (by omega)]
theorem valid_bad (l : List UInt8) (hne : l ≠ []) (h : decodeL l = (65533, 1)) : validD l = false := by
  rw [validD_step l hne, h]; simp

/-- A rune's text: its first byte is no inner one, the others are; what is cut off within it isn't valid. -/
theorem encR_cut (r : Nat) (h : scalar r) (k : Nat) (hk : k < (encR r).length) :
    contB ((encR r).getD k 0) = decide (0 < k) ∧ (0 < k → validD ((encR r).take k) = false) := by
  rcases encR_shape r h with ⟨hr, a, e, ha⟩ | ⟨hr, hr', a, b, e, ha, hb⟩ | ⟨hr, hr', a, b, c, e, ha, hb, hc⟩ | ⟨hr, hr', a, b, c, d, e, ha, hb, hc, hd⟩
  · rw [e] at hk ⊢
    obtain rfl : k = 0 := by simpa using hk
    refine ⟨?_, fun h => by omega⟩
    simp [contB]; omega
  · rw [e] at hk ⊢
    simp only [List.length_cons, List.length_nil] at hk
    rcases (by omega : k = 0 ∨ k = 1) with rfl | rfl
    · exact ⟨by simp [contB]; omega, fun h => by omega⟩
    · refine ⟨by simp [contB]; omega, fun _ => ?_⟩
      exact valid_bad _ (by simp) (by rw [decodeL_N]; exact decodeN_cut2 _ _ _ _ (by simp; omega))
  · rw [e] at hk ⊢
    simp only [List.length_cons, List.length_nil] at hk
    rcases (by omega : k = 0 ∨ k = 1 ∨ k = 2) with rfl | rfl | rfl
    · exact ⟨by simp [contB]; omega, fun h => by omega⟩
    · refine ⟨by simp [contB]; omega, fun _ => ?_⟩
      exact valid_bad _ (by simp) (by rw [decodeL_N]; exact decodeN_cut2 _ _ _ _ (by simp; omega))
    · refine ⟨by simp [contB]; omega, fun _ => ?_⟩
      exact valid_bad _ (by simp) (by rw [decodeL_N]; exact decodeN_cut3 _ _ _ _ (by simp; omega))
  · rw [e] at hk ⊢
    simp only [List.length_cons, List.length_nil] at hk
    have := a.toNat_lt
    rcases (by omega : k = 0 ∨ k = 1 ∨ k = 2 ∨ k = 3) with rfl | rfl | rfl | rfl
    · exact ⟨by simp [contB]; omega, fun h => by omega⟩
    · refine ⟨by simp [contB]; omega, fun _ => ?_⟩
      exact valid_bad _ (by simp) (by rw [decodeL_N]; exact decodeN_cut2 _ _ _ _ (by simp; omega))
    · refine ⟨by simp [contB]; omega, fun _ => ?_⟩
      exact valid_bad _ (by simp) (by rw [decodeL_N]; exact decodeN_cut3 _ _ _ _ (by simp; omega))
    · refine ⟨by simp [contB]; omega, fun _ => ?_⟩
      exact valid_bad _ (by simp) (by rw [decodeL_N]; exact decodeN_cut4 _ _ _ _ (by simp; omega) (by simp; omega))

theorem getD_app_left {α : Type} (a b : List α) (d : α) (k : Nat) (h : k < a.length) : (a ++ b).getD k d = a.getD k d := by
  rw [List.getD_eq_getElem?_getD, List.getD_eq_getElem?_getD, List.getElem?_append_left h]
theorem getD_app_right {α : Type} (a b : List α) (d : α) (k : Nat) (h : a.length ≤ k) : (a ++ b).getD k d = b.getD (k - a.length) d := by
  rw [List.getD_eq_getElem?_getD, List.getD_eq_getElem?_getD, List.getElem?_append_right h]

/-- A valid text, cut. -/
theorem valid_cut (l : List UInt8) (hv : validD l = true) (k : Nat) (hk : k ≤ l.length) :
    validD (l.take k) = (decide (k = l.length) || !contB (l.getD k 0)) ∧ validD (l.drop k) = (decide (k = l.length) || !contB (l.getD k 0)) := by
  obtain ⟨rs, hs, rfl⟩ := (valid_iff l).1 hv
  clear hv
  induction rs generalizing k with
  | nil =>
    have : k = 0 := by simpa [enc] using hk
    subst this
    simp [enc, validD_nil]
  | cons r rs ih =>
    rw [scalars_cons] at hs
    have hl := encR_len r
    rw [enc_cons] at hk ⊢
    by_cases hkm : (encR r).length ≤ k
    · obtain ⟨j, rfl⟩ : ∃ j, k = (encR r).length + j := ⟨k - (encR r).length, by omega⟩
      have hj : j ≤ (enc rs).length := by simp only [List.length_append] at hk; omega
      have := ih j (by first | exact hs.2 | exact hj) (by first | exact hs.2 | exact hj)
      rw [List.take_append, List.drop_append, List.take_of_length_le (by omega), List.drop_of_length_le (by omega), List.nil_append, Nat.add_sub_cancel_left, valid_encode r hs.1,
        getD_app_right _ _ _ _ (by omega), Nat.add_sub_cancel_left]
      have e : decide ((encR r).length + j = (encR r ++ enc rs).length) = decide (j = (enc rs).length) := by
        rw [List.length_append]; exact decide_eq_decide.2 (by omega)
      rw [e]
      exact this
    · have hkl : k < (encR r).length := by omega
      obtain ⟨c1, c2⟩ := encR_cut r hs.1 k hkl
      have hne : decide (k = (encR r ++ enc rs).length) = false := by
        rw [decide_eq_false_iff_not, List.length_append]; omega
      rw [getD_app_left _ _ _ _ hkl, c1, hne]
      by_cases h0 : k = 0
      · subst h0
        have := valid_enc (r :: rs) (scalars_cons.2 hs)
        rw [enc_cons] at this
        simp [validD_nil, this]
      · have hp : 0 < k := by omega
        have e1 : (encR r ++ enc rs).take k = (encR r).take k := by rw [List.take_append, show k - (encR r).length = 0 from by omega]; simp
        have e2 : ∃ b t, (encR r ++ enc rs).drop k = b :: t ∧ contB b = true := by
          refine ⟨(encR r).getD k 0, (encR r).drop (k + 1) ++ enc rs, ?_, by rw [c1]; simpa using hp⟩
          rw [List.drop_append, show k - (encR r).length = 0 from by omega, List.drop_zero, List.drop_eq_getElem_cons hkl, List.getD_eq_getElem?_getD, List.getElem?_eq_getElem hkl, Option.getD_some, List.cons_append]
        obtain ⟨b, t, e3, hb⟩ := e2
        rw [e1, c2 hp, e3, valid_cont b t hb]
        simp [hp]

/-- Texts of bytes below 128. -/
theorem runes_ascii (l : List UInt8) (h : ∀ b ∈ l, b.toNat < 128) (t : List UInt8) : runes (l ++ t) = l.map (·.toNat) ++ runes t := by
  induction l with
  | nil => rfl
  | cons b l ih =>
    have hb : b.toNat < 128 := h b (by simp)
    have hd : decodeL (b :: (l ++ t)) = (b.toNat, 1) := by
      rw [decodeL_N]; simp only [List.getD_cons_zero]; exact decodeN_one _ _ _ _ _ hb
    rw [List.cons_append, runes_step _ (by simp), hd]
    simp only [List.drop_succ_cons, List.drop_zero]
    rw [ih (fun x hx => h x (by simp [hx]))]
    simp
theorem encR_ascii (b : UInt8) (h : b.toNat < 128) : encR b.toNat = [b] := by
  rcases encR_shape b.toNat (.inl (by omega)) with ⟨_, a, e, ha⟩ | ⟨hr, _⟩ | ⟨hr, _⟩ | ⟨hr, _⟩
  · rw [e, UInt8.toNat_inj.1 ha]
  all_goals omega
theorem enc_ascii (l : List UInt8) (h : ∀ b ∈ l, b.toNat < 128) : enc (l.map (·.toNat)) = l := by
  induction l with
  | nil => rfl
  | cons b l ih =>
    rw [List.map_cons, enc_cons, ih (fun x hx => h x (by simp [hx])), encR_ascii b (h b (by simp))]
    rfl
theorem valid_ascii (l : List UInt8) (h : ∀ b ∈ l, b.toNat < 128) (t : List UInt8) : validD (l ++ t) = validD t := by
  induction l with
  | nil => rfl
  | cons b l ih => rw [List.cons_append, validD_cons b _ (h b (by simp)), ih (fun x hx => h x (by simp [hx]))]

/-- The small form of a rune, over naturals. -/
def smallN (r : Nat) : Nat :=
  if (65 ≤ r ∧ r ≤ 90) ∨ (192 ≤ r ∧ r ≤ 222 ∧ r ≠ 215) ∨ (913 ≤ r ∧ r ≤ 937 ∧ r ≠ 930) ∨ (1040 ≤ r ∧ r ≤ 1071) then r + 32
  else if 1024 ≤ r ∧ r ≤ 1039 then r + 80 else if r = 376 then 255 else r
theorem smallN_scalar {r : Nat} (h : scalar r) : scalar (smallN r) := by
  unfold scalar smallN at *
  repeat' split
  all_goals omega
theorem smallN_small (r : Nat) : smallN (smallN r) = smallN r := by
  unfold smallN
  repeat' split
  all_goals omega
def fold (l : List UInt8) : List UInt8 := enc ((runes l).map smallN)
theorem scalars_small {l : List Nat} (h : scalars l) : scalars (l.map smallN) := by
  intro r hr
  obtain ⟨x, hx, rfl⟩ := List.mem_map.1 hr
  exact smallN_scalar (h x hx)
theorem runes_fold (l : List UInt8) : runes (fold l) = (runes l).map smallN := runes_enc _ (scalars_small (runes_scalars l))
theorem valid_fold (l : List UInt8) : validD (fold l) = true := valid_enc _ (scalars_small (runes_scalars l))
theorem fold_fold (l : List UInt8) : fold (fold l) = fold l := by
  rw [fold, runes_fold, List.map_map]
  have : smallN ∘ smallN = smallN := funext smallN_small
  rw [this]; rfl
theorem fold_append (s t : List UInt8) (h : validD s = true) : fold (s ++ t) = fold s ++ fold t := by
  unfold fold
  rw [runes_append s t h, List.map_append, enc_append]
theorem fold_length (l : List UInt8) : (fold l).length ≤ 4 * l.length := by
  have h1 := (enc_length ((runes l).map smallN)).2
  have h2 := runes_length l
  rw [List.length_map] at h1
  unfold fold
  omega
end Go.Proofs.YtljnbbdhmlfhjaaGreatDoor
