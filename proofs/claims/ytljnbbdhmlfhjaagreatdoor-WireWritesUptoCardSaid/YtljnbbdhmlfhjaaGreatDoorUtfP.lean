/-
  Plain laws of UTF-8: the runes of a text, the text of runes, valid texts. No program in sight.
-/
import Derived.Lib.MapLaws
import Derived.Lib.ValidLaws
namespace Go.Proofs.YtljnbbdhmlfhjaaGreatDoor
open Go.Lib

def runesGo : Nat → List UInt8 → List Nat
  | 0, _ => []
  | n + 1, l => if l = [] then [] else (decodeL l).1 :: runesGo n (l.drop (decodeL l).2)
def runes (l : List UInt8) : List Nat := runesGo l.length l

theorem runesGo_nil : ∀ n, runesGo n [] = []
  | 0 => rfl
  | _ + 1 => by simp [runesGo]
theorem runesGo_fuel : ∀ (n m : Nat) (l : List UInt8), l.length ≤ n → l.length ≤ m → runesGo n l = runesGo m l
  | 0, m, l, hn, _ => by
    have : l = [] := List.eq_nil_of_length_eq_zero (by omega)
    subst this
    rw [runesGo_nil, runesGo_nil]
  | n + 1, 0, l, _, hm => by
    have : l = [] := List.eq_nil_of_length_eq_zero (by omega)
    subst this
    rw [runesGo_nil, runesGo_nil]
  | n + 1, m + 1, l, hn, hm => by
    by_cases hne : l = []
    · subst hne
      rw [runesGo_nil, runesGo_nil]
    · have hw := decodeL_width l
      have hl : 0 < l.length := List.length_pos_iff.2 hne
      simp only [runesGo, if_neg hne]
      rw [runesGo_fuel n m _ (by rw [List.length_drop]; omega) (by rw [List.length_drop]; omega)]
theorem runes_step (l : List UInt8) (hne : l ≠ []) : runes l = (decodeL l).1 :: runes (l.drop (decodeL l).2) := by
  have hw := decodeL_width l
  have hl : 0 < l.length := List.length_pos_iff.2 hne
  unfold runes
  obtain ⟨n, hn⟩ : ∃ n, l.length = n + 1 := ⟨l.length - 1, by omega⟩
  rw [hn]
  simp only [runesGo, if_neg hne]
  rw [runesGo_fuel n _ _ (by rw [List.length_drop]; omega) (Nat.le_refl _)]

/-- An induction over the runes of a text. -/
theorem runes_ind {P : List UInt8 → Prop} (h0 : P []) (h1 : ∀ l, l ≠ [] → P (l.drop (decodeL l).2) → P l) : ∀ l, P l := by
  have : ∀ n (l : List UInt8), l.length ≤ n → P l := by
    intro n
    induction n with
    | zero => intro l hl; have : l = [] := List.eq_nil_of_length_eq_zero (by omega); subst this; exact h0
    | succ n ih =>
      intro l hl
      by_cases hne : l = []
      · subst hne; exact h0
      · have hw := decodeL_width l
        have hl' : 0 < l.length := List.length_pos_iff.2 hne
        exact h1 l hne (ih _ (by rw [List.length_drop]; omega))
  exact fun l => this l.length l (Nat.le_refl _)

def scalar (r : Nat) : Prop := r < 55296 ∨ (57344 ≤ r ∧ r ≤ 1114111)
theorem decodeL_scalar (l : List UInt8) : scalar (decodeL l).1 := by
  rw [decodeL_N]
  have k0 := (l.getD 0 0).toNat_lt
  have k1 := (l.getD 1 0).toNat_lt
  unfold scalar
  rcases decodeN_shape l.length (l.getD 0 0).toNat (l.getD 1 0).toNat (l.getD 2 0).toNat (l.getD 3 0).toNat with ⟨c, e⟩ | ⟨c1, c2, c3, cv, e⟩ | ⟨c1, c2, c3, c4, cv, cs, e⟩ | ⟨c1, c2, c3, c4, c5, cv, cw, e⟩ | e
  all_goals (rw [e]; dsimp only; omega)
theorem runes_scalar (l : List UInt8) : ∀ r ∈ runes l, scalar r := by
  refine runes_ind (P := fun l => ∀ r ∈ runes l, scalar r) ?_ ?_ l
  · intro r h; cases h
  · intro l hne ih r h
    rw [runes_step l hne] at h
    rcases List.mem_cons.1 h with h | h
    · subst h; exact decodeL_scalar l
    · exact ih r h
theorem runes_length (l : List UInt8) : (runes l).length ≤ l.length := by
  refine runes_ind (P := fun l => (runes l).length ≤ l.length) (Nat.le_refl _) ?_ l
  intro l hne ih
  have hw := decodeL_width l
  have hl : 0 < l.length := List.length_pos_iff.2 hne
  rw [runes_step l hne]
  simp only [List.length_cons, List.length_drop] at ih ⊢
  omega

def encR (r : Nat) : List UInt8 := encodeRune (r : Int)
theorem byteN (z : Int) (h0 : 0 ≤ z) (h1 : z < 256) : (z.toNat.toUInt8).toNat = z.toNat := by
  rw [Nat.toUInt8_eq, UInt8.toNat_ofNat']
  omega
theorem encR_len (r : Nat) : 1 ≤ (encR r).length ∧ (encR r).length ≤ 4 := by
  have := encodeRuneZ_length (r : Int)
  simpa [encR, encodeRune] using this

/-- What the encoding of a scalar is, byte by byte. -/
theorem encR_shape (r : Nat) (h : scalar r) :
    (r < 128 ∧ ∃ a : UInt8, encR r = [a] ∧ a.toNat = r) ∨
    (128 ≤ r ∧ r < 2048 ∧ ∃ a b : UInt8, encR r = [a, b] ∧ a.toNat = 192 + r / 64 ∧ b.toNat = 128 + r % 64) ∨
    (2048 ≤ r ∧ r < 65536 ∧ ∃ a b c : UInt8, encR r = [a, b, c] ∧ a.toNat = 224 + r / 4096 ∧ b.toNat = 128 + r / 64 % 64 ∧ c.toNat = 128 + r % 64) ∨
    (65536 ≤ r ∧ r ≤ 1114111 ∧ ∃ a b c d : UInt8, encR r = [a, b, c, d] ∧ a.toNat = 240 + r / 262144 ∧ b.toNat = 128 + r / 4096 % 64 ∧ c.toNat = 128 + r / 64 % 64 ∧ d.toNat = 128 + r % 64) := by
  unfold scalar at h
  unfold encR encodeRune
  by_cases h1 : r < 128
  · left
    refine ⟨h1, _, by rw [encodeRuneZ_one (by omega) (by omega)]; rfl, ?_⟩
    rw [byteN _ (by omega) (by omega)]; omega
  · right
    by_cases h2 : r < 2048
    · left
      refine ⟨by omega, h2, _, _, by rw [encodeRuneZ_two (by omega) (by omega)]; rfl, ?_, ?_⟩ <;> (rw [byteN _ (by omega) (by omega)]; omega)
    · right
      by_cases h3 : r < 65536
      · left
        refine ⟨by omega, h3, _, _, _, by rw [encodeRuneZ_three (by omega)]; rfl, ?_, ?_, ?_⟩ <;> (rw [byteN _ (by omega) (by omega)]; omega)
      · right
        refine ⟨by omega, by omega, _, _, _, _, by rw [encodeRuneZ_four (by omega) (by omega)]; rfl, ?_, ?_, ?_, ?_⟩ <;> (rw [byteN _ (by omega) (by omega)]; omega)

theorem decodeN_one (n b0 b1 b2 b3 : Nat) (h : b0 < 128) : decodeN n b0 b1 b2 b3 = (b0, 1) := by simp [decodeN, h]
theorem decodeN_two (n b0 b1 b2 b3 r : Nat) (hr : 128 ≤ r ∧ r < 2048) (h0 : b0 = 192 + r / 64) (h1 : b1 = 128 + r % 64) (hn : 1 < n) : decodeN n b0 b1 b2 b3 = (r, 2) := by
  unfold decodeN
  rw [if_neg (by omega), if_pos (by omega), if_pos (by omega)]
  exact congrArg (·, 2) (by omega)
theorem decodeN_three (n b0 b1 b2 b3 r : Nat) (hr : 2048 ≤ r ∧ r < 65536) (hs : scalar r) (h0 : b0 = 224 + r / 4096) (h1 : b1 = 128 + r / 64 % 64) (h2 : b2 = 128 + r % 64) (hn : 2 < n) : decodeN n b0 b1 b2 b3 = (r, 3) := by
  unfold scalar at hs
  unfold decodeN
  rw [if_neg (by omega), if_neg (by omega), if_pos (by omega)]
  have e : b0 % 16 * 4096 + b1 % 64 * 64 + b2 % 64 = r := by omega
  rw [e, if_pos (by omega)]
theorem decodeN_four (n b0 b1 b2 b3 r : Nat) (hr : 65536 ≤ r ∧ r ≤ 1114111) (h0 : b0 = 240 + r / 262144) (h1 : b1 = 128 + r / 4096 % 64) (h2 : b2 = 128 + r / 64 % 64) (h3 : b3 = 128 + r % 64) (hn : 3 < n) : decodeN n b0 b1 b2 b3 = (r, 4) := by
  unfold decodeN
  rw [if_neg (by omega), if_neg (by omega), if_neg (by omega), if_pos (by omega)]
  have e : b0 % 8 * 262144 + b1 % 64 * 4096 + b2 % 64 * 64 + b3 % 64 = r := by omega
  rw [e, if_pos (by omega)]

theorem decode_encode (r : Nat) (h : scalar r) (t : List UInt8) : decodeL (encR r ++ t) = (r, (encR r).length) := by
  rw [decodeL_N]
  rcases encR_shape r h with ⟨hr, a, e, ha⟩ | ⟨hr, hr', a, b, e, ha, hb⟩ | ⟨hr, hr', a, b, c, e, ha, hb, hc⟩ | ⟨hr, hr', a, b, c, d, e, ha, hb, hc, hd⟩
  · rw [e]; simp only [List.cons_append, List.nil_append, List.getD_cons_zero, List.length_cons, List.length_nil]
    rw [decodeN_one _ _ _ _ _ (by omega), ha]
  · rw [e]; simp only [List.cons_append, List.nil_append, List.getD_cons_zero, List.getD_cons_succ, List.length_cons, List.length_nil]
    exact decodeN_two _ _ _ _ _ r ⟨hr, hr'⟩ ha hb (by omega)
  · rw [e]; simp only [List.cons_append, List.nil_append, List.getD_cons_zero, List.getD_cons_succ, List.length_cons, List.length_nil]
    exact decodeN_three _ _ _ _ _ r ⟨hr, hr'⟩ h ha hb hc (by omega)
  · rw [e]; simp only [List.cons_append, List.nil_append, List.getD_cons_zero, List.getD_cons_succ, List.length_cons, List.length_nil]
    exact decodeN_four _ _ _ _ _ r ⟨hr, hr'⟩ ha hb hc hd (by omega)
theorem encR_ne (r : Nat) (t : List UInt8) : encR r ++ t ≠ [] := by
  have := encR_len r
  intro h
  have h2 := congrArg List.length h
  simp only [List.length_append, List.length_nil] at h2
  omega
theorem valid_encode (r : Nat) (h : scalar r) (t : List UInt8) : validD (encR r ++ t) = validD t := by
  rw [validD_step _ (encR_ne r t), decode_encode r h t]
  simp only [List.drop_left]
  rw [if_neg]
  rintro ⟨h1, h2⟩
  rcases encR_shape r h with ⟨hr, a, e, ha⟩ | ⟨hr, hr', a, b, e, ha, hb⟩ | ⟨hr, hr', a, b, c, e, ha, hb, hc⟩ | ⟨hr, hr', a, b, c, d, e, ha, hb, hc, hd⟩
  · omega
  all_goals (rw [e] at h2; simp at h2)

/-- The text of runes. -/
def enc (l : List Nat) : List UInt8 := l.flatMap encR
theorem enc_cons (r : Nat) (l : List Nat) : enc (r :: l) = encR r ++ enc l := by simp [enc]
def scalars (l : List Nat) : Prop := ∀ r ∈ l, scalar r
theorem scalars_cons {r : Nat} {l : List Nat} : scalars (r :: l) ↔ scalar r ∧ scalars l := by simp [scalars]
theorem valid_enc_append (l : List Nat) (h : scalars l) (t : List UInt8) : validD (enc l ++ t) = validD t := by
  induction l with
  | nil => rfl
  | cons r l ih =>
    rw [scalars_cons] at h
    rw [enc_cons, List.append_assoc, valid_encode r h.1, ih h.2]
theorem valid_enc (l : List Nat) (h : scalars l) : validD (enc l) = true := by
  have := valid_enc_append l h []
  simpa [validD_nil] using this
theorem enc_runes (l : List UInt8) : validD l = true → enc (runes l) = l := by
  refine runes_ind (P := fun l => validD l = true → enc (runes l) = l) (fun _ => rfl) ?_ l
  intro l hne ih h
  rw [validD_step l hne] at h
  by_cases hb : (decodeL l).1 = 65533 ∧ (decodeL l).2 = 1
  · rw [if_pos hb] at h; cases h
  · rw [if_neg hb] at h
    rw [runes_step l hne, enc_cons, ih h, encR, encode_decode l hne hb, List.take_append_drop]
theorem runes_scalars (l : List UInt8) : scalars (runes l) := runes_scalar l
theorem valid_iff (l : List UInt8) : validD l = true ↔ ∃ rs, scalars rs ∧ l = enc rs :=
  ⟨fun h => ⟨runes l, runes_scalars l, (enc_runes l h).symm⟩, fun ⟨rs, h, e⟩ => e ▸ valid_enc rs h⟩
theorem valid_append (s t : List UInt8) (h : validD s = true) : validD (s ++ t) = validD t := by
  obtain ⟨rs, hs, rfl⟩ := (valid_iff s).1 h
  rw [valid_enc_append rs hs]
theorem valid_ascii (l : List UInt8) (h : ∀ b ∈ l, b.toNat < 128) (t : List UInt8) : validD (l ++ t) = validD t := by
  induction l with
  | nil => rfl
  | cons b l ih => rw [List.cons_append, validD_cons b _ (h b (by simp)), ih (fun x hx => h x (by simp [hx]))]

end Go.Proofs.YtljnbbdhmlfhjaaGreatDoor
