/-
  Plain laws of UTF-8: the runes of a text, the text of runes, valid texts. No program in sight.
-/
import Derived.Lib.MapLaws
import Derived.Lib.ValidLaws
import Derived.Test.YthmhmckkkceclaaDoorProg
import Derived.WalkKit
import Derived.WalkSpells
import Derived.WalkLawsBesides
import Derived.Lib.RuneCountTail
import Derived.Lib.Hide
import Derived.Lib.RuneBytes
import Derived.Test.YthmhmckkkceclaaDoorKit
namespace Go.Proofs.YthmhmckkkceclaaDoor
open Go.Lib

def runesGo : Nat → List UInt8 → List Nat
  | 0, _ => []
  | n + 1, l => if l = [] then [] else (decodeL l).1 :: runesGo n (l.drop (decodeL l).2)
def runes (l : List UInt8) : List Nat := runesGo l.length l

theorem runesGo_nil : ∀ n, runesGo n [] = []
  | 0 => rfl
  | _ + 1 => by simp [runesGo]
theorem runesGo_fuel : ∀ (n m : Nat) (l : List UInt8), l.length ≤ n → l.length ≤ m → runesGo n l = runesGo m l
  | 0, m, l, hn, _ => by
    have : l = [] := List.eq_nil_of_length_eq_zero (by omega)
    subst this
    rw [runesGo_nil, runesGo_nil]
  | n + 1, 0, l, _, hm => by
    have : l = [] := List.eq_nil_of_length_eq_zero (by omega)
    subst this
    rw [runesGo_nil, runesGo_nil]
  | n + 1, m + 1, l, hn, hm => by
    by_cases hne : l = []
    · subst hne
      rw [runesGo_nil, runesGo_nil]
    · have hw := decodeL_width l
      have hl : 0 < l.length := List.length_pos_iff.2 hne
      simp only [runesGo, if_neg hne]
      rw [runesGo_fuel n m _ (by rw [List.length_drop]; omega) (by rw [List.length_drop]; omega)]
theorem runes_nil : runes [] = [] := rfl
theorem runes_step (l : List UInt8) (hne : l ≠ []) : runes l = (decodeL l).1 :: runes (l.drop (decodeL l).2) := by
  have hw := decodeL_width l
  have hl : 0 < l.length := List.length_pos_iff.2 hne
  unfold runes
  obtain ⟨n, hn⟩ : ∃ n, l.length = n + 1 := ⟨l.length - 1, by omega⟩
  rw [hn]
  simp only [runesGo, if_neg hne]
  rw [runesGo_fuel n _ _ (by rw [List.length_drop]; omega) (Nat.le_refl _)]

/-- An induction over the runes of a text. -/
theorem runes_ind {P : List UInt8 → Prop} (h0 : P []) (h1 : ∀ l, l ≠ [] → P (l.drop (decodeL l).2) → P l) : ∀ l, P l := by
  have : ∀ n (l : List UInt8), l.length ≤ n → P l := by
    intro n
    induction n with
    | zero => intro l hl; have : l = [] := List.eq_nil_of_length_eq_zero (by omega); subst this; exact h0
    | succ n ih =>
      intro l hl
      by_cases hne : l = []
      · subst hne; exact h0
      · have hw := decodeL_width l
        have hl' : 0 < l.length := List.length_pos_iff.2 hne
        exact h1 l hne (ih _ (by rw [List.length_drop]; omega))
  exact fun l => this l.length l (Nat.le_refl _)

def scalar (r : Nat) : Prop := r < 55296 ∨ (57344 ≤ r ∧ r ≤ 1114111)
theorem decodeL_scalar (l : List UInt8) : scalar (decodeL l).1 := by
  rw [decodeL_N]
  have k0 := (l.getD 0 0).toNat_lt
  have k1 := (l.getD 1 0).toNat_lt
  unfold scalar
  rcases decodeN_shape l.length (l.getD 0 0).toNat (l.getD 1 0).toNat (l.getD 2 0).toNat (l.getD 3 0).toNat with ⟨c, e⟩ | ⟨c1, c2, c3, cv, e⟩ | ⟨c1, c2, c3, c4, cv, cs, e⟩ | ⟨c1, c2, c3, c4, c5, cv, cw, e⟩ | e
  all_goals (rw [e]; dsimp only; omega)
theorem runes_scalar (l : List UInt8) : ∀ r ∈ runes l, scalar r := by
  refine runes_ind (P := fun l => ∀ r ∈ runes l, scalar r) ?_ ?_ l
  · intro r h; cases h
  · intro l hne ih r h
    rw [runes_step l hne] at h
    rcases List.mem_cons.1 h with h | h
    · subst h; exact decodeL_scalar l
    · exact ih r h
theorem runes_length (l : List UInt8) : (runes l).length ≤ l.length := by
  refine runes_ind (P := fun l => (runes l).length ≤ l.length) (Nat.le_refl _) ?_ l
  intro l hne ih
  have hw := decodeL_width l
  have hl : 0 < l.length := List.length_pos_iff.2 hne
  rw [runes_step l hne]
  simp only [List.length_cons, List.length_drop] at ih ⊢
  omega

def encR (r : Nat) : List UInt8 := encodeRune (r : Int)
theorem byteN (z : Int) (h0 : 0 ≤ z) (h1 : z < 256) : (z.toNat.toUInt8).toNat = z.toNat := by
  rw [Nat.toUInt8_eq, UInt8.toNat_ofNat']
  omega
theorem encR_len (r : Nat) : 1 ≤ (encR r).length ∧ (encR r).length ≤ 4 := by
  have := encodeRuneZ_length (r : Int)
  simpa [encR, encodeRune] using this

/-- What the encoding of a scalar is, byte by byte. -/
theorem encR_shape (r : Nat) (h : scalar r) :
    (r < 128 ∧ ∃ a : UInt8, encR r = [a] ∧ a.toNat = r) ∨
    (128 ≤ r ∧ r < 2048 ∧ ∃ a b : UInt8, encR r = [a, b] ∧ a.toNat = 192 + r / 64 ∧ b.toNat = 128 + r % 64) ∨
    (2048 ≤ r ∧ r < 65536 ∧ ∃ a b c : UInt8, encR r = [a, b, c] ∧ a.toNat = 224 + r / 4096 ∧ b.toNat = 128 + r / 64 % 64 ∧ c.toNat = 128 + r % 64) ∨
    (65536 ≤ r ∧ r ≤ 1114111 ∧ ∃ a b c d : UInt8, encR r = [a, b, c, d] ∧ a.toNat = 240 + r / 262144 ∧ b.toNat = 128 + r / 4096 % 64 ∧ c.toNat = 128 + r / 64 % 64 ∧ d.toNat = 128 + r % 64) := by
  unfold scalar at h
  unfold encR encodeRune
  by_cases h1 : r < 128
  · left
    refine ⟨h1, _, by rw [encodeRuneZ_one (by omega) (by omega)]; rfl, ?_⟩
    rw [byteN _ (by omega) (by omega)]; omega
  · right
    by_cases h2 : r < 2048
    · left
      refine ⟨by omega, h2, _, _, by rw [encodeRuneZ_two (by omega) (by omega)]; rfl, ?_, ?_⟩ <;> (rw [byteN _ (by omega) (by omega)]; omega)
    · right
      by_cases h3 : r < 65536
      · left
        refine ⟨by omega, h3, _, _, _, by rw [encodeRuneZ_three (by omega)]; rfl, ?_, ?_, ?_⟩ <;> (rw [byteN _ (by omega) (by omega)]; omega)
      · right
        refine ⟨by omega, by omega, _, _, _, _, by rw [encodeRuneZ_four (by omega) (by omega)]; rfl, ?_, ?_, ?_, ?_⟩ <;> (rw [byteN _ (by omega) (by omega)]; omega)

theorem decodeN_one (n b0 b1 b2 b3 : Nat) (h : b0 < 128) : decodeN n b0 b1 b2 b3 = (b0, 1) := by simp [decodeN, h]
theorem decodeN_two (n b0 b1 b2 b3 r : Nat) (hr : 128 ≤ r ∧ r < 2048) (h0 : b0 = 192 + r / 64) (h1 : b1 = 128 + r % 64) (hn : 1 < n) : decodeN n b0 b1 b2 b3 = (r, 2) := by
  unfold decodeN
  rw [if_neg (by omega), if_pos (by omega), if_pos (by omega)]
  exact congrArg (·, 2) (by omega)
theorem decodeN_three (n b0 b1 b2 b3 r : Nat) (hr : 2048 ≤ r ∧ r < 65536) (hs : scalar r) (h0 : b0 = 224 + r / 4096) (h1 : b1 = 128 + r / 64 % 64) (h2 : b2 = 128 + r % 64) (hn : 2 < n) : decodeN n b0 b1 b2 b3 = (r, 3) := by
  unfold scalar at hs
  unfold decodeN
  rw [if_neg (by omega), if_neg (by omega), if_pos (by omega)]
  have e : b0 % 16 * 4096 + b1 % 64 * 64 + b2 % 64 = r := by omega
  rw [e, if_pos (by omega)]
theorem decodeN_four (n b0 b1 b2 b3 r : Nat) (hr : 65536 ≤ r ∧ r ≤ 1114111) (h0 : b0 = 240 + r / 262144) (h1 : b1 = 128 + r / 4096 % 64) (h2 : b2 = 128 + r / 64 % 64) (h3 : b3 = 128 + r % 64) (hn : 3 < n) : decodeN n b0 b1 b2 b3 = (r, 4) := by
  unfold decodeN
  rw [if_neg (by omega), if_neg (by omega), if_neg (by omega), if_pos (by omega)]
  have e : b0 % 8 * 262144 + b1 % 64 * 4096 + b2 % 64 * 64 + b3 % 64 = r := by omega
  rw [e, if_pos (by omega)]

theorem decode_encode (r : Nat) (h : scalar r) (t : List UInt8) : decodeL (encR r ++ t) = (r, (encR r).length) := by
  rw [decodeL_N]
  rcases encR_shape r h with ⟨hr, a, e, ha⟩ | ⟨hr, hr', a, b, e, ha, hb⟩ | ⟨hr, hr', a, b, c, e, ha, hb, hc⟩ | ⟨hr, hr', a, b, c, d, e, ha, hb, hc, hd⟩
  · rw [e]; simp only [List.cons_append, List.nil_append, List.getD_cons_zero, List.length_cons, List.length_nil]
    rw [decodeN_one _ _ _ _ _ (by omega), ha]
  · rw [e]; simp only [List.cons_append, List.nil_append, List.getD_cons_zero, List.getD_cons_succ, List.length_cons, List.length_nil]
    exact decodeN_two _ _ _ _ _ r ⟨hr, hr'⟩ ha hb (by omega)
  · rw [e]; simp only [List.cons_append, List.nil_append, List.getD_cons_zero, List.getD_cons_succ, List.length_cons, List.length_nil]
    exact decodeN_three _ _ _ _ _ r ⟨hr, hr'⟩ h ha hb hc (by omega)
  · rw [e]; simp only [List.cons_append, List.nil_append, List.getD_cons_zero, List.getD_cons_succ, List.length_cons, List.length_nil]
    exact decodeN_four _ _ _ _ _ r ⟨hr, hr'⟩ ha hb hc hd (by omega)
theorem encR_ne (r : Nat) (t : List UInt8) : encR r ++ t ≠ [] := by
  have := encR_len r
  intro h
  have h2 := congrArg List.length h
  simp only [List.length_append, List.length_nil] at h2
  omega
theorem runes_encode (r : Nat) (h : scalar r) (t : List UInt8) : runes (encR r ++ t) = r :: runes t := by
  rw [runes_step _ (encR_ne r t), decode_encode r h t]
  simp only [List.drop_left]
theorem valid_encode (r : Nat) (h : scalar r) (t : List UInt8) : validD (encR r ++ t) = validD t := by
  rw [validD_step _ (encR_ne r t), decode_encode r h t]
  simp only [List.drop_left]
  rw [if_neg]
  rintro ⟨h1, h2⟩
  rcases encR_shape r h with ⟨hr, a, e, ha⟩ | ⟨hr, hr', a, b, e, ha, hb⟩ | ⟨hr, hr', a, b, c, e, ha, hb, hc⟩ | ⟨hr, hr', a, b, c, d, e, ha, hb, hc, hd⟩
  · omega
  all_goals (rw [e] at h2; simp at h2)

/-- The text of runes. -/
def enc (l : List Nat) : List UInt8 := l.flatMap encR
theorem enc_nil : enc [] = [] := rfl
theorem enc_cons (r : Nat) (l : List Nat) : enc (r :: l) = encR r ++ enc l := by simp [enc]
theorem enc_append (a b : List Nat) : enc (a ++ b) = enc a ++ enc b := by simp [enc]
def scalars (l : List Nat) : Prop := ∀ r ∈ l, scalar r
theorem scalars_nil : scalars [] := fun _ h => by cases h
theorem scalars_cons {r : Nat} {l : List Nat} : scalars (r :: l) ↔ scalar r ∧ scalars l := by simp [scalars]
theorem scalars_append {a b : List Nat} : scalars (a ++ b) ↔ scalars a ∧ scalars b := by
  simp only [scalars, List.mem_append]
  exact ⟨fun h => ⟨fun r hr => h r (.inl hr), fun r hr => h r (.inr hr)⟩, fun h r hr => hr.elim (h.1 r) (h.2 r)⟩
theorem runes_enc_append (l : List Nat) (h : scalars l) (t : List UInt8) : runes (enc l ++ t) = l ++ runes t := by
  induction l with
  | nil => rfl
  | cons r l ih =>
    rw [scalars_cons] at h
    rw [enc_cons, List.append_assoc, runes_encode r h.1, ih h.2, List.cons_append]
theorem runes_enc (l : List Nat) (h : scalars l) : runes (enc l) = l := by
  have := runes_enc_append l h []
  simpa [runes_nil] using this
theorem valid_enc_append (l : List Nat) (h : scalars l) (t : List UInt8) : validD (enc l ++ t) = validD t := by
  induction l with
  | nil => rfl
  | cons r l ih =>
    rw [scalars_cons] at h
    rw [enc_cons, List.append_assoc, valid_encode r h.1, ih h.2]
theorem valid_enc (l : List Nat) (h : scalars l) : validD (enc l) = true := by
  have := valid_enc_append l h []
  simpa [validD_nil] using this
theorem enc_runes (l : List UInt8) : validD l = true → enc (runes l) = l := by
  refine runes_ind (P := fun l => validD l = true → enc (runes l) = l) (fun _ => rfl) ?_ l
  intro l hne ih h
  rw [validD_step l hne] at h
  by_cases hb : (decodeL l).1 = 65533 ∧ (decodeL l).2 = 1
  · rw [if_pos hb] at h; cases h
  · rw [if_neg hb] at h
    rw [runes_step l hne, enc_cons, ih h, encR, encode_decode l hne hb, List.take_append_drop]
theorem runes_scalars (l : List UInt8) : scalars (runes l) := runes_scalar l
theorem valid_iff (l : List UInt8) : validD l = true ↔ ∃ rs, scalars rs ∧ l = enc rs :=
  ⟨fun h => ⟨runes l, runes_scalars l, (enc_runes l h).symm⟩, fun ⟨rs, h, e⟩ => e ▸ valid_enc rs h⟩
theorem runes_append (s t : List UInt8) (h : validD s = true) : runes (s ++ t) = runes s ++ runes t := by
  obtain ⟨rs, hs, rfl⟩ := (valid_iff s).1 h
  rw [runes_enc_append rs hs, runes_enc rs hs]
theorem valid_append (s t : List UInt8) (h : validD s = true) : validD (s ++ t) = validD t := by
  obtain ⟨rs, hs, rfl⟩ := (valid_iff s).1 h
  rw [valid_enc_append rs hs]
theorem enc_length (l : List Nat) : l.length ≤ (enc l).length ∧ (enc l).length ≤ 4 * l.length := by
  induction l with
  | nil => simp [enc]
  | cons r l ih =>
    have := encR_len r
    rw [enc_cons]
    simp only [List.length_append, List.length_cons]
    omega

/-- A byte that stands within a rune, or none. -/
def contB (b : UInt8) : Bool := decide (128 ≤ b.toNat ∧ b.toNat ≤ 191)
theorem decode_cont (b : UInt8) (t : List UInt8) (h : contB b = true) : decodeL (b :: t) = (65533, 1) := by
  have hb : 128 ≤ b.toNat ∧ b.toNat ≤ 191 := by simpa [contB] using h
  rw [decodeL_N]
  simp only [List.getD_cons_zero]
  unfold decodeN
  rw [if_neg (by omega), if_neg (by omega), if_neg (by omega), if_neg (by omega)]
theorem valid_cont (b : UInt8) (t : List UInt8) (h : contB b = true) : validD (b :: t) = false := by
  rw [validD_step _ (by simp), decode_cont b t h]; simp
theorem runes_cont (b : UInt8) (t : List UInt8) (h : contB b = true) : runes (b :: t) = 65533 :: runes t := by
  rw [runes_step _ (by simp), decode_cont b t h]; rfl

theorem decodeN_cut2 (b0 b1 b2 b3 : Nat) (h0 : 192 ≤ b0) : decodeN 1 b0 b1 b2 b3 = (65533, 1) := by
  unfold decodeN; rw [if_neg (by omega), if_neg (by omega), if_neg (by omega), if_neg (by omega)]
theorem decodeN_cut3 (b0 b1 b2 b3 : Nat) (h0 : 224 ≤ b0) : decodeN 2 b0 b1 b2 b3 = (65533, 1) := by
  unfold decodeN; rw [if_neg (by omega)]
  by_cases h : b0 / 32 = 6 ∧ (1 < 2 ∧ b1 / 64 = 2)
  · omega
  · rw [if_neg h, if_neg (by omega), if_neg (by omega)]
theorem decodeN_cut4 (b0 b1 b2 b3 : Nat) (h0 : 240 ≤ b0) (h1 : b0 < 256) : decodeN 3 b0 b1 b2 b3 = (65533, 1) := by
  unfold decodeN; rw [if_neg (by omega), if_neg (by omega), if_neg (by omega), if_neg (by omega)]
theorem valid_bad (l : List UInt8) (hne : l ≠ []) (h : decodeL l = (65533, 1)) : validD l = false := by
  rw [validD_step l hne, h]; simp

/-- A rune's text: its first byte is no inner one, the others are; what is cut off within it isn't valid. -/
theorem encR_cut (r : Nat) (h : scalar r) (k : Nat) (hk : k < (encR r).length) :
    contB ((encR r).getD k 0) = decide (0 < k) ∧ (0 < k → validD ((encR r).take k) = false) := by
  rcases encR_shape r h with ⟨hr, a, e, ha⟩ | ⟨hr, hr', a, b, e, ha, hb⟩ | ⟨hr, hr', a, b, c, e, ha, hb, hc⟩ | ⟨hr, hr', a, b, c, d, e, ha, hb, hc, hd⟩
  · rw [e] at hk ⊢
    obtain rfl : k = 0 := by simpa using hk
    refine ⟨?_, fun h => by omega⟩
    simp [contB]; omega
  · rw [e] at hk ⊢
    simp only [List.length_cons, List.length_nil] at hk
    rcases (by omega : k = 0 ∨ k = 1) with rfl | rfl
    · exact ⟨by simp [contB]; omega, fun h => by omega⟩
    · refine ⟨by simp [contB]; omega, fun _ => ?_⟩
      exact valid_bad _ (by simp) (by rw [decodeL_N]; exact decodeN_cut2 _ _ _ _ (by simp; omega))
  · rw [e] at hk ⊢
    simp only [List.length_cons, List.length_nil] at hk
    rcases (by omega : k = 0 ∨ k = 1 ∨ k = 2) with rfl | rfl | rfl
    · exact ⟨by simp [contB]; omega, fun h => by omega⟩
    · refine ⟨by simp [contB]; omega, fun _ => ?_⟩
      exact valid_bad _ (by simp) (by rw [decodeL_N]; exact decodeN_cut2 _ _ _ _ (by simp; omega))
    · refine ⟨by simp [contB]; omega, fun _ => ?_⟩
      exact valid_bad _ (by simp) (by rw [decodeL_N]; exact decodeN_cut3 _ _ _ _ (by simp; omega))
  · rw [e] at hk ⊢
    simp only [List.length_cons, List.length_nil] at hk
    have := a.toNat_lt
    rcases (by omega : k = 0 ∨ k = 1 ∨ k = 2 ∨ k = 3) with rfl | rfl | rfl | rfl
    · exact ⟨by simp [contB]; omega, fun h => by omega⟩
    · refine ⟨by simp [contB]; omega, fun _ => ?_⟩
      exact valid_bad _ (by simp) (by rw [decodeL_N]; exact decodeN_cut2 _ _ _ _ (by simp; omega))
    · refine ⟨by simp [contB]; omega, fun _ => ?_⟩
      exact valid_bad _ (by simp) (by rw [decodeL_N]; exact decodeN_cut3 _ _ _ _ (by simp; omega))
    · refine ⟨by simp [contB]; omega, fun _ => ?_⟩
      exact valid_bad _ (by simp) (by rw [decodeL_N]; exact decodeN_cut4 _ _ _ _ (by simp; omega) (by simp; omega))

theorem getD_app_left {α : Type} (a b : List α) (d : α) (k : Nat) (h : k < a.length) : (a ++ b).getD k d = a.getD k d := by
  rw [List.getD_eq_getElem?_getD, List.getD_eq_getElem?_getD, List.getElem?_append_left h]
theorem getD_app_right {α : Type} (a b : List α) (d : α) (k : Nat) (h : a.length ≤ k) : (a ++ b).getD k d = b.getD (k - a.length) d := by
  rw [List.getD_eq_getElem?_getD, List.getD_eq_getElem?_getD, List.getElem?_append_right h]

/-- A valid text, cut. -/
theorem valid_cut (l : List UInt8) (hv : validD l = true) (k : Nat) (hk : k ≤ l.length) :
    validD (l.take k) = (decide (k = l.length) || !contB (l.getD k 0)) ∧ validD (l.drop k) = (decide (k = l.length) || !contB (l.getD k 0)) := by
  obtain ⟨rs, hs, rfl⟩ := (valid_iff l).1 hv
  clear hv
  induction rs generalizing k with
  | nil =>
    have : k = 0 := by simpa [enc] using hk
    subst this
    simp [enc, validD_nil]
  | cons r rs ih =>
    rw [scalars_cons] at hs
    have hl := encR_len r
    rw [enc_cons] at hk ⊢
    by_cases hkm : (encR r).length ≤ k
    · obtain ⟨j, rfl⟩ : ∃ j, k = (encR r).length + j := ⟨k - (encR r).length, by omega⟩
      have hj : j ≤ (enc rs).length := by simp only [List.length_append] at hk; omega
      have := ih j (by first | exact hs.2 | exact hj) (by first | exact hs.2 | exact hj)
      rw [List.take_append, List.drop_append, List.take_of_length_le (by omega), List.drop_of_length_le (by omega), List.nil_append, Nat.add_sub_cancel_left, valid_encode r hs.1,
        getD_app_right _ _ _ _ (by omega), Nat.add_sub_cancel_left]
      have e : decide ((encR r).length + j = (encR r ++ enc rs).length) = decide (j = (enc rs).length) := by
        rw [List.length_append]; exact decide_eq_decide.2 (by omega)
      rw [e]
      exact this
    · have hkl : k < (encR r).length := by omega
      obtain ⟨c1, c2⟩ := encR_cut r hs.1 k hkl
      have hne : decide (k = (encR r ++ enc rs).length) = false := by
        rw [decide_eq_false_iff_not, List.length_append]; omega
      rw [getD_app_left _ _ _ _ hkl, c1, hne]
      by_cases h0 : k = 0
      · subst h0
        have := valid_enc (r :: rs) (scalars_cons.2 hs)
        rw [enc_cons] at this
        simp [validD_nil, this]
      · have hp : 0 < k := by omega
        have e1 : (encR r ++ enc rs).take k = (encR r).take k := by rw [List.take_append, show k - (encR r).length = 0 from by omega]; simp
        have e2 : ∃ b t, (encR r ++ enc rs).drop k = b :: t ∧ contB b = true := by
          refine ⟨(encR r).getD k 0, (encR r).drop (k + 1) ++ enc rs, ?_, by rw [c1]; simpa using hp⟩
          rw [List.drop_append, show k - (encR r).length = 0 from by omega, List.drop_zero, List.drop_eq_getElem_cons hkl, List.getD_eq_getElem?_getD, List.getElem?_eq_getElem hkl, Option.getD_some, List.cons_append]
        obtain ⟨b, t, e3, hb⟩ := e2
        rw [e1, c2 hp, e3, valid_cont b t hb]
        simp [hp]

/-- Texts of bytes below 128. -/
theorem runes_ascii (l : List UInt8) (h : ∀ b ∈ l, b.toNat < 128) (t : List UInt8) : runes (l ++ t) = l.map (·.toNat) ++ runes t := by
  induction l with
  | nil => rfl
  | cons b l ih =>
    have hb : b.toNat < 128 := h b (by simp)
    have hd : decodeL (b :: (l ++ t)) = (b.toNat, 1) := by
      rw [decodeL_N]; simp only [List.getD_cons_zero]; exact decodeN_one _ _ _ _ _ hb
    rw [List.cons_append, runes_step _ (by simp), hd]
    simp only [List.drop_succ_cons, List.drop_zero]
    rw [ih (fun x hx => h x (by simp [hx]))]
    simp
theorem encR_ascii (b : UInt8) (h : b.toNat < 128) : encR b.toNat = [b] := by
  rcases encR_shape b.toNat (.inl (by omega)) with ⟨_, a, e, ha⟩ | ⟨hr, _⟩ | ⟨hr, _⟩ | ⟨hr, _⟩
  · rw [e, UInt8.toNat_inj.1 ha]
  all_goals omega
theorem enc_ascii (l : List UInt8) (h : ∀ b ∈ l, b.toNat < 128) : enc (l.map (·.toNat)) = l := by
  induction l with
  | nil => rfl
  | cons b l ih =>
    rw [List.map_cons, enc_cons, ih (fun x hx => h x (by simp [hx])), encR_ascii b (h b (by simp))]
    rfl
theorem valid_ascii (l : List UInt8) (h : ∀ b ∈ l, b.toNat < 128) (t : List UInt8) : validD (l ++ t) = validD t := by
  induction l with
  | nil => rfl
  | cons b l ih => rw [List.cons_append, validD_cons b _ (h b (by simp)), ih (fun x hx => h x (by simp [hx]))]

/-- The small form of a rune, over naturals. -/
def smallN (r : Nat) : Nat :=
  if (65 ≤ r ∧ r ≤ 90) ∨ (192 ≤ r ∧ r ≤ 222 ∧ r ≠ 215) ∨ (913 ≤ r ∧ r ≤ 937 ∧ r ≠ 930) ∨ (1040 ≤ r ∧ r ≤ 1071) then r + 32
  else if 1024 ≤ r ∧ r ≤ 1039 then r + 80 else if r = 376 then 255 else r
theorem smallN_scalar {r : Nat} (h : scalar r) : scalar (smallN r) := by
  unfold scalar smallN at *
  repeat' split
  all_goals omega
theorem smallN_small (r : Nat) : smallN (smallN r) = smallN r := by
  unfold smallN
  repeat' split
  all_goals omega
def fold (l : List UInt8) : List UInt8 := enc ((runes l).map smallN)
theorem scalars_small {l : List Nat} (h : scalars l) : scalars (l.map smallN) := by
  intro r hr
  obtain ⟨x, hx, rfl⟩ := List.mem_map.1 hr
  exact smallN_scalar (h x hx)
theorem runes_fold (l : List UInt8) : runes (fold l) = (runes l).map smallN := runes_enc _ (scalars_small (runes_scalars l))
theorem valid_fold (l : List UInt8) : validD (fold l) = true := valid_enc _ (scalars_small (runes_scalars l))
theorem fold_fold (l : List UInt8) : fold (fold l) = fold l := by
  rw [fold, runes_fold, List.map_map]
  have : smallN ∘ smallN = smallN := funext smallN_small
  rw [this]; rfl
theorem fold_append (s t : List UInt8) (h : validD s = true) : fold (s ++ t) = fold s ++ fold t := by
  unfold fold
  rw [runes_append s t h, List.map_append, enc_append]
theorem fold_length (l : List UInt8) : (fold l).length ≤ 4 * l.length := by
  have h1 := (enc_length ((runes l).map smallN)).2
  have h2 := runes_length l
  rw [List.length_map] at h1
  unfold fold
  omega
end Go.Proofs.YthmhmckkkceclaaDoor
/-
  The contracts of utf.Word, utf.Small and of the reference's Word, Small.
-/
namespace Go.Proofs.YthmhmckkkceclaaDoor
open Go.RowKit

def wordP (r : Int) : Prop := (48 ≤ r ∧ r ≤ 57) ∨ (97 ≤ r ∧ r ≤ 122) ∨ (65 ≤ r ∧ r ≤ 90) ∨ r = 95 ∨ (192 ≤ r ∧ r ≠ 215 ∧ r ≠ 247 ∧ ¬ (8192 ≤ r ∧ r ≤ 8303) ∧ ¬ (12288 ≤ r ∧ r ≤ 12351) ∧ r ≠ 65533 ∧ ¬ (55296 ≤ r ∧ r ≤ 57343) ∧ r ≤ 1114111)
instance (r : Int) : Decidable (wordP r) := by unfold wordP; exact inferInstance
def wordB (r : Int) : Bool := decide (wordP r)
def smallZ (r : Int) : Int :=
  if (65 ≤ r ∧ r ≤ 90) ∨ (192 ≤ r ∧ r ≤ 222 ∧ r ≠ 215) ∨ (913 ≤ r ∧ r ≤ 937 ∧ r ≠ 930) ∨ (1040 ≤ r ∧ r ≤ 1071) then r + 32
  else if 1024 ≤ r ∧ r ≤ 1039 then r + 80 else if r = 376 then 255 else r

theorem wordB_true {r : Int} (h : wordP r) : wordB r = true := decide_eq_true h
theorem wordB_false {r : Int} (h : ¬ wordP r) : wordB r = false := decide_eq_false h

theorem ret_dec {b : Bool} {p : Prop} [Decidable p] (h : b = true ↔ p) : Ending.returned (.bool b) = .returned (.bool (decide p)) := by
  have : b = decide p := by rw [Bool.eq_iff_iff]; simpa using h
  rw [this]
theorem ret_int' {k : IntKind} {a b : Int} (h : a = b) : Ending.returned (.int k a) = .returned (.int k b) := by rw [h]

end Go.Proofs.YthmhmckkkceclaaDoor
/-
  The contracts of utf.Count and of the reference's One.
-/
namespace Go.Proofs.YthmhmckkkceclaaDoor
open Go.RowKit

theorem ofList (s : ByteArray) : (⟨s.data.toList.toArray⟩ : ByteArray) = s := by cases s; simp
theorem ext_list' (t : ByteArray) (k : Nat) : (t.extract k t.size).data.toList = t.data.toList.drop k := by
  rw [ByteArray.data_extract, Array.toList_extract, List.extract_eq_take_drop, List.take_of_length_le]
  rw [List.length_drop, Array.length_toList]
  exact Nat.le_refl _
theorem decode_drop (s : ByteArray) (pos : Nat) : Utf8.decode s pos = Lib.decodeL (s.data.toList.drop pos) := by
  have h := Lib.tail_decode s pos 0
  rw [Nat.add_zero] at h
  rw [← h]
  unfold Lib.decodeL
  rw [← ext_list', ofList]
theorem runes_pos (s : ByteArray) (pos : Nat) (h : pos < s.size) :
    runes (s.data.toList.drop pos) = (Utf8.decode s pos).1 :: runes (s.data.toList.drop (pos + (Utf8.decode s pos).2)) := by
  have hl : s.data.toList.length = s.size := by simp [ByteArray.size_data]
  rw [runes_step _ (by intro e; have := congrArg List.length e; simp only [List.length_drop, List.length_nil, hl] at this; omega), ← decode_drop, List.drop_drop]
theorem runes_end (s : ByteArray) (pos : Nat) (h : ¬ pos < s.size) : runes (s.data.toList.drop pos) = [] := by
  have hl : s.data.toList.length = s.size := by simp [ByteArray.size_data]
  rw [List.drop_of_length_le (by omega)]; rfl
theorem width_pos' (s : ByteArray) (pos : Nat) : 1 ≤ (Utf8.decode s pos).2 := Lib.width_pos s pos

theorem below_iter (w : World) (s : ByteArray) (pos : Nat) : Below w.heap.size w (w.iter s pos) := (Below.refl _ _).alloc (Nat.le_refl _) _

end Go.Proofs.YthmhmckkkceclaaDoor
/-
  Plain laws of the reference's One: its loop is the model's decoder.
-/
namespace Go.Proofs.YthmhmckkkceclaaDoor
open Go.RowKit

/-- What the reference has read behind j inner bytes. -/
def acc (s : ByteArray) (i c0 : Nat) : Nat → Nat
  | 0 => c0
  | j + 1 => acc s i c0 j * 64 + (s.get! (i + (j + 1))).toNat % 64
def conts (s : ByteArray) (i j : Nat) : Prop := ∀ m, 1 ≤ m → m ≤ j → i + m < s.size ∧ (s.get! (i + m)).toNat / 64 = 2
theorem acc_lt (s : ByteArray) (i c0 : Nat) (h : c0 < 32) : ∀ j, acc s i c0 j < 32 * 64 ^ j
  | 0 => by simpa [acc] using h
  | j + 1 => by
    have := acc_lt s i c0 h j
    rw [acc, Nat.pow_succ]
    omega
theorem conts_succ {s : ByteArray} {i j : Nat} (h : conts s i j) (h1 : i + (j + 1) < s.size) (h2 : (s.get! (i + (j + 1))).toNat / 64 = 2) : conts s i (j + 1) := by
  intro m a b
  by_cases e : m = j + 1
  · subst e; exact ⟨h1, h2⟩
  · exact h m a (by omega)
def OneRel (s : ByteArray) (i n c0 : Nat) (cv kv : Value) : Prop := ∃ j : Nat, j ≤ n ∧ kv = .int .i64 ((j : Int) + 1) ∧ cv = .int .i64 (acc s i c0 j) ∧ conts s i j

theorem decode_one (s : ByteArray) (i : Nat) (h : (s.get! i).toNat < 128) : Utf8.decode s i = ((s.get! i).toNat, 1) := by
  rw [Lib.decode_at, decodeN_one _ _ _ _ _ h]
theorem decode_bad (s : ByteArray) (i : Nat) (h : 128 ≤ (s.get! i).toNat) (h' : (s.get! i).toNat < 192 ∨ 248 ≤ (s.get! i).toNat) : Utf8.decode s i = (65533, 1) := by
  have hlt : (s.get! i).toNat < 256 := (s.get! i).toNat_lt
  have hb : (128 ≤ (s.get! i).toNat ∧ (s.get! i).toNat < 194) ∨ (245 ≤ (s.get! i).toNat ∧ (s.get! i).toNat < 256) := by omega
  rw [Lib.decode_at]
  exact Lib.decodeN_bad _ _ _ _ _ hb

/-- The reference's answer behind its loop. -/
theorem decode_fin (s : ByteArray) (i n c0 low : Nat) (hi : i < s.size)
    (hn : (n = 1 ∧ 192 ≤ (s.get! i).toNat ∧ (s.get! i).toNat < 224 ∧ c0 = (s.get! i).toNat - 192 ∧ low = 128) ∨ (n = 2 ∧ 224 ≤ (s.get! i).toNat ∧ (s.get! i).toNat < 240 ∧ c0 = (s.get! i).toNat - 224 ∧ low = 2048) ∨
      (n = 3 ∧ 240 ≤ (s.get! i).toNat ∧ (s.get! i).toNat < 248 ∧ c0 = (s.get! i).toNat - 240 ∧ low = 65536)) :
    (∀ j, j < n → ¬ (i + (j + 1) < s.size ∧ (s.get! (i + (j + 1))).toNat / 64 = 2) → Utf8.decode s i = (65533, 1)) ∧
    (conts s i n → Utf8.decode s i = if acc s i c0 n < low ∨ 1114111 < acc s i c0 n ∨ (55296 ≤ acc s i c0 n ∧ acc s i c0 n ≤ 57343) then (65533, 1) else (acc s i c0 n, n + 1)) := by
  rw [Lib.decode_at]
  have k0 := (s.get! i).toNat_lt
  rcases hn with ⟨hn, h1, h2, hc, hl⟩ | ⟨hn, h1, h2, hc, hl⟩ | ⟨hn, h1, h2, hc, hl⟩
  all_goals subst hn
  · constructor
    · intro j hj hno
      obtain rfl : j = 0 := by omega
      unfold Lib.decodeN
      simp only [Nat.zero_add] at hno
      rw [if_neg (by omega), if_neg (by omega), if_neg (by omega), if_neg (by omega)]
    · intro hc
      obtain ⟨a1, a2⟩ := hc 1 (by omega) (by omega)
      simp only [acc, Nat.zero_add]
      unfold Lib.decodeN
      rw [if_neg (by omega), if_pos (by omega)]
      have e : (s.get! i).toNat % 32 * 64 + (s.get! (i + 1)).toNat % 64 = c0 * 64 + (s.get! (i + 1)).toNat % 64 := by omega
      rw [e]
      generalize c0 * 64 + (s.get! (i + 1)).toNat % 64 = c at e
      by_cases hb : c < low ∨ 1114111 < c ∨ (55296 ≤ c ∧ c ≤ 57343)
      · rw [if_pos hb, if_neg (by omega)]
      · rw [if_neg hb, if_pos (by omega)]
  · constructor
    · intro j hj hno
      unfold Lib.decodeN
      rcases (by omega : j = 0 ∨ j = 1) with rfl | rfl
      all_goals (simp only [Nat.zero_add, Nat.reduceAdd] at hno; rw [if_neg (by omega), if_neg (by omega), if_neg (by omega), if_neg (by omega)])
    · intro hc
      obtain ⟨a1, a2⟩ := hc 1 (by omega) (by omega)
      obtain ⟨b1, b2⟩ := hc 2 (by omega) (by omega)
      simp only [acc, Nat.zero_add, Nat.reduceAdd]
      unfold Lib.decodeN
      rw [if_neg (by omega), if_neg (by omega), if_pos (by omega)]
      have e : (s.get! i).toNat % 16 * 4096 + (s.get! (i + 1)).toNat % 64 * 64 + (s.get! (i + 2)).toNat % 64 = (c0 * 64 + (s.get! (i + 1)).toNat % 64) * 64 + (s.get! (i + 2)).toNat % 64 := by omega
      rw [e]
      generalize (c0 * 64 + (s.get! (i + 1)).toNat % 64) * 64 + (s.get! (i + 2)).toNat % 64 = c at e
      by_cases hb : c < low ∨ 1114111 < c ∨ (55296 ≤ c ∧ c ≤ 57343)
      · rw [if_pos hb, if_neg (by omega)]
      · rw [if_neg hb, if_pos (by omega)]
  · constructor
    · intro j hj hno
      unfold Lib.decodeN
      rcases (by omega : j = 0 ∨ j = 1 ∨ j = 2) with rfl | rfl | rfl
      all_goals (simp only [Nat.zero_add, Nat.reduceAdd] at hno; rw [if_neg (by omega), if_neg (by omega), if_neg (by omega), if_neg (by omega)])
    · intro hc
      obtain ⟨a1, a2⟩ := hc 1 (by omega) (by omega)
      obtain ⟨b1, b2⟩ := hc 2 (by omega) (by omega)
      obtain ⟨c1, c2⟩ := hc 3 (by omega) (by omega)
      simp only [acc, Nat.zero_add, Nat.reduceAdd]
      unfold Lib.decodeN
      rw [if_neg (by omega), if_neg (by omega), if_neg (by omega), if_pos (by omega)]
      have e : (s.get! i).toNat % 8 * 262144 + (s.get! (i + 1)).toNat % 64 * 4096 + (s.get! (i + 2)).toNat % 64 * 64 + (s.get! (i + 3)).toNat % 64 = ((c0 * 64 + (s.get! (i + 1)).toNat % 64) * 64 + (s.get! (i + 2)).toNat % 64) * 64 + (s.get! (i + 3)).toNat % 64 := by omega
      rw [e]
      generalize ((c0 * 64 + (s.get! (i + 1)).toNat % 64) * 64 + (s.get! (i + 2)).toNat % 64) * 64 + (s.get! (i + 3)).toNat % 64 = c at e
      by_cases hb : c < low ∨ 1114111 < c ∨ (55296 ≤ c ∧ c ≤ 57343)
      · rw [if_pos hb, if_neg (by omega)]
      · rw [if_neg hb, if_pos (by omega)]

theorem get_get! (s : ByteArray) (i : Nat) (h : i < s.size) : s[i] = s.get! i := by
  show _ = s.get! i
  simp [ByteArray.get!, getElem!_pos, h]
  rfl


end Go.Proofs.YthmhmckkkceclaaDoor
/-
  The contract of the reference's One: it is the model's own decoder.
-/
namespace Go.Proofs.YthmhmckkkceclaaDoor
open Go.RowKit

theorem ret_pair {k k' : IntKind} {a b : Int} {p : Nat × Nat} {x y : Nat} (h : p = (x, y)) (ha : a = x) (hb : b = y) : Ending.returned (.tuple #[.int k a, .int k' b]) = .returned (.tuple #[.int k (p.1 : Int), .int k' (p.2 : Int)]) := by rw [h, ha, hb]

set_option maxRecDepth 100000 in
set_option maxHeartbeats 1000000 in
theorem ref_One (s : ByteArray) (i : Nat) (w : World) (hs : s.size ≤ 140737488355328) (hi : i < s.size) :
    Calls Tryd.prog 27 #[.string s, .int .i64 i] w fun e w' => e = .returned (.tuple #[.int .i32 (Utf8.decode s i).1, .int .i64 (Utf8.decode s i).2]) ∧ w = w' := by
  have hg := get_get! s i hi
  have k0 := (s.get! i).toNat_lt
  by_cases h128 : (s.get! i).toNat < 128
  · have hd := decode_one s i h128
    rw [← hg] at hd k0 h128
    clear hg
    have HD := Lib.hid hd; clear hd
    go_enter Tryd.func27, Tryd.ntmps27
    go_wp2
    go_ret2
    exact ⟨ret_pair HD.out rfl rfl, rfl⟩
  by_cases hbad : (s.get! i).toNat < 192 ∨ 248 ≤ (s.get! i).toNat
  · have hd := decode_bad s i (by omega) hbad
    rw [← hg] at k0 h128 hbad
    clear hg
    have HD := Lib.hid hd; clear hd
    go_enter Tryd.func27, Tryd.ntmps27
    rcases hbad with hbad | hbad
    all_goals
      go_wp2
      go_ret2
      exact ⟨ret_pair HD.out rfl rfl, rfl⟩
  have hcls : ∃ n c0 low : Nat, (n = 1 ∧ 192 ≤ (s.get! i).toNat ∧ (s.get! i).toNat < 224 ∧ c0 = (s.get! i).toNat - 192 ∧ low = 128) ∨ (n = 2 ∧ 224 ≤ (s.get! i).toNat ∧ (s.get! i).toNat < 240 ∧ c0 = (s.get! i).toNat - 224 ∧ low = 2048) ∨
      (n = 3 ∧ 240 ≤ (s.get! i).toNat ∧ (s.get! i).toNat < 248 ∧ c0 = (s.get! i).toNat - 240 ∧ low = 65536) := by
    by_cases h1 : (s.get! i).toNat < 224
    · exact ⟨_, _, _, .inl ⟨rfl, by omega, h1, rfl, rfl⟩⟩
    · by_cases h2 : (s.get! i).toNat < 240
      · exact ⟨_, _, _, .inr (.inl ⟨rfl, by omega, h2, rfl, rfl⟩)⟩
      · exact ⟨_, _, _, .inr (.inr ⟨rfl, by omega, by omega, rfl, rfl⟩)⟩
  obtain ⟨n, c0, low, hn⟩ := hcls
  obtain ⟨f1, f2⟩ := decode_fin s i n c0 low hi hn
  have hc0 : c0 < 32 := by omega
  have ha := acc_lt s i c0 hc0
  have F1 := Lib.hid f1
  have F2 := Lib.hid f2
  have HA := Lib.hid ha
  clear f1 f2 ha h128 hbad
  rw [← hg] at hn k0
  clear hg
  rcases hn with ⟨hn, h1, h2, hc, hlow⟩ | ⟨hn, h1, h2, hc, hlow⟩ | ⟨hn, h1, h2, hc, hlow⟩
  all_goals
    have HC := Lib.hid hc
    have HN := Lib.hid hn
    have HL := Lib.hid hlow
    clear hc hn hlow
    obtain ⟨t1, hT1⟩ : ∃ t, decide ((s[i].toNat : Int) < 128) = t := ⟨_, rfl⟩
    obtain ⟨t2, hT2⟩ : ∃ t, decide (192 ≤ (s[i].toNat : Int)) = t := ⟨_, rfl⟩
    obtain ⟨t3, hT3⟩ : ∃ t, decide ((s[i].toNat : Int) < 224) = t := ⟨_, rfl⟩
    obtain ⟨t4, hT4⟩ : ∃ t, decide (224 ≤ (s[i].toNat : Int)) = t := ⟨_, rfl⟩
    obtain ⟨t5, hT5⟩ : ∃ t, decide ((s[i].toNat : Int) < 240) = t := ⟨_, rfl⟩
    obtain ⟨t6, hT6⟩ : ∃ t, decide (240 ≤ (s[i].toNat : Int)) = t := ⟨_, rfl⟩
    obtain ⟨t7, hT7⟩ : ∃ t, decide ((s[i].toNat : Int) < 248) = t := ⟨_, rfl⟩
    cases t1
    any_goals (exfalso; have h := hT1; simp only [decide_eq_true_eq, decide_eq_false_iff_not] at h; omega)
    cases t2
    any_goals (exfalso; have h := hT2; simp only [decide_eq_true_eq, decide_eq_false_iff_not] at h; omega)
    cases t3
    any_goals (exfalso; have h := hT3; simp only [decide_eq_true_eq, decide_eq_false_iff_not] at h; omega)
    cases t4
    any_goals (exfalso; have h := hT4; simp only [decide_eq_true_eq, decide_eq_false_iff_not] at h; omega)
    cases t5
    any_goals (exfalso; have h := hT5; simp only [decide_eq_true_eq, decide_eq_false_iff_not] at h; omega)
    cases t6
    any_goals (exfalso; have h := hT6; simp only [decide_eq_true_eq, decide_eq_false_iff_not] at h; omega)
    cases t7
    any_goals (exfalso; have h := hT7; simp only [decide_eq_true_eq, decide_eq_false_iff_not] at h; omega)
    go_enter Tryd.func27, Tryd.ntmps27
    go_wp2
    go_loop [6, 9] (OneRel s i n c0) (fun _ k => n + 1 - (intOf k).toNat)
    case atStart => exact ⟨0, by omega, rfl, by rw [acc, HC.out]; go_num, fun m a b => by omega⟩
    case round =>
      obtain ⟨j, hj, rfl, rfl, hcn⟩ := hrel
      have hcl : conts s i j := hcn
      have HCN := Lib.hid hcl; clear hcn hcl
      have hacc := HA.out j
      have hj3 : j ≤ 3 := by have := HN.out; omega
      have hacc' : acc s i c0 j < 8388608 := Nat.lt_of_lt_of_le hacc (by rcases (by omega : j = 0 ∨ j = 1 ∨ j = 2 ∨ j = 3) with rfl | rfl | rfl | rfl <;> decide)
      clear hacc
      by_cases hjn : j < n
      · have hjn' := hjn
        rw [HN.out] at hjn'
        by_cases hlt : i + (j + 1) < s.size
        · have e := get_get! s (i + (j + 1)) hlt
          have kx := (s.get! (i + (j + 1))).toNat_lt
          by_cases hq : (s.get! (i + (j + 1))).toNat / 64 = 2
          · have hnew := conts_succ HCN.out hlt hq
            have HNEW := Lib.hid hnew; clear hnew
            have hac : acc s i c0 (j + 1) = acc s i c0 j * 64 + s[i + (j + 1)].toNat % 64 := by rw [e]; rfl
            rw [← e] at hq kx
            clear e
            have HAC := Lib.hid hac; clear hac
            have hb : (((s[i + (j + 1)]).toNat : Int) / 64 % 256 != 2) = false := by simp; omega
            have hb' : (((s[i + (j + 1)]).toNat : Int) / 64 != 2) = false := by simp; omega
            clear hq
            go_wp2
            go_round
            case rel => exact ⟨j + 1, by omega, by go_num, by rw [HAC.out]; go_num, HNEW.out⟩
            case measure => simp [intOf]; omega
          · have hd := F1.out j hjn (fun h => hq h.2)
            rw [← e] at hq kx
            clear e
            have HD := Lib.hid hd; clear hd
            have hb : (((s[i + (j + 1)]).toNat : Int) / 64 % 256 != 2) = true := by simp; omega
            have hb' : (((s[i + (j + 1)]).toNat : Int) / 64 != 2) = true := by simp; omega
            clear hq
            go_wp2
            go_ret2
            exact ⟨ret_pair HD.out rfl rfl, rfl⟩
        · have hd := F1.out j hjn (fun h => hlt h.1)
          have HD := Lib.hid hd; clear hd
          go_wp2
          go_ret2
          exact ⟨ret_pair HD.out rfl rfl, rfl⟩
      · have hje : j = n := by omega
        have hd := F2.out (by rw [← hje]; exact HCN.out)
        rw [← hje, HL.out] at hd
        have HJ := Lib.hid hje
        have hjn' := hjn
        rw [HN.out] at hjn'
        clear hje
        generalize acc s i c0 j = C at hd hacc' ⊢
        have HD := Lib.hid hd; clear hd
        go_wp2
        all_goals go_ret2
        all_goals first
          | exact ⟨ret_pair (HD.out.trans (if_pos (by omega))) rfl rfl, rfl⟩
          | exact ⟨ret_pair (HD.out.trans (if_neg (by omega))) rfl (by have := HJ.out; have := HN.out; omega), rfl⟩

end Go.Proofs.YthmhmckkkceclaaDoor
/-
  The contract of the reference's Bytes.
-/
namespace Go.Proofs.YthmhmckkkceclaaDoor
open Go.RowKit

end Go.Proofs.YthmhmckkkceclaaDoor
/-
  The contract of the reference's Runes.
-/
namespace Go.Proofs.YthmhmckkkceclaaDoor
open Go.RowKit

theorem info_u8 : (Tryd.prog.info? 5).map (fun i => (i.zero, i.size, i.bytes)) = some (some (.int .u8 0), 1, 1) := by kernel_rfl
theorem info_i32 : (Tryd.prog.info? 21).map (fun i => (i.zero, i.size, i.bytes)) = some (some (.int .i32 0), 1, 4) := by kernel_rfl

def runeCell (r : Nat) : Value := .int .i32 (r : Int)
/-- A text's validity, step by step: no step yields U+FFFD of one byte. -/
def okTo (s : ByteArray) (v : Bool) (pos : Nat) : Prop := Lib.validD s.data.toList = (v && Lib.validD (s.data.toList.drop pos))

theorem okTo_step (s : ByteArray) (v : Bool) (pos : Nat) (h : okTo s v pos) (hp : pos < s.size) :
    okTo s (if (Utf8.decode s pos).1 = 65533 ∧ (Utf8.decode s pos).2 = 1 then false else v) (pos + (Utf8.decode s pos).2) := by
  have hl : s.data.toList.length = s.size := by simp [ByteArray.size_data]
  unfold okTo at *
  rw [h, Lib.validD_step (s.data.toList.drop pos) (by intro e; have := congrArg List.length e; simp only [List.length_drop, List.length_nil, hl] at this; omega), ← decode_drop, List.drop_drop]
  by_cases hc : (Utf8.decode s pos).1 = 65533 ∧ (Utf8.decode s pos).2 = 1
  · simp [hc]
  · rw [if_neg hc, if_neg hc]
theorem okTo_end (s : ByteArray) (v : Bool) (pos : Nat) (h : okTo s v pos) (hp : ¬ pos < s.size) : Lib.validD s.data.toList = v := by
  have hl : s.data.toList.length = s.size := by simp [ByteArray.size_data]
  unfold okTo at h
  rw [h, List.drop_of_length_le (by omega), Lib.validD_nil, Bool.and_true]
theorem okSel (r n : Nat) (t1 t2 bb : Bool) (h1 : ((n : Int) == 1) = t1) (h2 : ((r : Int) == 65533) = t2) : (if r = 65533 ∧ n = 1 then false else bb) = (if t1 && t2 then false else bb) := by
  have a : n = 1 ↔ t1 = true := by
    rw [← h1]
    exact ⟨fun h => by rw [h]; rfl, fun h => by have := beq_iff_eq.1 h; omega⟩
  have b : r = 65533 ↔ t2 = true := by
    rw [← h2]
    exact ⟨fun h => by rw [h]; rfl, fun h => by have := beq_iff_eq.1 h; omega⟩
  by_cases c : r = 65533 ∧ n = 1
  · rw [if_pos c, a.1 c.2, b.1 c.1]; rfl
  · rw [if_neg c]
    have : (t1 && t2) = false := by
      cases t1 <;> cases t2 <;> simp_all
    rw [this]; rfl
/-- The width of what is read never passes the end. -/
theorem pos_le (s : ByteArray) (pos : Nat) (hp : pos < s.size) : pos + (Utf8.decode s pos).2 ≤ s.size := by
  have hl : s.data.toList.length = s.size := by simp [ByteArray.size_data]
  have hne : s.data.toList.drop pos ≠ [] := by intro e; have := congrArg List.length e; simp only [List.length_drop, List.length_nil, hl] at this; omega
  have := Lib.decodeL_le _ hne
  rw [← decode_drop, List.length_drop, hl] at this
  omega

set_option maxRecDepth 100000 in
set_option maxHeartbeats 2000000 in
theorem ref_Runes (s : ByteArray) (w : World) (hs : s.size ≤ 35184372088832) :
    Calls Tryd.prog 20 #[.string s] w fun e w' => ∃ v, e = .returned (.tuple #[v, .bool (Lib.validD s.data.toList)]) ∧
      w'.ownsRow w.heap.size 21 1 v (runes s.data.toList).length ((runes s.data.toList).map runeCell) ∧ Below w.heap.size w w' := by
  obtain ⟨i0, hi, hz0, hz1, hz2⟩ := info_parts info_i32
  have hrl := runes_length s.data.toList
  have hl : s.data.toList.length = s.size := by simp [ByteArray.size_data]
  rw [hl] at hrl
  clear hl
  go_enter Tryd.func20, Tryd.ntmps20
  go_wp2
  go_loopw [4, 5, 6] (fun v b i wr => ∃ (pos : Nat) (bb : Bool) (rs : List Nat), pos ≤ s.size ∧ i = .int .i64 pos ∧ b = .bool bb ∧ okTo s bb pos ∧ rs ++ runes (s.data.toList.drop pos) = runes s.data.toList ∧
    wr.ownsRow w.heap.size 21 1 v rs.length (rs.map runeCell) ∧ Below w.heap.size w wr) (fun _ _ i _ => s.size - (intOf i).toNat)
  case atStart => exact ⟨0, true, [], by omega, rfl, rfl, by unfold okTo; rw [Bool.true_and, List.drop_zero], by rw [List.drop_zero]; rfl, World.ownsRow_nil _ _ _ _, Below.refl _ _⟩
  case round =>
    obtain ⟨pos, bb, rs, hp, rfl, rfl, hok, hrs, hown, hb⟩ := hrel
    have HOK := Lib.hid hok
    have HRS := Lib.hid hrs
    clear hok hrs
    by_cases hlt : pos < s.size
    · have cO := fun W => ref_One s pos W (by omega) hlt
      have hw1 := width_pos' s pos
      have hw2 := pos_le s pos hlt
      have hsc := decodeL_scalar (s.data.toList.drop pos)
      rw [← decode_drop] at hsc
      have HSTEP := Lib.hid (okTo_step s bb pos HOK.out hlt)
      have HRUN := Lib.hid (runes_pos s pos hlt)
      generalize Utf8.decode s pos = d at *
      obtain ⟨r, n⟩ := d
      have hrl1 : rs.length + 1 ≤ s.size := by
        have h := congrArg List.length HRS.out
        rw [HRUN.out] at h
        simp only [List.length_append, List.length_cons] at h
        omega
      have hsz := hb.size
      obtain ⟨t1, ht1⟩ : ∃ t, ((n : Int) == 1) = t := ⟨_, rfl⟩
      obtain ⟨t2, ht2⟩ : ∃ t, ((r : Int) == 65533) = t := ⟨_, rfl⟩
      clear hsc
      cases t1 <;> cases t2
      all_goals
        go_wp2_with (first | (go_at_call 27; refine (cO _).mono ?_; rintro e w' ⟨rfl, rfl⟩) | (at_builtin; refine wpList_append_own _ rfl _ _ 31 rfl w.heap.size 21 i0 (.int .i32 0) 1 4 Tryd.underlying31 hi hz0 hz1 hz2 rfl (by decide) _ _ _ rfl (hown.alloc _) ⟨wr.heap.size, 0, none⟩ 1 1 [runeCell r] rfl rfl (cell_one_new _ _ _) (by simp [runeCell, Value.oneCell']) (by unfold maxLen; omega) (by omega) (by simp; omega) ?_; intro v' w1 hown1 hgrow _))
        go_roundw
        case rel => exact ⟨pos + n, _, rs ++ [r], hw2, by go_num, rfl, by have h := HSTEP.out; rw [okSel r n _ _ bb ht1 ht2] at h; exact h, by rw [List.append_assoc, ← HRS.out, HRUN.out]; rfl, by rw [List.length_append, List.map_append]; exact hown1, grown_below hb hsz _ hown hgrow⟩
        case measure => simp [intOf]; omega
    · go_wp2
      go_ret2
      have e1 := okTo_end s bb pos HOK.out hlt
      have e2 := HRS.out
      rw [runes_end s pos hlt, List.append_nil] at e2
      exact ⟨u4, by rw [e1]; rfl, by rw [← e2]; exact hown, hb⟩

theorem smallZ_nat (r : Nat) : smallZ (r : Int) = ((smallN r : Nat) : Int) := by
  unfold smallZ smallN
  repeat' split
  all_goals omega

theorem smallN_take (rs : List Nat) (k : Nat) (h : k < rs.length) : enc ((rs.take (k + 1)).map smallN) = enc ((rs.take k).map smallN) ++ encR (smallN rs[k]) := by
  rw [List.take_succ_eq_append_getElem h, List.map_append, enc_append]
  simp [enc]
theorem enc_take_le (rs : List Nat) (k : Nat) : (enc ((rs.take k).map smallN)).length ≤ 4 * rs.length := by
  have h := (enc_length ((rs.take k).map smallN)).2
  rw [List.length_map] at h
  have := List.length_take_le k rs
  have h2 : (rs.take k).length ≤ rs.length := by rw [List.length_take]; omega
  omega
theorem cells_encR (r : Nat) : Lib.runeCells (r : Int) = Lib.byteCells (encR r) := (Lib.byteCells_encodeRune r).symm

end Go.Proofs.YthmhmckkkceclaaDoor
