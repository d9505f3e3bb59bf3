/-
  Plain laws of UTF-8: the runes of a text, the text of runes, valid texts. No program in sight.
-/
import Derived.Lib.MapLaws
import Derived.Lib.ValidLaws
namespace Go.Proofs.YtaimldndooijdaaGreatDoor
open Go.Lib

def runesGo : Nat → List UInt8 → List Nat
  | 0, _ => []
  | n + 1, l => if l = [] then [] else (decodeL l).1 :: runesGo n (l.drop (decodeL l).2)
def runes (l : List UInt8) : List Nat := runesGo l.length l

theorem runesGo_nil : ∀ n, runesGo n [] = []
  | 0 => rfl
  | _ + 1 => by simp [runesGo]
theorem runesGo_fuel : ∀ (n m : Nat) (l : List UInt8), l.length ≤ n → l.length ≤ m → runesGo n l = runesGo m l
  | 0, m, l, hn, _ => by
    have : l = [] := List.eq_nil_of_length_eq_zero (by omega)
    subst this
    rw [runesGo_nil, runesGo_nil]
  | n + 1, 0, l, _, hm => by
    have : l = [] := List.eq_nil_of_length_eq_zero (by omega)
    subst this
    rw [runesGo_nil, runesGo_nil]
  | n + 1, m + 1, l, hn, hm => by
    by_cases hne : l = []
    · subst hne
      rw [runesGo_nil, runesGo_nil]
    · have hw := decodeL_width l
      have hl : 0 < l.length := List.length_pos_iff.2 hne
      simp only [runesGo, if_neg hne]
      rw [runesGo_fuel n m _ (by rw [List.length_drop]; omega) (by rw [List.length_drop]; omega)]
theorem runes_step (l : List UInt8) (hne : l ≠ []) : runes l = (decodeL l).1 :: runes (l.drop (decodeL l).2) := by
  have hw := decodeL_width l
  have hl : 0 < l.length := List.length_pos_iff.2 hne
  unfold runes
  obtain ⟨n, hn⟩ : ∃ n, l.length = n + 1 := ⟨l.length - 1, by omega⟩
  rw [hn]
  simp only [runesGo, if_neg hne]
  rw [runesGo_fuel n _ _ (by rw [List.length_drop]; omega) (Nat.le_refl _)]

/-- An induction over the runes of a text. -/
theorem runes_ind {P : List UInt8 → Prop} (h0 : P []) (h1 : ∀ l, l ≠ [] → P (l.drop (decodeL l).2) → P l) : ∀ l, P l := by
  have : ∀ n (l : List UInt8), l.length ≤ n → P l := by
    intro n
    induction n with
    | zero => intro l hl; have : l = [] := List.eq_nil_of_length_eq_zero (by omega); subst this; exact h0
    | succ n ih =>
      intro l hl
      by_cases hne : l = []
      · subst hne; exact h0
      · have hw := decodeL_width l
        have hl' : 0 < l.length := List.length_pos_iff.2 hne
        exact h1 l hne (ih _ (by rw [List.length_drop]; omega))
  exact fun l => this l.length l (Nat.le_refl _)

def scalar (r : Nat) : Prop := r < 55296 ∨ (57344 ≤ r ∧ r ≤ 1114111)
theorem decodeL_scalar (l : List UInt8) : scalar (decodeL l).1 := by
  rw [decodeL_N]
  have k0 := (l.getD 0 0).toNat_lt
  have k1 := (l.getD 1 0).toNat_lt
  unfold scalar
  rcases decodeN_shape l.length (l.getD 0 0).toNat (l.getD 1 0).toNat (l.getD 2 0).toNat (l.getD 3 0).toNat with ⟨c, e⟩ | ⟨c1, c2, c3, cv, e⟩ | ⟨c1, c2, c3, c4, cv, cs, e⟩ | ⟨c1, c2, c3, c4, c5, cv, cw, e⟩ | e
  all_goals (rw [e]; dsimp only; omega)
theorem runes_scalar (l : List UInt8) : ∀ r ∈ runes l, scalar r := by
  refine runes_ind (P := fun l => ∀ r ∈ runes l, scalar r) ?_ ?_ l
  · intro r h; cases h
  · intro l hne ih r h
    rw [runes_step l hne] at h
    rcases List.mem_cons.1 h with h | h
    · subst h; exact decodeL_scalar l
    · exact ih r h
theorem runes_length (l : List UInt8) : (runes l).length ≤ l.length := by
  refine runes_ind (P := fun l => (runes l).length ≤ l.length) (Nat.le_refl _) ?_ l
  intro l hne ih
  have hw := decodeL_width l
  have hl : 0 < l.length := List.length_pos_iff.2 hne
  rw [runes_step l hne]
  simp only [List.length_cons, List.length_drop] at ih ⊢
  omega

def encR (r : Nat) : List UInt8 := encodeRune (r : Int)
theorem byteN (z : Int) (h0 : 0 ≤ z) (h1 : z < 256) : (z.toNat.toUInt8).toNat = z.toNat := by
  rw [Nat.toUInt8_eq, UInt8.toNat_ofNat']
  omega
theorem encR_len (r : Nat) : 1 ≤ (encR r).length ∧ (encR r).length ≤ 4 := by
  have := encodeRuneZ_length (r : Int)
  simpa [encR, encodeRune] using this

/-- What the encoding of a scalar is, byte by byte. -/
theorem encR_shape (r : Nat) (h : scalar r) :
    (r < 128 ∧ ∃ a : UInt8, encR r = [a] ∧ a.toNat = r) ∨
    (128 ≤ r ∧ r < 2048 ∧ ∃ a b : UInt8, encR r = [a, b] ∧ a.toNat = 192 + r / 64 ∧ b.toNat = 128 + r % 64) ∨
    (2048 ≤ r ∧ r < 65536 ∧ ∃ a b c : UInt8, encR r = [a, b, c] ∧ a.toNat = 224 + r / 4096 ∧ b.toNat = 128 + r / 64 % 64 ∧ c.toNat = 128 + r % 64) ∨
    (65536 ≤ r ∧ r ≤ 1114111 ∧ ∃ a b c d : UInt8, encR r = [a, b, c, d] ∧ a.toNat = 240 + r / 262144 ∧ b.toNat = 128 + r / 4096 % 64 ∧ c.toNat = 128 + r / 64 % 64 ∧ d.toNat = 128 + r % 64) := by
  unfold scalar at h
  unfold encR encodeRune
  by_cases h1 : r < 128
  · left
    refine ⟨h1, _, by rw [encodeRuneZ_one (by omega) (by omega)]; rfl, ?_⟩
    rw [byteN _ (by omega) (by omega)]; omega
  · right
    by_cases h2 : r < 2048
    · left
      refine ⟨by omega, h2, _, _, by rw [encodeRuneZ_two (by omega) (by omega)]; rfl, ?_, ?_⟩ <;> (rw [byteN _ (by omega) (by omega)]; omega)
    · right
      by_cases h3 : r < 65536
      · left
        refine ⟨by omega, h3, _, _, _, by rw [encodeRuneZ_three (by omega)]; rfl, ?_, ?_, ?_⟩ <;> (rw [byteN _ (by omega) (by omega)]; omega)
      · right
        refine ⟨by omega, by omega, _, _, _, _, by rw [encodeRuneZ_four (by omega) (by omega)]; rfl, ?_, ?_, ?_, ?_⟩ <;> (rw [byteN _ (by omega) (by omega)]; omega)

theorem decodeN_one (n b0 b1 b2 b3 : Nat) (h : b0 < 128) : decodeN n b0 b1 b2 b3 = (b0, 1) := by simp [decodeN, h]
/-- The text of runes. -/
def enc (l : List Nat) : List UInt8 := l.flatMap encR
theorem enc_cons (r : Nat) (l : List Nat) : enc (r :: l) = encR r ++ enc l := by simp [enc]
theorem enc_append (a b : List Nat) : enc (a ++ b) = enc a ++ enc b := by simp [enc]
def scalars (l : List Nat) : Prop := ∀ r ∈ l, scalar r
theorem scalars_cons {r : Nat} {l : List Nat} : scalars (r :: l) ↔ scalar r ∧ scalars l := by simp [scalars]
theorem runes_scalars (l : List UInt8) : scalars (runes l) := runes_scalar l
theorem enc_length (l : List Nat) : l.length ≤ (enc l).length ∧ (enc l).length ≤ 4 * l.length := by
  induction l with
  | nil => simp [enc]
  | cons r l ih =>
    have := encR_len r
    rw [enc_cons]
    simp only [List.length_append, List.length_cons]
    omega

/-- The small form of a rune, over naturals. -/
def smallN (r : Nat) : Nat :=
  if (65 ≤ r ∧ r ≤ 90) ∨ (192 ≤ r ∧ r ≤ 222 ∧ r ≠ 215) ∨ (913 ≤ r ∧ r ≤ 937 ∧ r ≠ 930) ∨ (1040 ≤ r ∧ r ≤ 1071) then r + 32
  else if 1024 ≤ r ∧ r ≤ 1039 then r + 80 else if r = 376 then 255 else r
theorem smallN_scalar {r : Nat} (h : scalar r) : scalar (smallN r) := by
  unfold scalar smallN at *
  repeat' split
  all_goals omega
theorem scalars_small {l : List Nat} (h : scalars l) : scalars (l.map smallN) := by
  intro r hr
  obtain ⟨x, hx, rfl⟩ := List.mem_map.1 hr
  exact smallN_scalar (h x hx)
end Go.Proofs.YtaimldndooijdaaGreatDoor
