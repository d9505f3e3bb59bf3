/-
  Plain laws of an answer's head: the first empty line is its end, and it has the line 'Connection: close' just if it closes.
-/
import Derived.Test.YtknoimflimhcgaaDoorRepL
namespace Go.Proofs.YtknoimflimhcgaaDoor

def okAt (c d : UInt8) (i : Nat) (A : Byt) : Bool := (List.range A.length).all fun j => A.getD j 0 != c || (decide (j + i < A.length) && A.getD (j + i) 0 != d)
theorem okAt_at {c d : UInt8} {i : Nat} {A : Byt} (h : okAt c d i A = true) {j : Nat} (hj : j < A.length) : A.getD j 0 ≠ c ∨ (j + i < A.length ∧ A.getD (j + i) 0 ≠ d) := by
  have := List.all_eq_true.1 h j (List.mem_range.2 hj)
  simpa using this
/-- In the beginning no such pair stands. -/
theorem no_pair {c d : UInt8} {i : Nat} {A D T : Byt} (hA : okAt c d i A = true) (hD : ∀ x ∈ D, x ≠ c) {j : Nat} (hj : j < A.length + D.length) :
    ¬ ((A ++ D ++ T)[j]? = some c ∧ (A ++ D ++ T)[j + i]? = some d) := by
  rintro ⟨h1, h2⟩
  by_cases hjA : j < A.length
  · have g1 : (A ++ D ++ T)[j]? = some (A.getD j 0) := by
      rw [List.append_assoc, List.getElem?_append_left hjA, List.getD_eq_getElem?_getD, List.getElem?_eq_getElem hjA]
      rfl
    rcases okAt_at hA hjA with h | ⟨h, h'⟩
    · rw [g1] at h1
      exact h (Option.some.inj h1)
    · have g2 : (A ++ D ++ T)[j + i]? = some (A.getD (j + i) 0) := by
        rw [List.append_assoc, List.getElem?_append_left h, List.getD_eq_getElem?_getD, List.getElem?_eq_getElem h]
        rfl
      rw [g2] at h2
      exact h' (Option.some.inj h2)
  · rw [List.append_assoc, List.getElem?_append_right (by omega), List.getElem?_append_left (by omega)] at h1
    exact hD c (List.mem_of_getElem? h1) rfl

theorem dec3 {a b c : Nat} (ha : a < 10) (h0 : 0 < a) (hb : b < 10) (hc : c < 10) : Lib.itoa ((100 * a + 10 * b + c : Nat) : Int) = [UInt8.ofNat (48 + a), UInt8.ofNat (48 + b), UInt8.ofNat (48 + c)] := by
  rw [Lib.itoa_nonneg, decDigits_step (by omega), decDigits_step (by omega), Lib.decDigits_one (by omega)]
  have e1 : (100 * a + 10 * b + c) / 10 / 10 = a := by omega
  have e2 : (100 * a + 10 * b + c) / 10 % 10 = b := by omega
  have e3 : (100 * a + 10 * b + c) % 10 = c := by omega
  rw [e1, e2, e3]
  rfl
def stD (k : Nat) : Byt := [[50, 48, 48], [52, 48, 48], [52, 48, 52], [52, 48, 53], [52, 49, 51], [52, 51, 49], [53, 48, 55]].getD k []
theorem stA_itoa : ∀ k, k < 7 → Lib.itoa (stA k) = stD k
  | 0, _ => dec3 (a := 2) (b := 0) (c := 0) (by decide) (by decide) (by decide) (by decide)
  | 1, _ => dec3 (a := 4) (b := 0) (c := 0) (by decide) (by decide) (by decide) (by decide)
  | 2, _ => dec3 (a := 4) (b := 0) (c := 4) (by decide) (by decide) (by decide) (by decide)
  | 3, _ => dec3 (a := 4) (b := 0) (c := 5) (by decide) (by decide) (by decide) (by decide)
  | 4, _ => dec3 (a := 4) (b := 1) (c := 3) (by decide) (by decide) (by decide) (by decide)
  | 5, _ => dec3 (a := 4) (b := 3) (c := 1) (by decide) (by decide) (by decide) (by decide)
  | 6, _ => dec3 (a := 5) (b := 0) (c := 7) (by decide) (by decide) (by decide) (by decide)
  | k + 7, h => by omega
def preA (k : Nat) : Byt := bH ++ stD k ++ [32] ++ wordsOf (stA k) ++ bMid
theorem pre_ends : ∀ k, k < 7 → okAt 13 13 2 (preA k) = true
  | 0, _ => by decide +kernel
  | 1, _ => by decide +kernel
  | 2, _ => by decide +kernel
  | 3, _ => by decide +kernel
  | 4, _ => by decide +kernel
  | 5, _ => by decide +kernel
  | 6, _ => by decide +kernel
  | k + 7, h => by omega
theorem pre_closes : ∀ k, k < 7 → okAt 67 110 3 (preA k) = true
  | 0, _ => by decide +kernel
  | 1, _ => by decide +kernel
  | 2, _ => by decide +kernel
  | 3, _ => by decide +kernel
  | 4, _ => by decide +kernel
  | 5, _ => by decide +kernel
  | 6, _ => by decide +kernel
  | k + 7, h => by omega
def sufB (cl : Bool) : Byt := if cl then [13, 10] ++ bCC ++ [13, 10, 13, 10] else [13, 10, 13, 10]
theorem itoa_digits (n : Nat) : ∀ x ∈ Lib.itoa (n : Int), 48 ≤ x.toNat ∧ x.toNat ≤ 57 := by
  rw [Lib.itoa_nonneg]
  induction n using Nat.strongRecOn with
  | ind n ih =>
    intro x hx
    by_cases h : 10 ≤ n
    · rw [decDigits_step h, List.mem_append] at hx
      rcases hx with hx | hx
      · exact ih (n / 10) (by omega) x hx
      · rw [List.mem_singleton] at hx
        subst hx
        rw [UInt8.toNat_ofNat']
        omega
    · rw [Lib.decDigits_one (by omega), List.mem_singleton] at hx
      subst hx
      rw [UInt8.toNat_ofNat']
      omega
/-- The answer, in three parts. -/
theorem write_parts {st : Int} (body : Byt) (cl : Bool) {b : Byt} (h : writeOf st body cl = some b) : ∃ k, k < 7 ∧ b = preA k ++ Lib.itoa (body.length : Int) ++ (sufB cl ++ body) := by
  have hw : wordsOf st ≠ [] := fun e => by rw [writeOf, if_pos e] at h; cases h
  obtain ⟨k, hk, rfl⟩ := words_stA hw
  refine ⟨k, hk, ?_⟩
  rw [writeOf, if_neg hw, ref_eq] at h
  rw [← Option.some.inj h]
  unfold refOf
  rw [stA_itoa k hk]
  unfold preA sufB
  cases cl <;> simp
def winOf (s : Byt) (k n : Nat) : Byt := (s.drop k).take n
theorem win_at {s P : Byt} {k n : Nat} (h : winOf s k n = P) {j : Nat} (hj : j < n) : s[k + j]? = P[j]? := by
  rw [← h]
  unfold winOf
  rw [List.getElem?_take_of_lt hj, List.getElem?_drop]
theorem drop_add (X Y : Byt) (i : Nat) : (X ++ Y).drop (X.length + i) = Y.drop i := by
  rw [← List.drop_drop, List.drop_left]
/-- THE LAWS: where the head ends; what the windows show. -/
structure Head (s : Byt) (h : Nat) (cl : Bool) : Prop where
  lo : 30 ≤ h
  hi : h ≤ 1000
  le : h ≤ s.length
  first : winOf s 0 9 = bH
  noEnd : ∀ k, k + 4 < h → winOf s k 4 ≠ [13, 10, 13, 10]
  atEnd : winOf s (h - 4) 4 = [13, 10, 13, 10]
  noClose : ∀ k, k + 4 ≤ h → winOf s k 17 = bCC → cl = true
  close : cl = true → winOf s (h - 21) 17 = bCC
theorem preA_len : ∀ k, k < 7 → 30 ≤ (preA k).length ∧ (preA k).length ≤ 200
  | 0, _ => by decide
  | 1, _ => by decide
  | 2, _ => by decide
  | 3, _ => by decide
  | 4, _ => by decide
  | 5, _ => by decide
  | 6, _ => by decide
  | k + 7, h => by omega
theorem pre_first (k : Nat) : (preA k).take 9 = bH := by
  unfold preA
  simp only [List.append_assoc]
  rw [List.take_append_of_le_length (by decide)]
  rfl
theorem head_of {st : Int} {body : Byt} {cl : Bool} {b : Byt} (h : writeOf st body cl = some b) (hb : body.length ≤ 1000000000) : ∃ n, Head b n cl ∧ b.drop n = body := by
  obtain ⟨k, hk, rfl⟩ := write_parts body cl h
  have hA := preA_len k hk
  have hD := itoa_digits body.length
  have hDl : (Lib.itoa (body.length : Int)).length ≤ 21 := Lib.itoa_length_le _ (by omega) (by omega)
  have hE := pre_ends k hk
  have hC := pre_closes k hk
  have hF := pre_first k
  generalize preA k = A at *
  generalize Lib.itoa (body.length : Int) = D at *
  have n13 : ∀ x ∈ D, x ≠ 13 := fun x hx e => by have := hD x hx; subst e; exact absurd this.1 (by decide)
  have n67 : ∀ x ∈ D, x ≠ 67 := fun x hx e => by have := hD x hx; subst e; exact absurd this.2 (by decide)
  have hpre : (A ++ D ++ (sufB cl ++ body)).take 9 = bH := by
    rw [List.append_assoc, List.take_append_of_le_length (by omega), hF]
  have hwin : ∀ i n, i + n ≤ (sufB cl).length → winOf (A ++ D ++ (sufB cl ++ body)) (A.length + D.length + i) n = winOf (sufB cl) i n := by
    intro i n hi
    unfold winOf
    rw [show A.length + D.length + i = (A ++ D).length + i from by simp, drop_add, List.drop_append_of_le_length (by omega), List.take_append_of_le_length (by simp; omega)]
  refine ⟨A.length + D.length + (sufB cl).length, ⟨?_, ?_, ?_, ?_, ?_, ?_, ?_, ?_⟩, ?_⟩
  · omega
  · have : (sufB cl).length ≤ 23 := by cases cl <;> decide
    omega
  · simp only [List.length_append]; omega
  · exact hpre
  · intro j hj hw
    by_cases hlt : j < A.length + D.length
    · exact no_pair hE n13 hlt (T := sufB cl ++ body) ⟨win_at hw (j := 0) (by decide), win_at hw (j := 2) (by decide)⟩
    · obtain ⟨i, rfl⟩ : ∃ i, j = A.length + D.length + i := ⟨j - (A.length + D.length), by omega⟩
      rw [hwin i 4 (by omega)] at hw
      cases cl
      · have : (sufB false).length = 4 := rfl
        omega
      · have hl : (sufB true).length = 23 := rfl
        have key : ∀ i : Fin 19, winOf (sufB true) i.1 4 ≠ [13, 10, 13, 10] := by decide
        exact key ⟨i, by omega⟩ hw
  · cases cl
    · have := hwin 0 4 (by decide)
      have e : A.length + D.length + (sufB false).length - 4 = A.length + D.length + 0 := by
        have : (sufB false).length = 4 := rfl
        omega
      rw [e, this]
      decide
    · have := hwin 19 4 (by decide)
      have e : A.length + D.length + (sufB true).length - 4 = A.length + D.length + 19 := by
        have : (sufB true).length = 23 := rfl
        omega
      rw [e, this]
      decide
  · intro j hj hw
    cases cl
    · exfalso
      have hl : (sufB false).length = 4 := rfl
      by_cases hlt : j < A.length + D.length
      · exact no_pair hC n67 hlt (T := sufB false ++ body) ⟨win_at hw (j := 0) (by decide), win_at hw (j := 3) (by decide)⟩
      · obtain rfl : j = A.length + D.length + 0 := by omega
        have h4 := hwin 0 4 (by decide)
        have a1 := win_at hw (j := 0) (by decide)
        have a2 := win_at h4 (j := 0) (by decide)
        rw [a1] at a2
        revert a2
        decide
    · rfl
  · intro hcl
    subst hcl
    have := hwin 2 17 (by decide)
    have e : A.length + D.length + (sufB true).length - 21 = A.length + D.length + 2 := by
      have : (sufB true).length = 23 := rfl
      omega
    rw [e, this]
    decide
  · rw [← List.append_assoc, show A.length + D.length + (sufB cl).length = (A ++ D ++ sufB cl).length from by simp [Nat.add_assoc], List.drop_left]
end Go.Proofs.YtknoimflimhcgaaDoor
