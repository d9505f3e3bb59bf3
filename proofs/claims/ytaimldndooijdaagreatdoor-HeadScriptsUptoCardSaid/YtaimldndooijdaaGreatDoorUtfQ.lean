/-
  Plain laws of the reference's One: its loop is the model's decoder.
-/
import Derived.Test.YtaimldndooijdaaGreatDoorUtfB
namespace Go.Proofs.YtaimldndooijdaaGreatDoor
open Go.RowKit

/-- What the reference has read behind j inner bytes. -/
def acc (s : ByteArray) (i c0 : Nat) : Nat → Nat
  | 0 => c0
  | j + 1 => acc s i c0 j * 64 + (s.get! (i + (j + 1))).toNat % 64
def conts (s : ByteArray) (i j : Nat) : Prop := ∀ m, 1 ≤ m → m ≤ j → i + m < s.size ∧ (s.get! (i + m)).toNat / 64 = 2
theorem acc_lt (s : ByteArray) (i c0 : Nat) (h : c0 < 32) : ∀ j, acc s i c0 j < 32 * 64 ^ j
  | 0 => by simpa [acc] using h
  | j + 1 => by
    have := acc_lt s i c0 h j
    rw [acc, Nat.pow_succ]
    omega
theorem conts_succ {s : ByteArray} {i j : Nat} (h : conts s i j) (h1 : i + (j + 1) < s.size) (h2 : (s.get! (i + (j + 1))).toNat / 64 = 2) : conts s i (j + 1) := by
  intro m a b
  by_cases e : m = j + 1
  · subst e; exact ⟨h1, h2⟩
  · exact h m a (by omega)
def OneRel (s : ByteArray) (i n c0 : Nat) (cv kv : Value) : Prop := ∃ j : Nat, j ≤ n ∧ kv = .int .i64 ((j : Int) + 1) ∧ cv = .int .i64 (acc s i c0 j) ∧ conts s i j

theorem decode_one (s : ByteArray) (i : Nat) (h : (s.get! i).toNat < 128) : Utf8.decode s i = ((s.get! i).toNat, 1) := by
  rw [Lib.decode_at, decodeN_one _ _ _ _ _ h]
theorem decode_bad (s : ByteArray) (i : Nat) (h : 128 ≤ (s.get! i).toNat) (h' : (s.get! i).toNat < 192 ∨ 248 ≤ (s.get! i).toNat) : Utf8.decode s i = (65533, 1) := by
  have hlt : (s.get! i).toNat < 256 := (s.get! i).toNat_lt
  have hb : (128 ≤ (s.get! i).toNat ∧ (s.get! i).toNat < 194) ∨ (245 ≤ (s.get! i).toNat ∧ (s.get! i).toNat < 256) := by omega
  rw [Lib.decode_at]
  exact Lib.decodeN_bad _ _ _ _ _ hb

/-- The reference's answer behind its loop. -/
theorem decode_fin (s : ByteArray) (i n c0 low : Nat) (hi : i < s.size)
    (hn : (n = 1 ∧ 192 ≤ (s.get! i).toNat ∧ (s.get! i).toNat < 224 ∧ c0 = (s.get! i).toNat - 192 ∧ low = 128) ∨ (n = 2 ∧ 224 ≤ (s.get! i).toNat ∧ (s.get! i).toNat < 240 ∧ c0 = (s.get! i).toNat - 224 ∧ low = 2048) ∨
      (n = 3 ∧ 240 ≤ (s.get! i).toNat ∧ (s.get! i).toNat < 248 ∧ c0 = (s.get! i).toNat - 240 ∧ low = 65536)) :
    (∀ j, j < n → ¬ (i + (j + 1) < s.size ∧ (s.get! (i + (j + 1))).toNat / 64 = 2) → Utf8.decode s i = (65533, 1)) ∧
    (conts s i n → Utf8.decode s i = if acc s i c0 n < low ∨ 1114111 < acc s i c0 n ∨ (55296 ≤ acc s i c0 n ∧ acc s i c0 n ≤ 57343) then (65533, 1) else (acc s i c0 n, n + 1)) := by
  rw [Lib.decode_at]
  have k0 := (s.get! i).toNat_lt
  rcases hn with ⟨hn, h1, h2, hc, hl⟩ | ⟨hn, h1, h2, hc, hl⟩ | ⟨hn, h1, h2, hc, hl⟩
  all_goals subst hn
  · constructor
    · intro j hj hno
      obtain rfl : j = 0 := by omega
      unfold Lib.decodeN
      simp only [Nat.zero_add] at hno
      rw [if_neg (by omega), if_neg (by omega), if_neg (by omega), if_neg (by omega)]
    · intro hc
      obtain ⟨a1, a2⟩ := hc 1 (by omega) (by omega)
      simp only [acc, Nat.zero_add]
      unfold Lib.decodeN
      rw [if_neg (by omega), if_pos (by omega)]
      have e : (s.get! i).toNat % 32 * 64 + (s.get! (i + 1)).toNat % 64 = c0 * 64 + (s.get! (i + 1)).toNat % 64 := by omega
      rw [e]
      generalize c0 * 64 + (s.get! (i + 1)).toNat % 64 = c at e
      by_cases hb : c < low ∨ 1114111 < c ∨ (55296 ≤ c ∧ c ≤ 57343)
      · rw [if_pos hb, if_neg (by omega)]
      · rw [if_neg hb, if_pos (by omega)]
  · constructor
    · intro j hj hno
      unfold Lib.decodeN
      rcases (by omega : j = 0 ∨ j = 1) with rfl | rfl
      all_goals (simp only [Nat.zero_add, Nat.reduceAdd] at hno; rw [if_neg (by omega), if_neg (by omega), if_neg (by omega), if_neg (by omega)])
    · intro hc
      obtain ⟨a1, a2⟩ := hc 1 (by omega) (by omega)
      obtain ⟨b1, b2⟩ := hc 2 (by omega) (by omega)
      simp only [acc, Nat.zero_add, Nat.reduceAdd]
      unfold Lib.decodeN
      rw [if_neg (by omega), if_neg (by omega), if_pos (by omega)]
      have e : (s.get! i).toNat % 16 * 4096 + (s.get! (i + 1)).toNat % 64 * 64 + (s.get! (i + 2)).toNat % 64 = (c0 * 64 + (s.get! (i + 1)).toNat % 64) * 64 + (s.get! (i + 2)).toNat % 64 := by omega
      rw [e]
      generalize (c0 * 64 + (s.get! (i + 1)).toNat % 64) * 64 + (s.get! (i + 2)).toNat % 64 = c at e
      by_cases hb : c < low ∨ 1114111 < c ∨ (55296 ≤ c ∧ c ≤ 57343)
      · rw [if_pos hb, if_neg (by omega)]
      · rw [if_neg hb, if_pos (by omega)]
  · constructor
    · intro j hj hno
      unfold Lib.decodeN
      rcases (by omega : j = 0 ∨ j = 1 ∨ j = 2) with rfl | rfl | rfl
      all_goals (simp only [Nat.zero_add, Nat.reduceAdd] at hno; rw [if_neg (by omega), if_neg (by omega), if_neg (by omega), if_neg (by omega)])
    · intro hc
      obtain ⟨a1, a2⟩ := hc 1 (by omega) (by omega)
      obtain ⟨b1, b2⟩ := hc 2 (by omega) (by omega)
      obtain ⟨c1, c2⟩ := hc 3 (by omega) (by omega)
      simp only [acc, Nat.zero_add, Nat.reduceAdd]
      unfold Lib.decodeN
      rw [if_neg (by omega), if_neg (by omega), if_neg (by omega), if_pos (by omega)]
      have e : (s.get! i).toNat % 8 * 262144 + (s.get! (i + 1)).toNat % 64 * 4096 + (s.get! (i + 2)).toNat % 64 * 64 + (s.get! (i + 3)).toNat % 64 = ((c0 * 64 + (s.get! (i + 1)).toNat % 64) * 64 + (s.get! (i + 2)).toNat % 64) * 64 + (s.get! (i + 3)).toNat % 64 := by omega
      rw [e]
      generalize ((c0 * 64 + (s.get! (i + 1)).toNat % 64) * 64 + (s.get! (i + 2)).toNat % 64) * 64 + (s.get! (i + 3)).toNat % 64 = c at e
      by_cases hb : c < low ∨ 1114111 < c ∨ (55296 ≤ c ∧ c ≤ 57343)
      · rw [if_pos hb, if_neg (by omega)]
      · rw [if_neg hb, if_pos (by omega)]

theorem get_get! (s : ByteArray) (i : Nat) (h : i < s.size) : s[i] = s.get! i := by
  show _ = s.get! i
  simp [ByteArray.get!, getElem!_pos, h]
  rfl


end Go.Proofs.YtaimldndooijdaaGreatDoor
