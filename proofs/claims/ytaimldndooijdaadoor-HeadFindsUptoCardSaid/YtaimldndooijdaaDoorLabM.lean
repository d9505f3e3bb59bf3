/-
  Plain laws of labels: canonical lists, what is found in them, a label more; Compare is an order.
-/
import Derived.Test.YtaimldndooijdaaDoorLabE
import Derived.Test.YtaimldndooijdaaDoorLabH
namespace Go.Proofs.YtaimldndooijdaaDoor

theorem canon_ok {L : List Lab} (h : canonE L = 0) : canonL L = insAll L ∧ Distinct L ∧ firstBad L = 0 ∧ L.length ≤ 16 := by
  have h' := h
  unfold canonE at h'
  split at h'
  · omega
  · split at h'
    · rename_i hb
      exact absurd h' hb
    · split at h'
      · rename_i h1 h2 h3
        exact ⟨by unfold canonL; rw [if_pos h], h3, by simpa using h2, by omega⟩
      · omega
theorem canonL_bad {L : List Lab} (h : canonE L ≠ 0) : canonL L = [] := by unfold canonL; rw [if_neg h]
theorem canonL_strict (L : List Lab) : Strict (canonL L) := by
  by_cases h : canonE L = 0
  · obtain ⟨h1, h2, _⟩ := canon_ok h
    rw [h1]
    exact insAll_strict _ rfl h2
  · rw [canonL_bad h]
    exact List.Pairwise.nil
theorem canonL_perm {L : List Lab} (h : canonE L = 0) : (canonL L).Perm L := by
  rw [(canon_ok h).1]
  exact insAll_perm L
theorem canonL_len {L : List Lab} (h : canonE L = 0) : (canonL L).length = L.length := (canonL_perm h).length_eq
theorem canonL_le (L : List Lab) : (canonL L).length ≤ 16 := by
  by_cases h : canonE L = 0
  · rw [canonL_len h]
    exact (canon_ok h).2.2.2
  · rw [canonL_bad h]
    simp
theorem find_none : ∀ {S : List Lab} {n : ByteArray}, (∀ y ∈ S, y.1.toList ≠ n.toList) → findOf S n = none
  | [], _, _ => rfl
  | x :: S, n, h => by
    unfold findOf
    rw [if_neg (by simpa using h x (by simp))]
    exact find_none fun y hy => h y (by simp [hy])
theorem find_mem : ∀ {S : List Lab} {x : Lab}, Distinct S → x ∈ S → findOf S x.1 = some x.2
  | y :: S, x, hd, hx => by
    unfold findOf
    have hd' := List.nodup_cons.1 (show ((y :: S).map fun x : Lab => x.1.toList).Nodup from hd)
    rcases List.mem_cons.1 hx with rfl | hx
    · rw [if_pos (by simp)]
    · rw [if_neg]
      · exact find_mem hd'.2 hx
      · intro he
        exact hd'.1 (List.mem_map.2 ⟨x, hx, (eq_of_beq he).symm⟩)
/-- A canonical list's canonical list. -/
theorem canon_more {S : List Lab} {m : Lab} (hs : Strict S) (h : canonE (S ++ [m]) = 0) :
    canonL (S ++ [m]) = insN m S ∧ findOf S m.1 = none ∧ findOf (insN m S) m.1 = some m.2 := by
  obtain ⟨h1, h2, _⟩ := canon_ok h
  obtain ⟨h3, h4⟩ := distinct_snoc.1 h2
  have hi : insAll S = S := strict_unique (insAll_strict _ rfl h3) hs (insAll_perm S)
  have hS := insN_strict hs h4
  refine ⟨?_, find_none h4, find_mem (strict_distinct hS) ((insN_perm m S).mem_iff.2 (by simp))⟩
  rw [h1, insAll_snoc, hi]

theorem cmpB_neg (a b : List UInt8) : cmpB b a = - cmpB a b := by
  unfold cmpB
  rw [bytesLess_eq, bytesLess_eq]
  by_cases h1 : a < b
  · rw [if_pos (decide_eq_true h1), if_neg (by simp [List.lt_asymm h1]), if_neg]
    · rfl
    · intro h
      rw [eq_of_beq h] at h1
      exact List.lt_irrefl _ h1
  · by_cases h2 : b < a
    · rw [if_pos (decide_eq_true h2), if_neg (by simp [h1]), if_neg]
      intro h
      rw [eq_of_beq h] at h2
      exact List.lt_irrefl _ h2
    · have he : a = b := List.le_antisymm (List.not_lt.1 h2) (List.not_lt.1 h1)
      subst he
      rw [if_neg (by simp [h1]), if_pos (by simp)]
      rfl
theorem cmpB_lt {a b : List UInt8} : cmpB a b < 0 ↔ a < b := by
  unfold cmpB
  rw [bytesLess_eq]
  by_cases h1 : a < b
  · rw [if_pos (decide_eq_true h1)]
    exact ⟨fun _ => h1, fun _ => by omega⟩
  · rw [if_neg (by simp [h1])]
    split <;> exact ⟨fun h => by omega, fun h => absurd h h1⟩
theorem cmpB_trans {a b c : List UInt8} (h1 : cmpB a b < 0) (h2 : cmpB b c < 0) : cmpB a c < 0 := cmpB_lt.2 (List.lt_trans (cmpB_lt.1 h1) (cmpB_lt.1 h2))
theorem cmpLab_neg (x y : Lab) : cmpLab y x = - cmpLab x y := by
  unfold cmpLab
  rw [cmpB_neg x.1.toList y.1.toList, cmpB_neg x.2.toList y.2.toList]
  split <;> split <;> omega
theorem cmpLab_trans {x y z : Lab} (h1 : cmpLab x y < 0) (h2 : cmpLab y z < 0) : cmpLab x z < 0 := by
  unfold cmpLab at *
  split at h1
  · rename_i e1
    rw [cmpB_zero.1 e1]
    split at h2
    · rename_i e2
      rw [if_pos e2]
      exact cmpB_trans h1 h2
    · rename_i e2
      rw [if_neg e2]
      exact h2
  · rename_i e1
    split at h2
    · rename_i e2
      rw [← cmpB_zero.1 e2, if_neg e1]
      exact h1
    · have := cmpB_trans h1 h2
      rw [if_neg (by omega)]
      exact this
theorem cmpLabs_neg : ∀ (A B : List Lab), cmpLabs B A = - cmpLabs A B
  | [], [] => rfl
  | [], _ :: _ => rfl
  | _ :: _, [] => rfl
  | x :: A, y :: B => by
    unfold cmpLabs
    rw [cmpLab_neg x y, cmpLabs_neg A B]
    split <;> split <;> omega
theorem cmpLabs_trans : ∀ {A B C : List Lab}, cmpLabs A B < 0 → cmpLabs B C < 0 → cmpLabs A C < 0
  | [], [], _, h, _ => by simp [cmpLabs] at h
  | _ :: _, [], _, h, _ => by simp [cmpLabs] at h
  | _, _ :: _, [], _, h => by simp [cmpLabs] at h
  | [], _ :: _, _ :: _, _, _ => by simp [cmpLabs]
  | x :: A, y :: B, z :: C, h1, h2 => by
    unfold cmpLabs at *
    split at h1
    · rename_i e1
      rw [cmpLab_zero.1 e1]
      split at h2
      · rename_i e2
        rw [if_pos e2]
        exact cmpLabs_trans h1 h2
      · rename_i e2
        rw [if_neg e2]
        exact h2
    · rename_i e1
      split at h2
      · rename_i e2
        rw [← cmpLab_zero.1 e2, if_neg e1]
        exact h1
      · have := cmpLab_trans h1 h2
        rw [if_neg (by omega)]
        exact this
theorem cmpLabs_le {A B C : List Lab} (h1 : cmpLabs A B ≤ 0) (h2 : cmpLabs B C ≤ 0) : cmpLabs A C ≤ 0 := by
  by_cases e1 : cmpLabs A B = 0
  · rw [cmpLabs_zero.1 e1]; exact h2
  · by_cases e2 : cmpLabs B C = 0
    · rw [← cmpLabs_zero.1 e2]; exact h1
    · have := cmpLabs_trans (A := A) (B := B) (C := C) (by omega) (by omega)
      omega
theorem cmpLabs_ge {A B C : List Lab} (h1 : 0 ≤ cmpLabs A B) (h2 : 0 ≤ cmpLabs B C) : 0 ≤ cmpLabs A C := by
  have e1 := cmpLabs_neg A B
  have e2 := cmpLabs_neg B C
  have e3 := cmpLabs_neg A C
  have := cmpLabs_le (A := C) (B := B) (C := A) (by omega) (by omega)
  omega
theorem cmpLabs_self (A : List Lab) : cmpLabs A A = 0 := cmpLabs_zero.2 rfl
theorem cmpLabs_in (A B : List Lab) : -1 ≤ cmpLabs A B ∧ cmpLabs A B ≤ 1 := by
  have hB : ∀ a b : List UInt8, -1 ≤ cmpB a b ∧ cmpB a b ≤ 1 := fun a b => by
    unfold cmpB
    split
    · omega
    · split <;> omega
  have hL : ∀ x y : Lab, -1 ≤ cmpLab x y ∧ cmpLab x y ≤ 1 := fun x y => by
    unfold cmpLab
    split
    · exact hB _ _
    · exact hB _ _
  induction A generalizing B with
  | nil => cases B <;> simp [cmpLabs]
  | cons x A ih =>
    cases B with
    | nil => simp [cmpLabs]
    | cons y B =>
      unfold cmpLabs
      split
      · exact ih B
      · exact hL _ _
end Go.Proofs.YtaimldndooijdaaDoor
