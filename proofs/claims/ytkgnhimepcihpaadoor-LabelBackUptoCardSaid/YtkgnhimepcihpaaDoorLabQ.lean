/-
  Plain laws: what is written of a canonical list is read as it; a list in whatever order has one canonical list.
-/
import Derived.Test.YtkgnhimepcihpaaDoorLabR
import Derived.Test.YtkgnhimepcihpaaDoorLabM
namespace Go.Proofs.YtkgnhimepcihpaaDoor
open Go.RowKit

theorem firstBad_zero {L : List Lab} : firstBad L = 0 ↔ ∀ x ∈ L, labBad x = 0 := by
  induction L with
  | nil => simp [firstBad]
  | cons x L ih =>
    unfold firstBad
    split
    · rename_i h
      simp [h, ih]
    · rename_i h
      simp [h]
theorem canonE_zero {L : List Lab} : canonE L = 0 ↔ L.length ≤ 16 ∧ (∀ x ∈ L, labBad x = 0) ∧ Distinct L := by
  constructor
  · intro h
    obtain ⟨_, h2, h3, h4⟩ := canon_ok h
    exact ⟨h4, firstBad_zero.1 h3, h2⟩
  · rintro ⟨h1, h2, h3⟩
    unfold canonE
    rw [if_neg (by omega), if_neg (by simp [firstBad_zero.2 h2]), if_pos h3]
theorem canonE_perm {A B : List Lab} (h : A.Perm B) : canonE A = 0 ↔ canonE B = 0 := by
  rw [canonE_zero, canonE_zero, h.length_eq, distinct_perm h]
  exact ⟨fun ⟨a, b, c⟩ => ⟨a, fun x hx => b x (h.mem_iff.2 hx), c⟩, fun ⟨a, b, c⟩ => ⟨a, fun x hx => b x (h.mem_iff.1 hx), c⟩⟩
theorem canonL_perm2 {A B : List Lab} (h : A.Perm B) : canonL A = canonL B := by
  by_cases hA : canonE A = 0
  · have hB := (canonE_perm h).1 hA
    exact strict_unique (canonL_strict A) (canonL_strict B) ((canonL_perm hA).trans (h.trans (canonL_perm hB).symm))
  · rw [canonL_bad hA, canonL_bad (fun e => hA ((canonE_perm h).2 e))]
theorem turn_perm (L : List Lab) (k : Nat) : (L.drop k ++ L.take k).Perm L := by
  have h := List.perm_append_comm (l₁ := L.drop k) (l₂ := L.take k)
  rwa [List.take_append_drop] at h
theorem canon_self {L : List Lab} (h : canonE L = 0) : canonE (canonL L) = 0 ∧ canonL (canonL L) = canonL L :=
  ⟨(canonE_perm (canonL_perm h)).2 h, canonL_perm2 (canonL_perm h)⟩

theorem val_back : ∀ (v acc T : List UInt8), valGo acc (escL v ++ ([34] ++ T)) = some (acc ++ v, T)
  | [], acc, T => by
    show valGo acc (34 :: T) = _
    unfold valGo
    rw [if_pos rfl, List.append_nil]
  | c :: v, acc, T => by
    have e : escL (c :: v) = escB c ++ escL v := rfl
    rw [e, List.append_assoc]
    have hr : acc ++ c :: v = (acc ++ [c]) ++ v := by simp
    rw [hr]
    rcases esc_cases c with ⟨h1, h2⟩ | ⟨h1, h2⟩ | ⟨h34, h92, h10, h2⟩
    · rw [h2]
      show valGo acc (92 :: c :: (escL v ++ ([34] ++ T))) = _
      conv => lhs; unfold valGo
      rw [if_neg (by decide), if_pos rfl]
      show valGo (acc ++ [if c = 110 then 10 else c]) _ = _
      rw [if_neg (by rcases h1 with rfl | rfl <;> decide)]
      exact val_back v _ T
    · rw [h2, h1]
      show valGo acc (92 :: 110 :: (escL v ++ ([34] ++ T))) = _
      conv => lhs; unfold valGo
      rw [if_neg (by decide), if_pos rfl]
      show valGo (acc ++ [if (110 : UInt8) = 110 then 10 else 110]) _ = _
      rw [if_pos rfl]
      exact val_back v _ T
    · rw [h2]
      show valGo acc (c :: (escL v ++ ([34] ++ T))) = _
      conv => lhs; unfold valGo
      rw [if_neg h34, if_neg h92]
      exact val_back v _ T
theorem cut_name {n T : List UInt8} (h : (61 : UInt8) ∉ n) : Lib.cut (n ++ ([61, 34] ++ T)) [61, 34] = (n, T, true) := by
  have hi : Lib.index (n ++ ([61, 34] ++ T)) [61, 34] = (n.length : Int) := by
    refine Lib.index_first (by simp) ?_ fun j hj => ?_
    · simp [Lib.occAt]
    · have hg : (n ++ ([61, 34] ++ T)).drop j = n[j] :: (n ++ ([61, 34] ++ T)).drop (j + 1) := by
        rw [List.drop_eq_getElem_cons (by simp; omega), List.getElem_append_left hj]
      unfold Lib.occAt
      rw [hg]
      have hne : ((61 : UInt8) == n[j]) = false := by
        simp only [beq_eq_false_iff_ne]
        exact fun e => h (e ▸ List.getElem_mem hj)
      simp [List.isPrefixOf, hne]
  unfold Lib.cut
  rw [hi]
  simp
theorem nm_no61 : ∀ (f : Bool) (l : List UInt8), nmGo f l = true → (61 : UInt8) ∉ l
  | _, [], _ => by simp
  | f, c :: l, h => by
    unfold nmGo at h
    rw [Bool.and_eq_true] at h
    have h1 := of_decide_eq_true (show decide (c.toNat = 95 ∨ (97 ≤ c.toNat ∧ c.toNat ≤ 122) ∨ (f = false ∧ 48 ≤ c.toNat ∧ c.toNat ≤ 57)) = true from h.1)
    intro hm
    rcases List.mem_cons.1 hm with e | hm
    · subst e
      have : (61 : UInt8).toNat = 61 := rfl
      omega
    · exact nm_no61 false l h.2 hm
theorem bad_name {x : Lab} (h : labBad x = 0) : nameOk x.1 = true ∧ x.2.size ≤ 256 := by
  unfold labBad at h
  split at h
  · omega
  · rename_i h1
    split at h
    · omega
    · exact ⟨by simpa using h1, by omega⟩
theorem step_back {l : List Lab} {x : Lab} {T : List UInt8} (hx : labBad x = 0) : stepP l ((if l = [] then [] else [44]) ++ (x.1.data.toList ++ ([61, 34] ++ (escL x.2.data.toList ++ ([34] ++ T))))) = some (x, T) := by
  obtain ⟨hn, _⟩ := bad_name hx
  have hn' : (61 : UInt8) ∉ x.1.data.toList := nm_no61 true _ (by unfold nameOk at hn; rw [Bool.and_eq_true] at hn; exact hn.2)
  have hp : preP l ((if l = [] then [] else [44]) ++ (x.1.data.toList ++ ([61, 34] ++ (escL x.2.data.toList ++ ([34] ++ T))))) = (x.1.data.toList ++ ([61, 34] ++ (escL x.2.data.toList ++ ([34] ++ T))), true) := by
    unfold preP
    by_cases hl : l = []
    · rw [if_pos hl, if_pos hl]
      rfl
    · rw [if_neg hl, if_neg hl]
      have : Lib.hasPrefix ([44] ++ (x.1.data.toList ++ ([61, 34] ++ (escL x.2.data.toList ++ ([34] ++ T))))) [44] = true := by simp [Lib.hasPrefix, List.isPrefixOf]
      unfold Lib.trimPrefix
      rw [this, if_pos rfl]
      rfl
  unfold stepP
  rw [hp]
  simp only
  rw [cut_name hn', val_back]
  rfl
theorem go_back : ∀ (C l : List Lab) (f : Nat), (∀ x ∈ C, labBad x = 0) → C.length < f → parseGo f l (wGo (decide (l = [])) C ++ [125]) = some (l ++ C)
  | [], l, f, _, hf => by
    obtain ⟨f, rfl⟩ : ∃ g, f = g + 1 := ⟨f - 1, by omega⟩
    unfold parseGo
    rw [if_pos (by simp [wGo]), List.append_nil]
  | x :: C, l, f, hb, hf => by
    obtain ⟨f, rfl⟩ : ∃ g, f = g + 1 := ⟨f - 1, by omega⟩
    unfold parseGo
    have e : wGo (decide (l = [])) (x :: C) ++ [125] = (if l = [] then [] else [44]) ++ (x.1.data.toList ++ ([61, 34] ++ (escL x.2.data.toList ++ ([34] ++ (wGo false C ++ [125]))))) := by
      have e0 : ∀ b, wGo b (x :: C) = (if b then [] else [44]) ++ (x.1.data.toList ++ ([61, 34] ++ (escL x.2.data.toList ++ ([34] ++ wGo false C)))) := fun b => rfl
      rw [e0]
      by_cases hl : l = [] <;> simp [hl]
    rw [e, if_neg, step_back (hb x (by simp))]
    · have h2 := go_back C (l ++ [x]) f (fun y hy => hb y (by simp [hy])) (by simpa using hf)
      have h3 : decide (l ++ [x] = []) = false := by simp
      rw [h3] at h2
      show parseGo f (l ++ [x]) (wGo false C ++ [125]) = _
      rw [h2]
      simp
    · intro h
      have := congrArg List.length h
      simp at this
      omega
theorem wGo_long : ∀ (f : Bool) (C : List Lab), C.length ≤ (wGo f C).length
  | _, [] => by simp [wGo]
  | f, x :: C => by
    have := wGo_long false C
    have e0 : wGo f (x :: C) = (if f then [] else [44]) ++ (x.1.data.toList ++ ([61, 34] ++ (escL x.2.data.toList ++ ([34] ++ wGo false C)))) := rfl
    rw [e0]
    simp only [List.length_append, List.length_cons, List.length_nil]
    omega
theorem parse_back {C : List Lab} (h : ∀ x ∈ C, labBad x = 0) : parseOf (writeLab C) = some C := by
  unfold parseOf
  have e : writeLab C = 123 :: (wGo true C ++ [125]) := rfl
  have h1 : Lib.hasPrefix (writeLab C) [123] = true := by rw [e]; simp [Lib.hasPrefix, List.isPrefixOf]
  have h2 : Lib.trimPrefix (writeLab C) [123] = wGo true C ++ [125] := by
    unfold Lib.trimPrefix
    rw [h1, if_pos rfl, e]
    rfl
  rw [h1, if_pos rfl, h2]
  have := go_back C [] ((writeLab C).length + 1) h (by rw [e]; have := wGo_long true C; simp only [List.length_cons, List.length_append, List.length_nil]; omega)
  simpa using this
theorem read_back {C : List Lab} (h : canonE C = 0) (hc : canonL C = C) : readE (writeLab C) = 0 ∧ readL (writeLab C) = C := by
  have hp := parse_back (canonE_zero.1 h).2.1
  have hE : readE (writeLab C) = 0 := by
    unfold readE
    rw [hp]
    simp [h, hc]
  refine ⟨hE, ?_⟩
  unfold readL
  rw [if_pos hE, hp]
theorem read_ok {s : List UInt8} (h : readE s = 0) : parseOf s = some (readL s) ∧ writeLab (readL s) = s ∧ canonE (readL s) = 0 ∧ canonL (readL s) = readL s := by
  have h' := h
  unfold readE at h'
  cases hp : parseOf s with
  | none => rw [hp] at h'; simp at h'
  | some l =>
    rw [hp] at h'
    have hl : readL s = l := by unfold readL; rw [if_pos h, hp]
    rw [hl]
    simp only at h'
    split at h'
    · rename_i hw
      split at h'
      · rename_i hc
        split at h'
        · rename_i hcl
          exact ⟨rfl, hw, hc, hcl⟩
        · omega
      · rename_i hc
        exact absurd h' hc
    · omega
/-- What is written of a canonical list is written of no other that is read. -/
theorem write_one {C : List Lab} {s : List UInt8} (h : canonE C = 0) (hs : readE s = 0) : decide (writeLab C = s) = decide (C = readL s) := by
  obtain ⟨hp, hw, _, _⟩ := read_ok hs
  by_cases hc : C = readL s
  · rw [decide_eq_true hc, decide_eq_true (by rw [hc]; exact hw)]
  · rw [decide_eq_false hc, decide_eq_false]
    intro e
    have := parse_back (canonE_zero.1 h).2.1
    rw [e, hp] at this
    exact hc (Option.some.inj this).symm
theorem canon_small {C : List Lab} (h : canonE C = 0) : (writeLab C).length ≤ 10000 := by
  obtain ⟨h1, h2, _⟩ := canonE_zero.1 h
  have hb : ∀ L : List Lab, (∀ x ∈ L, labBad x = 0) → sumL L ≤ L.length * 291 := by
    intro L
    induction L with
    | nil => intro _; simp [sumL]
    | cons x L ih =>
      intro hx
      have h3 := ih fun y hy => hx y (by simp [hy])
      obtain ⟨h4, h5⟩ := bad_name (hx x (by simp))
      have h6 : x.1.size ≤ 32 := by
        unfold nameOk at h4
        rw [Bool.and_eq_true] at h4
        exact (of_decide_eq_true h4.1).2
      have e : sumL (x :: L) = x.1.size + x.2.size + 3 + sumL L := by simp [sumL]
      rw [e, List.length_cons]
      omega
  have := write_len C
  have := hb C h2
  have : C.length * 291 ≤ 16 * 291 := Nat.mul_le_mul_right _ h1
  omega
end Go.Proofs.YtkgnhimepcihpaaDoor
