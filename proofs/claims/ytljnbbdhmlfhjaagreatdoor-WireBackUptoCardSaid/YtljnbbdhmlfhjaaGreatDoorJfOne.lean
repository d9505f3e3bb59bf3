/-
  The document's JSON reader, plainly: what it leaves of a number and of four digits, good or bad.
-/
import Derived.Test.YtljnbbdhmlfhjaaGreatDoorJsnAll
import Derived.Test.YtljnbbdhmlfhjaaGreatDoorJsOne
import Derived.Laws.DeepStrings4
namespace Go.Proofs.YtljnbbdhmlfhjaaGreatDoor
open Go.RowKit
def hasB (c : UInt8) : Bs → Bool
  | [] => false
  | d :: _ => decide (d = c)
def isF (c : UInt8) : Bs → Bs
  | [] => []
  | d :: s => if d = c then s else d :: s
theorem has_iff (c : UInt8) (s : Bs) : hasB c s = true ↔ s.head? = some c := by
  cases s with
  | nil => simp [hasB]
  | cons d s => simp [hasB]
theorem isF_yes {c : UInt8} {s : Bs} (h : hasB c s = true) : s = c :: s.drop 1 ∧ isF c s = s.drop 1 := by
  cases s with
  | nil => cases h
  | cons d s =>
    obtain rfl : d = c := by simpa [hasB] using h
    exact ⟨rfl, by simp [isF]⟩
theorem isF_no {c : UInt8} {s : Bs} (h : hasB c s = false) : isF c s = s ∧ nextB c s = none := by
  cases s with
  | nil => exact ⟨rfl, rfl⟩
  | cons d s =>
    have h' : d ≠ c := by simpa [hasB] using h
    exact ⟨by simp [isF, h'], by simp [nextB, h']⟩
theorem next_has {c : UInt8} {s r : Bs} (h : nextB c s = some r) : hasB c s = true ∧ isF c s = r := by
  cases s with
  | nil => cases h
  | cons d s =>
    simp only [nextB] at h
    split at h
    · rename_i hd
      cases h
      exact ⟨by simp [hasB, hd], by simp [isF, hd]⟩
    · cases h
theorem next_hasnt {c : UInt8} {s : Bs} (h : nextB c s = none) : hasB c s = false ∧ isF c s = s := by
  cases s with
  | nil => exact ⟨rfl, rfl⟩
  | cons d s =>
    simp only [nextB] at h
    split at h
    · cases h
    · rename_i hd
      exact ⟨by simp [hasB, hd], by simp [isF, hd]⟩
theorem isF_len (c : UInt8) (s : Bs) : (isF c s).length ≤ s.length ∧ s.length ≤ (isF c s).length + 1 := by
  cases s with
  | nil => exact ⟨Nat.le_refl _, Nat.zero_le _⟩
  | cons d s =>
    unfold isF
    simp only []
    split <;> simp
/-- What is left is an end of what was. -/
def Tl (s r : Bs) : Prop := ∃ x, s = x ++ r
theorem Tl.refl (s : Bs) : Tl s s := ⟨[], rfl⟩
theorem Tl.trans {s r t : Bs} (h : Tl s r) (k : Tl r t) : Tl s t := by
  obtain ⟨x, rfl⟩ := h
  obtain ⟨y, rfl⟩ := k
  exact ⟨x ++ y, by rw [List.append_assoc]⟩
theorem Tl.len {s r : Bs} (h : Tl s r) : r.length ≤ s.length := by
  obtain ⟨x, rfl⟩ := h
  simp
theorem tl_drop (k : Nat) (s : Bs) : Tl s (s.drop k) := ⟨s.take k, (List.take_append_drop k s).symm⟩
theorem tl_isF (c : UInt8) (s : Bs) : Tl s (isF c s) := by
  cases h : hasB c s with
  | false => rw [(isF_no h).1]; exact Tl.refl s
  | true => rw [(isF_yes h).2]; exact tl_drop 1 s
def headF (s : Bs) (bad : Bool) : Bs × Bool := if hasB 48 s = true then (s.drop 1, bad || decide (0 < digs (s.drop 1))) else (s.drop (digs s), bad || decide (digs s = 0))
def fracF (x : Bs × Bool) : Bs × Bool := if hasB 46 x.1 = true then ((x.1.drop 1).drop (digs (x.1.drop 1)), x.2 || decide (digs (x.1.drop 1) = 0)) else x
def signF (s : Bs) : Bs := if hasB 43 s = true then s.drop 1 else isF 45 s
def expF (x : Bs × Bool) : Bs × Bool := if (hasB 101 x.1 || hasB 69 x.1) = true then ((signF (x.1.drop 1)).drop (digs (signF (x.1.drop 1))), x.2 || decide (digs (signF (x.1.drop 1)) = 0)) else x
def numF (s : Bs) (bad : Bool) : Bs × Bool := expF (fracF (headF (isF 45 s) bad))
theorem isF_minus (s : Bs) : isF 45 s = s.drop (minusN s) := by
  unfold minusN
  cases h : hasB 45 s with
  | false =>
    rw [(isF_no h).1, if_neg (fun e => by rw [(has_iff 45 s).2 e] at h; cases h)]
    rfl
  | true => rw [(isF_yes h).2, if_pos ((has_iff 45 s).1 h)]
theorem signF_sign (s : Bs) : signF s = s.drop (signN s) := by
  unfold signF signN
  cases h : hasB 43 s with
  | true => rw [if_pos rfl, if_pos (.inl ((has_iff 43 s).1 h))]
  | false =>
    rw [if_neg Bool.false_ne_true]
    have h1 : ¬ s.head? = some 43 := fun e => by rw [(has_iff 43 s).2 e] at h; cases h
    cases h2 : hasB 45 s with
    | true => rw [(isF_yes h2).2, if_pos (.inr ((has_iff 45 s).1 h2))]
    | false =>
      have h3 : ¬ s.head? = some 45 := fun e => by rw [(has_iff 45 s).2 e] at h2; cases h2
      rw [(isF_no h2).1, if_neg (by rintro (e | e); exact h1 e; exact h3 e)]
      rfl
theorem digs_lead {s : Bs} (h : hasB 48 s = true) : digs s = digs (s.drop 1) + 1 := by
  obtain ⟨e, -⟩ := isF_yes h
  rw [e]
  rfl
theorem num_F (s : Bs) (bad : Bool) : (numN s ≠ 0 → numF s bad = (s.drop (numN s), bad)) ∧ (numN s = 0 → (numF s bad).2 = true) ∧ Tl s (numF s bad).1 := by
  have tH : ∀ (s : Bs) b, Tl s (headF s b).1 := fun s b => by unfold headF; split <;> exact tl_drop _ _
  have tF : ∀ x : Bs × Bool, Tl x.1 (fracF x).1 := fun x => by
    unfold fracF
    split
    · exact (tl_drop 1 _).trans (tl_drop _ _)
    · exact Tl.refl _
  have tE : ∀ x : Bs × Bool, Tl x.1 (expF x).1 := fun x => by
    unfold expF
    split
    · rw [signF_sign]
      exact ((tl_drop 1 _).trans (tl_drop _ _)).trans (tl_drop _ _)
    · exact Tl.refl _
  have mF : ∀ x : Bs × Bool, x.2 = true → (fracF x).2 = true := fun x h => by unfold fracF; split <;> simp [h]
  have mE : ∀ x : Bs × Bool, x.2 = true → (expF x).2 = true := fun x h => by unfold expF; split <;> simp [h]
  have hT : Tl s (numF s bad).1 := by
    unfold numF
    exact (tl_isF 45 s).trans ((tH _ _).trans ((tF _).trans (tE _)))
  have h1 : ∀ (t : Bs), (digs t = 0 ∨ (t.head? = some 48 ∧ 1 < digs t)) → (headF t bad).2 = true := fun t h => by
    unfold headF
    cases hz : hasB 48 t with
    | true =>
      have := digs_lead hz
      rw [if_pos rfl]
      have h0 : 0 < digs (t.drop 1) := by
        rcases h with h | h
        · omega
        · omega
      show (bad || decide _) = true
      rw [decide_eq_true h0, Bool.or_true]
    | false =>
      rw [if_neg Bool.false_ne_true]
      rcases h with h | ⟨h, -⟩
      · show (bad || decide _) = true
        rw [decide_eq_true h, Bool.or_true]
      · rw [(has_iff 48 t).2 h] at hz
        cases hz
  have h2 : ∀ (t : Bs), ¬ (digs t = 0 ∨ (t.head? = some 48 ∧ 1 < digs t)) → headF t bad = (t.drop (digs t), bad) := fun t h => by
    unfold headF
    cases hz : hasB 48 t with
    | true =>
      have hd := digs_lead hz
      have := (has_iff 48 t).1 hz
      have h0 : digs (t.drop 1) = 0 := by
        rcases Nat.eq_zero_or_pos (digs (t.drop 1)) with e | e
        · exact e
        · exact absurd (.inr ⟨this, by omega⟩) h
      rw [if_pos rfl, hd, h0, decide_eq_false (by omega), Bool.or_false]
    | false =>
      have h0 : digs t ≠ 0 := fun e => h (.inl e)
      rw [if_neg Bool.false_ne_true, decide_eq_false h0, Bool.or_false]
  have h3 : ∀ (k : Nat) (t : Bs), match fracN k t with
      | none => (fracF (t, bad)).2 = true
      | some k' => k ≤ k' ∧ fracF (t, bad) = (t.drop (k' - k), bad) := fun k t => by
    unfold fracN fracF
    simp only []
    cases hz : hasB 46 t with
    | true =>
      have := (has_iff 46 t).1 hz
      rw [if_pos this, if_pos rfl]
      split
      · rename_i h
        split at h
        · rename_i h0
          show (bad || decide _) = true
          rw [decide_eq_true h0, Bool.or_true]
        · cases h
      · rename_i k' h
        split at h
        · cases h
        · rename_i h0
          cases h
          refine ⟨by omega, ?_⟩
          rw [List.drop_drop, show k + 1 + digs (t.drop 1) - k = 1 + digs (t.drop 1) by omega, decide_eq_false h0, Bool.or_false]
    | false =>
      have : ¬ t.head? = some 46 := fun e => by rw [(has_iff 46 t).2 e] at hz; cases hz
      rw [if_neg this, if_neg Bool.false_ne_true]
      exact ⟨Nat.le_refl _, by simp⟩
  have h4 : ∀ (k : Nat) (t : Bs), match expN k t with
      | none => (expF (t, bad)).2 = true
      | some k' => k ≤ k' ∧ expF (t, bad) = (t.drop (k' - k), bad) := fun k t => by
    unfold expN expF
    simp only []
    by_cases hz : t.head? = some 101 ∨ t.head? = some 69
    · have hb : (hasB 101 t || hasB 69 t) = true := by
        rw [Bool.or_eq_true, has_iff, has_iff]
        exact hz
      rw [if_pos hz, if_pos hb, signF_sign]
      have e0 : (t.drop 1).drop (signN (t.drop 1)) = t.drop (1 + signN (t.drop 1)) := List.drop_drop
      rw [e0]
      split
      · rename_i h
        split at h
        · rename_i h0
          show (bad || decide _) = true
          rw [decide_eq_true h0, Bool.or_true]
        · cases h
      · rename_i k' h
        split at h
        · cases h
        · rename_i h0
          cases h
          refine ⟨by omega, ?_⟩
          rw [List.drop_drop, show k + (1 + signN (t.drop 1)) + digs (t.drop (1 + signN (t.drop 1))) - k = 1 + signN (t.drop 1) + digs (t.drop (1 + signN (t.drop 1))) by omega, decide_eq_false h0, Bool.or_false]
    · have hb : (hasB 101 t || hasB 69 t) = false := by
        rw [← Bool.not_eq_true, Bool.or_eq_true, has_iff, has_iff]
        exact hz
      rw [if_neg hz, hb, if_neg Bool.false_ne_true]
      exact ⟨Nat.le_refl _, by simp⟩
  refine ⟨?_, ?_, hT⟩
  · intro h
    unfold numN at h ⊢
    unfold numF
    rw [isF_minus]
    generalize hm : minusN s = m at *
    split at h
    · exact absurd rfl h
    · rename_i hg
      rw [if_neg hg, h2 _ hg]
      have h3' := h3 (m + digs (s.drop m)) (s.drop (m + digs (s.drop m)))
      rw [List.drop_drop]
      split at h
      · exact absurd rfl h
      · rename_i k hk
        rw [hk] at h3'
        obtain ⟨h3a, h3b⟩ := h3'
        rw [h3b, List.drop_drop, show m + digs (s.drop m) + (k - (m + digs (s.drop m))) = k by omega]
        have h4' := h4 k (s.drop k)
        split at h
        · exact absurd rfl h
        · rename_i k' hk'
          rw [hk'] at h4'
          obtain ⟨h4a, h4b⟩ := h4'
          rw [h4b, List.drop_drop, show k + (k' - k) = k' by omega]
  · intro h
    unfold numN at h
    unfold numF
    rw [isF_minus]
    generalize hm : minusN s = m at *
    split at h
    · rename_i hg
      exact mE _ (mF _ (h1 _ hg))
    · rename_i hg
      rw [h2 _ hg]
      have h3' := h3 (m + digs (s.drop m)) (s.drop (m + digs (s.drop m)))
      rw [List.drop_drop]
      split at h
      · rename_i hk
        rw [hk] at h3'
        exact mE _ h3'
      · rename_i k hk
        rw [hk] at h3'
        obtain ⟨h3a, h3b⟩ := h3'
        rw [h3b, List.drop_drop, show m + digs (s.drop m) + (k - (m + digs (s.drop m))) = k by omega]
        have h4' := h4 k (s.drop k)
        split at h
        · rename_i hk'
          rw [hk'] at h4'
          exact h4'
        · rename_i k' hk'
          rw [hk'] at h4'
          subst h
          have : digs (s.drop m) = 0 := by omega
          exact absurd (.inl this) hg
theorem hexV_lt {c : UInt8} {v : Nat} (h : hexV' c = some v) : v ≤ 15 := by
  unfold hexV' at h
  split at h
  · cases h; omega
  · split at h
    · cases h; omega
    · split at h
      · cases h; omega
      · cases h
/-- k digits more. -/
def fourG : Nat → Nat → Bs → Bool → Nat × Bs × Bool
  | 0, n, s, bad => (n, s, bad)
  | k + 1, n, [], _ => fourG k n [] true
  | k + 1, n, c :: s, bad => match hexV' c with
    | some v => fourG k (n * 16 + v) s bad
    | none => fourG k n s true
theorem four_bad : ∀ (k n : Nat) (s : Bs), (fourG k n s true).2.2 = true
  | 0, _, _ => rfl
  | k + 1, n, [] => four_bad k n []
  | k + 1, n, c :: s => by
    unfold fourG
    split <;> exact four_bad _ _ _
theorem four_tl : ∀ (k n : Nat) (s : Bs) (bad : Bool), Tl s (fourG k n s bad).2.1
  | 0, _, s, _ => Tl.refl s
  | k + 1, n, [], _ => four_tl k n [] true
  | k + 1, n, c :: s, bad => by
    unfold fourG
    split
    · exact (tl_drop 1 (c :: s)).trans (four_tl k _ s bad)
    · exact (tl_drop 1 (c :: s)).trans (four_tl k _ s true)
theorem four_lt : ∀ (k n : Nat) (s : Bs) (bad : Bool), (fourG k n s bad).1 < (n + 1) * 16 ^ k
  | 0, n, _, _ => by simp [fourG]
  | k + 1, n, [], _ => by
    have := four_lt k n [] true
    have e : (n + 1) * 16 ^ (k + 1) = 16 * ((n + 1) * 16 ^ k) := by rw [Nat.pow_succ, Nat.mul_comm (16 ^ k) 16, Nat.mul_left_comm]
    unfold fourG
    omega
  | k + 1, n, c :: s, bad => by
    have e : (n + 1) * 16 ^ (k + 1) = 16 * ((n + 1) * 16 ^ k) := by rw [Nat.pow_succ, Nat.mul_comm (16 ^ k) 16, Nat.mul_left_comm]
    unfold fourG
    split
    · rename_i v hv
      have h1 := four_lt k (n * 16 + v) s bad
      have h2 := hexV_lt hv
      have h3 : (n * 16 + v + 1) * 16 ^ k ≤ 16 * ((n + 1) * 16 ^ k) := by
        rw [← Nat.mul_assoc]
        exact Nat.mul_le_mul_right _ (by omega)
      omega
    · have := four_lt k n s true
      omega
def fourF (s : Bs) (bad : Bool) : Nat × Bs × Bool := fourG 4 0 (isF 117 s) (bad || !hasB 117 s)
theorem fourG_some {c : UInt8} {v : Nat} (h : hexV' c = some v) (k n : Nat) (s : Bs) (bad : Bool) : fourG (k + 1) n (c :: s) bad = fourG k (n * 16 + v) s bad := by
  rw [fourG]; simp only [h]
theorem fourG_none {c : UInt8} (h : hexV' c = none) (k n : Nat) (s : Bs) (bad : Bool) : (fourG (k + 1) n (c :: s) bad).2.2 = true := by
  rw [fourG]; simp only [h]; exact four_bad _ _ _
theorem fourG_nil (k n : Nat) (bad : Bool) : (fourG (k + 1) n [] bad).2.2 = true := by
  rw [fourG]; exact four_bad _ _ _
theorem four_F (s : Bs) (bad : Bool) : match hexP s with
    | some (n, r) => fourF s bad = (n, r, bad)
    | none => (fourF s bad).2.2 = true := by
  unfold fourF
  cases s with
  | nil => exact fourG_nil _ _ _
  | cons u s =>
    unfold hexP
    simp only []
    by_cases hu : u = 117
    · subst hu
      rw [if_pos rfl, show isF 117 (117 :: s) = s from rfl, show hasB 117 (117 :: s) = true from rfl, Bool.not_true, Bool.or_false]
      cases s with
      | nil => exact fourG_nil _ _ _
      | cons a s =>
        cases ha : hexV' a with
        | none =>
          have : hex4 (a :: s) = none := by
            unfold hex4
            split
            · rename_i e
              cases e
              simp [ha]
            · rfl
          rw [this]
          exact fourG_none ha _ _ _ _
        | some a' =>
          rw [fourG_some ha]
          cases s with
          | nil => exact fourG_nil _ _ _
          | cons b s =>
            cases hb : hexV' b with
            | none =>
              have : hex4 (a :: b :: s) = none := by
                unfold hex4
                split
                · rename_i e
                  cases e
                  simp [ha, hb]
                · rfl
              rw [this]
              exact fourG_none hb _ _ _ _
            | some b' =>
              rw [fourG_some hb]
              cases s with
              | nil => exact fourG_nil _ _ _
              | cons c s =>
                cases hc : hexV' c with
                | none =>
                  have : hex4 (a :: b :: c :: s) = none := by
                    unfold hex4
                    split
                    · rename_i e
                      cases e
                      simp [ha, hb, hc]
                    · rfl
                  rw [this]
                  exact fourG_none hc _ _ _ _
                | some c' =>
                  rw [fourG_some hc]
                  cases s with
                  | nil => exact fourG_nil _ _ _
                  | cons d s =>
                    cases hd : hexV' d with
                    | none =>
                      have : hex4 (a :: b :: c :: d :: s) = none := by simp [hex4, ha, hb, hc, hd]
                      rw [this]
                      exact fourG_none hd _ _ _ _
                    | some d' =>
                      rw [fourG_some hd]
                      have : hex4 (a :: b :: c :: d :: s) = some (((a' * 16 + b') * 16 + c') * 16 + d', s) := by simp [hex4, ha, hb, hc, hd]
                      rw [this]
                      simp only [fourG]
                      simp
    · rw [if_neg hu, show hasB 117 (u :: s) = false by simp [hasB, hu], Bool.not_false, Bool.or_true]
      exact four_bad _ _ _
theorem fourF_tl (s : Bs) (bad : Bool) : Tl s (fourF s bad).2.1 := (tl_isF 117 s).trans (four_tl _ _ _ _)
theorem fourF_lt (s : Bs) (bad : Bool) : (fourF s bad).1 < 65536 := by
  have := four_lt 4 0 (isF 117 s) (bad || !hasB 117 s)
  unfold fourF
  omega
theorem fourF_bad (s : Bs) : (fourF s true).2.2 = true := by
  unfold fourF
  rw [Bool.true_or]
  exact four_bad _ _ _
end Go.Proofs.YtljnbbdhmlfhjaaGreatDoor
/-
  The document's JSON reader in memory: peek, is, space.
-/
namespace Go.Proofs.YtljnbbdhmlfhjaaGreatDoor
open Go.RowKit
def rdObj (sv : Value) (a deep most : Nat) (bad : Bool) : Obj := .cells #[sv, .int .i64 (a : Int), .int .i64 (deep : Int), .int .i64 (most : Int), .bool bad] 129 (0, 0)
/-- The reader: all its bytes, the place, how deep it is and was. -/
structure ZSt (w : World) (p : Nat) (sv : Value) (S : Bs) (a deep most : Nat) (bad : Bool) : Prop where
  own : w.heap[p]? = some (rdObj sv a deep most bad)
  row : ∀ W, Below p w W → argRow W sv S.length 1 (S.map bCell)
/-- .. ahead of the bytes s. -/
def ZS (S : Bs) (w : World) (p : Nat) (s : Bs) (deep most : Nat) (bad : Bool) : Prop := ∃ sv a, a + s.length = S.length ∧ S.drop a = s ∧ ZSt w p sv S a deep most bad
theorem ZSt.lt {w : World} {p : Nat} {sv : Value} {S : Bs} {a deep most : Nat} {bad : Bool} (h : ZSt w p sv S a deep most bad) : p < w.heap.size := (Array.getElem?_eq_some_iff.1 h.own).1
theorem ZS.lt {S : Bs} {w : World} {p : Nat} {s : Bs} {deep most : Nat} {bad : Bool} (h : ZS S w p s deep most bad) : p < w.heap.size := by
  obtain ⟨_, _, _, _, h⟩ := h
  exact h.lt
theorem ZSt.cells {w : World} {p : Nat} {sv : Value} {S : Bs} {a deep most : Nat} {bad : Bool} (h : ZSt w p sv S a deep most bad) :
    (w.cell? ⟨p, 0, none⟩ = some sv ∧ w.cell? ⟨p, 1, none⟩ = some (.int .i64 (a : Int)) ∧ w.cell? ⟨p, 2, none⟩ = some (.int .i64 (deep : Int)) ∧ w.cell? ⟨p, 3, none⟩ = some (.int .i64 (most : Int)) ∧ w.cell? ⟨p, 4, none⟩ = some (.bool bad)) ∧
    ∀ j, w.frozen? ⟨p, j, none⟩ = false :=
  ⟨⟨by rw [Lib.cell_of_heap h.own]; rfl, by rw [Lib.cell_of_heap h.own]; rfl, by rw [Lib.cell_of_heap h.own]; rfl, by rw [Lib.cell_of_heap h.own]; rfl, by rw [Lib.cell_of_heap h.own]; rfl⟩, fun j => Lib.frozen_of_heap h.own j⟩
theorem ZSt.keptB {w w' : World} {p : Nat} {sv : Value} {S : Bs} {a deep most : Nat} {bad : Bool} (h : ZSt w p sv S a deep most bad) (hb : Below w.heap.size w w') : ZSt w' p sv S a deep most bad :=
  ⟨by rw [hb.block p h.lt]; exact h.own, fun W hW => h.row W ((hb.mono (Nat.le_of_lt h.lt)).trans hW)⟩
theorem ZS.keptB {S : Bs} {w w' : World} {p : Nat} {s : Bs} {deep most : Nat} {bad : Bool} (h : ZS S w p s deep most bad) (hb : Below w.heap.size w w') : ZS S w' p s deep most bad := by
  obtain ⟨sv, a, h1, h2, h⟩ := h
  exact ⟨sv, a, h1, h2, h.keptB hb⟩
/-- Nothing turns but one row of the call's own, which is not the reader. -/
theorem ZS.kept {S : Bs} {w w' : World} {p : Nat} {s : Bs} {deep most : Nat} {bad : Bool} {row : Option Nat} (h : ZS S w p s deep most bad) (hg : w.grownBy w' row) (hr : ∀ k, row = some k → p < k) : ZS S w' p s deep most bad := by
  obtain ⟨sv, a, h1, h2, h⟩ := h
  refine ⟨sv, a, h1, h2, by rw [hg.block p h.lt (fun e => by have := hr p e.symm; omega)]; exact h.own, fun W hW => h.row W (Below.trans ⟨hg.os, hg.tape, hg.output, hg.size, fun k hk => hg.block k (Nat.lt_trans hk h.lt) fun e => by have := hr k e.symm; omega⟩ hW)⟩
/-- One of its cells turns. -/
theorem ZSt.set {w w' : World} {p : Nat} {sv : Value} {S : Bs} {a deep most a2 deep2 most2 : Nat} {bad bad2 : Bool} (h : ZSt w p sv S a deep most bad) (hg : w.grownBy w' (some p)) (ho : w'.heap[p]? = some (rdObj sv a2 deep2 most2 bad2)) : ZSt w' p sv S a2 deep2 most2 bad2 :=
  ⟨ho, fun W hW => h.row W ((grown_low hg (Nat.le_of_lt h.lt)).trans hW)⟩
theorem ZSt.setAt {w : World} {p : Nat} {sv : Value} {S : Bs} {a deep most : Nat} {bad : Bool} (h : ZSt w p sv S a deep most bad) (n : Nat) : ZSt (w.setCell ⟨p, 1, none⟩ (.int .i64 (n : Int))) p sv S n deep most bad :=
  h.set (gset w p 1 _) (by rw [heap_setCell_same _ _ _ _ _ _ h.own]; rfl)
theorem ZS.setDeep {S : Bs} {w : World} {p : Nat} {s : Bs} {deep most : Nat} {bad : Bool} (h : ZS S w p s deep most bad) (n : Nat) (z : Int) (hz : z = (n : Int)) : ZS S (w.setCell ⟨p, 2, none⟩ (.int .i64 z)) p s n most bad ∧ w.grownBy (w.setCell ⟨p, 2, none⟩ (.int .i64 z)) (some p) := by
  subst hz
  obtain ⟨sv, a, h1, h2, h⟩ := h
  exact ⟨⟨sv, a, h1, h2, h.set (gset w p 2 _) (by rw [heap_setCell_same _ _ _ _ _ _ h.own]; rfl)⟩, gset w p 2 _⟩
theorem ZS.setMost {S : Bs} {w : World} {p : Nat} {s : Bs} {deep most : Nat} {bad : Bool} (h : ZS S w p s deep most bad) (n : Nat) (z : Int) (hz : z = (n : Int)) : ZS S (w.setCell ⟨p, 3, none⟩ (.int .i64 z)) p s deep n bad ∧ w.grownBy (w.setCell ⟨p, 3, none⟩ (.int .i64 z)) (some p) := by
  subst hz
  obtain ⟨sv, a, h1, h2, h⟩ := h
  exact ⟨⟨sv, a, h1, h2, h.set (gset w p 3 _) (by rw [heap_setCell_same _ _ _ _ _ _ h.own]; rfl)⟩, gset w p 3 _⟩
theorem ZS.setBad {S : Bs} {w : World} {p : Nat} {s : Bs} {deep most : Nat} {bad : Bool} (h : ZS S w p s deep most bad) (b : Bool) : ZS S (w.setCell ⟨p, 4, none⟩ (.bool b)) p s deep most b ∧ w.grownBy (w.setCell ⟨p, 4, none⟩ (.bool b)) (some p) := by
  obtain ⟨sv, a, h1, h2, h⟩ := h
  exact ⟨⟨sv, a, h1, h2, h.set (gset w p 4 _) (by rw [heap_setCell_same _ _ _ _ _ _ h.own]; rfl)⟩, gset w p 4 _⟩
theorem ZS.flag {S : Bs} {w : World} {p : Nat} {s : Bs} {deep most : Nat} {bad : Bool} (h : ZS S w p s deep most bad) : (w.cell? ⟨p, 4, none⟩ = some (.bool bad) ∧ w.cell? ⟨p, 2, none⟩ = some (.int .i64 (deep : Int)) ∧ w.cell? ⟨p, 3, none⟩ = some (.int .i64 (most : Int))) ∧ ∀ j, w.frozen? ⟨p, j, none⟩ = false := by
  obtain ⟨sv, a, h1, h2, h⟩ := h
  obtain ⟨⟨-, -, c2, c3, c4⟩, f⟩ := h.cells
  exact ⟨⟨c4, c2, c3⟩, f⟩
/-- At the end. -/
theorem ZS.end' {S : Bs} {w : World} {p : Nat} {deep most : Nat} {bad : Bool} (h : ZS S w p [] deep most bad) : ∃ aa c, (w.cell? ⟨p, 0, none⟩ = some (.slice aa S.length c) ∧ w.cell? ⟨p, 1, none⟩ = some (.int .i64 (S.length : Int))) ∧ ∀ j, w.frozen? ⟨p, j, none⟩ = false := by
  obtain ⟨sv, a, h1, h2, h⟩ := h
  obtain ⟨⟨c0, c1, -⟩, f⟩ := h.cells
  obtain ⟨_, aa, c, rfl, -⟩ := h.row w (Below.refl _ _)
  obtain rfl : a = S.length := by simpa using h1
  exact ⟨aa, c, ⟨c0, c1⟩, f⟩
/-- Ahead of a byte. -/
theorem ZS.front {S : Bs} {w : World} {p : Nat} {c : UInt8} {s : Bs} {deep most : Nat} {bad : Bool} (h : ZS S w p (c :: s) deep most bad) :
    ∃ b off cap a : Nat, (w.cell? ⟨p, 0, none⟩ = some (.slice (some ⟨b, off, none⟩) S.length cap) ∧ w.cell? ⟨p, 1, none⟩ = some (.int .i64 (a : Int)) ∧ w.cell? ⟨b, off + a, none⟩ = some (.int .u8 (c.toNat : Int))) ∧ a < S.length ∧ (∀ j, w.frozen? ⟨p, j, none⟩ = false) ∧
      ∀ W z w2, Below w.heap.size w W → z = (a : Int) + 1 → w2 = W.setCell ⟨p, 1, none⟩ (.int .i64 z) → ZS S w2 p s deep most bad ∧ w.grownBy w2 (some p) := by
  obtain ⟨sv, a, h1, h2, h⟩ := h
  obtain ⟨⟨c0, c1, -⟩, f⟩ := h.cells
  obtain ⟨_, aa, cap, rfl, -, -, hc⟩ := h.row w (Below.refl _ _)
  simp only [List.length_cons] at h1
  have hlt : a < S.length := by omega
  obtain ⟨b, off, rfl, hb, hcs⟩ := hc (by omega)
  have hx : S[a] = c := by
    have := congrArg List.head? h2
    rw [List.head?_drop, List.getElem?_eq_getElem hlt] at this
    simpa using this
  have hcx := hcs a (by simpa using hlt)
  rw [List.getElem_map, hx] at hcx
  refine ⟨b, off, cap, a, ⟨c0, c1, hcx⟩, hlt, f, fun W z w2 hW hz e => ?_⟩
  subst e
  obtain rfl : z = ((a + 1 : Nat) : Int) := by omega
  exact ⟨⟨_, a + 1, by omega, by rw [← List.drop_drop, h2]; rfl, (h.keptB hW).setAt (a + 1)⟩, (grown_of_below hW _).trans (gset _ _ _ _)⟩
theorem ZS.len {S : Bs} {w : World} {p : Nat} {s : Bs} {deep most : Nat} {bad : Bool} (h : ZS S w p s deep most bad) : s.length ≤ S.length := by
  obtain ⟨sv, a, h1, h2, h⟩ := h
  omega
/-- The place and how far it is. -/
theorem ZS.place {S : Bs} {w : World} {p : Nat} {s : Bs} {deep most : Nat} {bad : Bool} (h : ZS S w p s deep most bad) : ∃ aa c, ∃ a : Nat, (w.cell? ⟨p, 0, none⟩ = some (.slice aa S.length c) ∧ w.cell? ⟨p, 1, none⟩ = some (.int .i64 (a : Int))) ∧ a + s.length = S.length ∧ S.drop a = s ∧ argRow w (.slice aa S.length c) S.length 1 (S.map bCell) := by
  obtain ⟨sv, a, h1, h2, h⟩ := h
  obtain ⟨⟨c0, c1, -⟩, f⟩ := h.cells
  have hr := h.row w (Below.refl _ _)
  have hr2 := hr
  obtain ⟨_, aa, c, rfl, -⟩ := hr
  exact ⟨aa, c, a, ⟨c0, c1⟩, h1, h2, hr2⟩
set_option maxRecDepth 100000 in
set_option maxHeartbeats 4000000 in
theorem z_peek (S : Bs) (p : Nat) (w : World) (s : Bs) (deep most : Nat) (bad : Bool) (hS : S.length ≤ 1099511627776) (h : ZS S w p s deep most bad) :
    Calls Tryz.prog 101 #[.pointer (some ⟨p, 0, none⟩)] w fun e w' => e = .returned (.int .u8 (headN s : Int)) ∧ Below w.heap.size w w' := by
  cases s with
  | nil =>
    obtain ⟨aa, c, ⟨c0, c1⟩, f⟩ := h.end'
    have hge : decide ((S.length : Int) ≤ (S.length : Int)) = true := decide_eq_true (by omega)
    clear h f
    generalize S.length = n at *
    go_enter Tryz.func101, Tryz.ntmps101
    go_upto_region 1 with fail
    go_quiet (fail)
    go_wp2
    go_ret
    exact ⟨rfl, below_drewN (Below.refl _ _) _⟩
  | cons x s =>
    obtain ⟨b, off, cap, a, ⟨c0, c1, c2⟩, hlt, f, -⟩ := h.front
    have e : (headN (x :: s) : Int) = (x.toNat : Int) := rfl
    rw [e]
    have hge : decide ((S.length : Int) ≤ (a : Int)) = false := decide_eq_false (by omega)
    have hge2 : (a : Int) < (S.length : Int) := by omega
    clear h f e
    generalize S.length = n at *
    generalize (x.toNat : Int) = y at *
    go_enter Tryz.func101, Tryz.ntmps101
    go_upto_region 1 with fail
    go_quiet (fail)
    go_wp2_with fail
    go_quiet (fail)
    go_wp2
    go_ret
    exact ⟨rfl, (by (repeat (first | assumption | with_reducible exact Below.refl _ _ | with_reducible refine Below.drew ?_ | with_reducible refine below_drewN ?_ _)); done)⟩
set_option maxRecDepth 100000 in
set_option maxHeartbeats 4000000 in
theorem z_is (c : UInt8) (S : Bs) (p : Nat) (w : World) (s : Bs) (deep most : Nat) (bad : Bool) (hS : S.length ≤ 1099511627776) (h : ZS S w p s deep most bad) :
    Calls Tryz.prog 132 #[.pointer (some ⟨p, 0, none⟩), .int .u8 (c.toNat : Int)] w fun e w' => e = .returned (.bool (hasB c s)) ∧ ZS S w' p (isF c s) deep most bad ∧ w.grownBy w' (some p) := by
  have hpw := h.lt
  cases s with
  | nil =>
    have H := Lib.hid h
    obtain ⟨aa, ca, ⟨c0, c1⟩, f⟩ := h.end'
    have hge : decide ((S.length : Int) < (S.length : Int)) = false := decide_eq_false (by omega)
    show Calls _ _ _ _ fun e w' => e = .returned (.bool false) ∧ ZS S w' p [] deep most bad ∧ w.grownBy w' (some p)
    obtain ⟨n, hn⟩ : ∃ n, S.length = n := ⟨_, rfl⟩
    rw [hn] at c0 c1 hge
    clear h f hn hS
    go_enter Tryz.func132, Tryz.ntmps132
    go_upto_region 1 with fail
    go_quiet (fail)
    go_wp2
    go_ret
    exact ⟨rfl, H.out.keptB (below_drewN (Below.refl _ _) _), grown_of_below (below_drewN (Below.refl _ _) _) _⟩
  | cons x s =>
    have H := Lib.hid h
    obtain ⟨b, off, cap, a, ⟨c0, c1, c2⟩, hlt, f, hst⟩ := h.front
    have hge : decide ((a : Int) < (S.length : Int)) = true := decide_eq_true (by omega)
    have hge2 : (a : Int) < (S.length : Int) := by omega
    have ha : (a : Int) + 1 ≤ 1099511627777 := by omega
    by_cases hx : x = c
    · subst hx
      have e1 : hasB x (x :: s) = true := by simp [hasB]
      have e2 : isF x (x :: s) = s := by simp [isF]
      rw [e1, e2]
      have HST := Lib.hid hst
      have f1 := f 1
      clear h hst e1 e2 f
      obtain ⟨n, hn⟩ : ∃ n, S.length = n := ⟨_, rfl⟩
      rw [hn] at c0 hge hge2 hS hlt
      clear hn
      generalize (x.toNat : Int) = y at *
      have hq : (y == y) = true := by simp
      go_enter Tryz.func132, Tryz.ntmps132
      go_upto_region 1 with fail
      go_quiet (fail)
      go_wp2_with fail
      go_ret
      exact ⟨rfl, HST.out _ _ _ (below_drewN (Below.refl _ _) _) rfl rfl⟩
    · have e1 : hasB c (x :: s) = false := by simp [hasB, hx]
      have e2 : isF c (x :: s) = x :: s := by simp [isF, hx]
      rw [e1, e2]
      have hq : ((x.toNat : Int) == (c.toNat : Int)) = false := by
        rw [beq_eq_false_iff_ne]
        exact fun e => hx (UInt8.toNat_inj.1 (by omega))
      clear h hst e1 e2 f
      obtain ⟨n, hn⟩ : ∃ n, S.length = n := ⟨_, rfl⟩
      rw [hn] at c0 hge hge2 hS hlt
      clear hn
      go_enter Tryz.func132, Tryz.ntmps132
      go_upto_region 1 with fail
      go_quiet (fail)
      go_wp2
      go_ret
      exact ⟨rfl, H.out.keptB (below_drewN (Below.refl _ _) _), grown_of_below (below_drewN (Below.refl _ _) _) _⟩
end Go.Proofs.YtljnbbdhmlfhjaaGreatDoor
/-
  The document's JSON reader: space, word, digits.
-/
namespace Go.Proofs.YtljnbbdhmlfhjaaGreatDoor
open Go.RowKit
/-- Peek, from any world behind. -/
theorem z_peeks (S : Bs) (p : Nat) (wr : World) (s : Bs) (deep most : Nat) (bad : Bool) (hS : S.length ≤ 1099511627776) (h : ZS S wr p s deep most bad) (W : World) (hW : Below wr.heap.size wr W) :
    Calls Tryz.prog 101 #[.pointer (some ⟨p, 0, none⟩)] W fun e w' => e = .returned (.int .u8 (headN s : Int)) ∧ Below wr.heap.size wr w' :=
  (z_peek S p W s deep most bad hS (h.keptB hW)).mono fun e w' ⟨h1, h2⟩ => ⟨h1, hW.trans (h2.mono hW.size)⟩
set_option maxRecDepth 100000 in
set_option maxHeartbeats 8000000 in
theorem z_space (S : Bs) (p : Nat) (w : World) (s : Bs) (deep most : Nat) (bad : Bool) (hS : S.length ≤ 1099511627776) (h : ZS S w p s deep most bad) :
    Calls Tryz.prog 100 #[.pointer (some ⟨p, 0, none⟩)] w fun e w' => e = .returned (.tuple #[]) ∧ ZS S w' p (sp s) deep most bad ∧ w.grownBy w' (some p) := by
  have H := Lib.hid h
  obtain ⟨T, hT⟩ : ∃ T, sp s = T := ⟨_, rfl⟩
  rw [hT]
  have HT := Lib.hid hT
  have HS := Lib.hid hS
  clear h hT hS
  go_enter Tryz.func100, Tryz.ntmps100
  go_wp2
  go_loopg [] s.length (fun gk wr => ∃ s', ZS S wr p s' deep most bad ∧ sp s' = T ∧ s'.length ≤ gk ∧ w.grownBy wr (some p))
  case atStart => exact ⟨s, H.out, HT.out, Nat.le_refl _, grown_refl w _⟩
  case round =>
    obtain ⟨s', hj, hs, hgk, hg⟩ := hrel
    have HJS := Lib.hid hj
    have HG := Lib.hid hg
    have CPK := Lib.hid (z_peeks S p wr s' deep most bad HS.out hj)
    have hb0 : Below wr.heap.size wr wr := Below.refl _ _
    clear hg
    cases s' with
    | nil =>
      have hs' : T = [] := hs.symm
      subst hs'
      have e0 : (headN [] : Int) = 0 := rfl
      rw [e0] at CPK
      clear hj hs hgk HT e0
      go_wp2_with (go_at_call 101; refine (CPK.out _ (by assumption)).mono ?_; rintro e w2 ⟨rfl, hb2⟩)
      go_end0
      exact ⟨rfl, HJS.out.keptB (by assumption), HG.out.trans (grown_of_below (by assumption) _)⟩
    | cons c r =>
      have e0 : (headN (c :: r) : Int) = (c.toNat : Int) := rfl
      rw [e0] at CPK
      cases hw : isW c with
      | false =>
        have hn := isW_iff (c := c)
        rw [hw] at hn
        have hs' : T = c :: r := by rw [← hs, sp_no r hw]
        have HS' := Lib.hid hs'
        have hne : ¬ (c.toNat = 32 ∨ c.toNat = 9 ∨ c.toNat = 10 ∨ c.toNat = 13) := fun e => by cases hn.2 e
        have e1 : ((c.toNat : Int) == 32) = false := by simp; omega
        have e2 : ((c.toNat : Int) == 9) = false := by simp; omega
        have e3 : ((c.toNat : Int) == 10) = false := by simp; omega
        have e4 : ((c.toNat : Int) == 13) = false := by simp; omega
        clear hj hs hgk HT hn hw hs' hne e0
        generalize (c.toNat : Int) = x at *
        go_wp2_with (go_at_call 101; refine (CPK.out _ (by assumption)).mono ?_; rintro e w2 ⟨rfl, hb2⟩)
        go_end0
        exact ⟨rfl, HS'.out ▸ HJS.out.keptB (by assumption), HG.out.trans (grown_of_below (by assumption) _)⟩
      | true =>
        have hs' : sp r = T := by rw [← hs, sp_yes r hw]
        have HS' := Lib.hid hs'
        have hx := isW_iff.1 hw
        have HFR := Lib.hid (fun W (hW : Below wr.heap.size wr W) => (hj.keptB hW).front)
        obtain ⟨b, off, cap, a, ⟨c0, c1, c2⟩, hlt, f, hst⟩ := hj.front
        have HST := Lib.hid hst
        have HC1 := Lib.hid (fun W (hW : Below wr.heap.size wr W) => (show W.cell? ⟨p, 1, none⟩ = some (.int .i64 (a : Int)) ∧ W.frozen? ⟨p, 1, none⟩ = false from
          ⟨by rw [hW.cell (p := ⟨p, 1, none⟩) hj.lt]; exact c1, by rw [hW.frozen (p := ⟨p, 1, none⟩) hj.lt]; exact f 1⟩))
        have ha : a + 1 ≤ 1099511627777 := by have := HS.out; omega
        have HGK := Lib.hid hgk
        obtain ⟨x, ex⟩ : ∃ x : Int, (c.toNat : Int) = x := ⟨_, rfl⟩
        rw [ex] at CPK
        have hx' : x = 32 ∨ x = 9 ∨ x = 10 ∨ x = 13 := by omega
        clear hj hs hgk HT hx hw hs' ex e0 c0 c1 c2 f hst hlt
        obtain ⟨k, rfl⟩ : ∃ k, gk = k + 1 := ⟨gk - 1, by have := HGK.out; simp at this; omega⟩
        rcases hx' with rfl | rfl | rfl | rfl
        all_goals
          go_upto_region 1 with (go_at_call 101; refine (CPK.out _ (by assumption)).mono ?_; rintro e w2 ⟨rfl, hb2⟩; obtain ⟨d1, f1⟩ := HC1.out _ hb2)
          go_wp2
          go_roundg k
          case measure => omega
          case rel =>
            obtain ⟨g1, g2⟩ := HST.out _ _ _ hb2 rfl rfl
            exact ⟨r, g1, HS'.out, by have := HGK.out; simp at this; omega, HG.out.trans g2⟩
end Go.Proofs.YtljnbbdhmlfhjaaGreatDoor
/-
  The document's JSON reader: word, digits.
-/
namespace Go.Proofs.YtljnbbdhmlfhjaaGreatDoor
open Go.RowKit
def wordF : Bs → Bs → Bool → Bs × Bool
  | [], s, bad => (s, bad)
  | c :: w, s, bad => wordF w (isF c s) (bad || !hasB c s)
theorem wordF_bad : ∀ (w s : Bs), (wordF w s true).2 = true
  | [], _ => rfl
  | c :: w, s => by rw [wordF, Bool.true_or]; exact wordF_bad w _
theorem wordF_tl : ∀ (w s : Bs) (bad : Bool), Tl s (wordF w s bad).1
  | [], s, _ => Tl.refl s
  | c :: w, s, bad => by rw [wordF]; exact (tl_isF c s).trans (wordF_tl w _ _)
theorem wordF_P : ∀ (w s : Bs) (j : J) (bad : Bool), match wordP w j s with
    | some (_, r) => wordF w s bad = (r, bad)
    | none => (wordF w s bad).2 = true
  | [], s, j, bad => rfl
  | c :: w, s, j, bad => by
    rw [wordP, wordF]
    cases hn : nextB c s with
    | none =>
      obtain ⟨h1, h2⟩ := next_hasnt hn
      simp only [h1, Bool.not_false, Bool.or_true]
      exact wordF_bad _ _
    | some r =>
      obtain ⟨h1, h2⟩ := next_has hn
      simp only [h1, h2, Bool.not_true, Bool.or_false]
      exact wordF_P w r j bad
set_option maxRecDepth 100000 in
set_option maxHeartbeats 8000000 in
theorem z_word (t : ByteArray) (S : Bs) (p : Nat) (w : World) (s : Bs) (deep most : Nat) (bad : Bool) (hS : S.length ≤ 1099511627776) (ht : t.size ≤ 1000) (h : ZS S w p s deep most bad) :
    Calls Tryz.prog 102 #[.pointer (some ⟨p, 0, none⟩), .string t] w fun e w' => e = .returned (.string t) ∧ ZS S w' p (wordF t.data.toList s bad).1 deep most (wordF t.data.toList s bad).2 ∧ w.grownBy w' (some p) := by
  have H := Lib.hid h
  obtain ⟨X, hX⟩ : ∃ X, wordF t.data.toList s bad = X := ⟨_, rfl⟩
  rw [hX]
  have HX := Lib.hid hX
  have HS := Lib.hid hS
  clear h hX hS
  go_enter Tryz.func102, Tryz.ntmps102
  go_wp2
  go_loopw [5] (fun iv wr => ∃ (k : Nat) (s' : Bs) (b' : Bool), iv = .int .i64 k ∧ k ≤ t.size ∧ ZS S wr p s' deep most b' ∧ wordF (t.data.toList.drop k) s' b' = X ∧ w.grownBy wr (some p)) (fun iv _ => t.size - (intOf iv).toNat)
  case atStart => exact ⟨0, s, bad, rfl, by omega, H.out, HX.out, grown_refl w _⟩
  case round =>
    obtain ⟨k, s', b', rfl, hk, hz, hx, hg⟩ := hrel
    by_cases hks : k < t.size
    · rw [drop_byteJ t k hks] at hx
      have HG := Lib.hid hg
      have HXX := Lib.hid hx
      go_upto_region 4 with fail
      clear hg hx
      have CI := z_is t[k] S p wr s' deep most b' HS.out hz
      cases hb : hasB t[k] s' with
      | true =>
        rw [hb] at CI
        have hq : wordF (t.data.toList.drop (k + 1)) (isF t[k] s') b' = X := by
          rw [← HXX.out, wordF, hb, Bool.not_true, Bool.or_false]
        have HQ := Lib.hid hq
        clear hz hq HXX hb HX
        go_wp2_with (go_at_call 132; refine CI.mono ?_; rintro e w2 ⟨rfl, hz2, hg2⟩; have H2 := Lib.hid (And.intro hz2 hg2); clear hz2 hg2)
        go_roundw
        case rel => exact ⟨k + 1, _, _, by go_num, by omega, H2.out.1, HQ.out, HG.out.trans H2.out.2⟩
        case measure => simp [intOf]; omega
      | false =>
        rw [hb] at CI
        have hq : wordF (t.data.toList.drop (k + 1)) (isF t[k] s') true = X := by
          rw [← HXX.out, wordF, hb, Bool.not_false, Bool.or_true]
        have HQ := Lib.hid hq
        clear hz hq HXX hb HX
        go_wp2_with (go_at_call 132; refine CI.mono ?_; rintro e w2 ⟨rfl, hz2, hg2⟩; have H2 := Lib.hid (And.intro hz2 hg2); obtain ⟨⟨f0, -⟩, ff⟩ := hz2.flag; have ff4 := ff 4; clear hz2 hg2 ff)
        go_roundw
        case rel =>
          have hsb := H2.out.1.setBad true
          exact ⟨k + 1, _, _, by go_num, by omega, hsb.1, HQ.out, HG.out.trans (H2.out.2.trans hsb.2)⟩
        case measure => simp [intOf]; omega
    · have he : t.data.toList.drop k = [] := List.drop_of_length_le (by simp [ByteArray.size_data]; omega)
      rw [he] at hx
      obtain rfl : (s', b') = X := hx
      have HZ := Lib.hid (And.intro hz hg)
      clear hz hg HX he
      have hd : decide (k < t.size) = false := decide_eq_false hks
      go_wp2
      go_ret
      exact ⟨rfl, HZ.out.1, HZ.out.2⟩
theorem digs_head {c : UInt8} {r : Bs} (h : isD c = false) : digs (c :: r) = 0 := by simp [digs, h]
theorem digs_more {c : UInt8} {r : Bs} (h : isD c = true) : digs (c :: r) = digs r + 1 := by simp [digs, h]
set_option maxRecDepth 100000 in
set_option maxHeartbeats 8000000 in
theorem z_digits (S : Bs) (p : Nat) (w : World) (s : Bs) (deep most : Nat) (bad : Bool) (hS : S.length ≤ 1099511627776) (h : ZS S w p s deep most bad) :
    Calls Tryz.prog 135 #[.pointer (some ⟨p, 0, none⟩)] w fun e w' => e = .returned (.tuple #[]) ∧ ZS S w' p (s.drop (digs s)) deep most (bad || decide (digs s = 0)) ∧ w.grownBy w' (some p) := by
  have H := Lib.hid h
  obtain ⟨T, hT⟩ : ∃ T, s.drop (digs s) = T := ⟨_, rfl⟩
  rw [hT]
  have HT := Lib.hid hT
  have HS := Lib.hid hS
  have CPK := Lib.hid (z_peeks S p w s deep most bad HS.out h)
  have hb0 : Below w.heap.size w w := Below.refl _ _
  obtain ⟨D, hD⟩ : ∃ D, decide (digs s = 0) = D := ⟨_, rfl⟩
  rw [hD]
  have hx : ∃ x : Int, (headN s : Int) = x ∧ ((x < 48 ∨ 57 < x) ↔ D = true) := by
    refine ⟨_, rfl, ?_⟩
    rw [← hD, decide_eq_true_eq]
    cases s with
    | nil => simp [headN, digs]
    | cons c r =>
      have e0 : (headN (c :: r) : Int) = (c.toNat : Int) := rfl
      rw [e0]
      cases hc : isD c with
      | false =>
        rw [digs_head hc]
        rw [isD_int] at hc
        simp only [Bool.and_eq_false_iff, decide_eq_false_iff_not] at hc
        simp only [iff_true]
        omega
      | true =>
        rw [digs_more hc]
        rw [isD_int] at hc
        simp only [Bool.and_eq_true, decide_eq_true_eq] at hc
        simp only [Nat.add_eq_zero_iff, Nat.succ_ne_self, and_false, iff_false]
        omega
  obtain ⟨x, ex, hxD⟩ := hx
  rw [ex] at CPK
  clear h hT hS hD ex
  have hx3 : (x < 48 ∧ D = true) ∨ (¬ x < 48 ∧ 57 < x ∧ D = true) ∨ (¬ x < 48 ∧ ¬ 57 < x ∧ D = false) := by
    cases D with
    | true =>
      have := hxD.2 rfl
      simp only [and_true, Bool.true_eq_false, and_false, or_false]
      omega
    | false =>
      have : ¬ (x < 48 ∨ 57 < x) := fun e => by cases hxD.1 e
      simp only [Bool.false_eq_true, and_false, and_true, false_or]
      omega
  clear hxD
  have hfl := Lib.hid (fun W (hW : Below w.heap.size w W) => (H.out.keptB hW).flag)
  obtain ⟨B, hB⟩ : ∃ B, (bad || D) = B := ⟨_, rfl⟩
  rw [hB]
  go_enter Tryz.func135, Tryz.ntmps135
  rcases hx3 with ⟨h1, rfl⟩ | ⟨h1, h2, rfl⟩ | ⟨h1, h2, rfl⟩
  case' inl =>
    rw [Bool.or_true] at hB
    have HBB := Lib.hid hB
    clear hB
    have d1 : decide (x < 48) = true := decide_eq_true h1
    clear h1
    go_upto_region 2 with (go_at_call 101; refine (CPK.out _ (by assumption)).mono ?_; rintro e w2 ⟨rfl, hb2⟩; obtain ⟨⟨f0, -⟩, ff⟩ := hfl.out _ hb2; have ff4 := ff 4; clear ff)
    have hsb := (H.out.keptB hb2).setBad true
    have hsb1 : ZS S (w2.setCell ⟨p, 4, none⟩ (.bool true)) p s deep most B := by rw [← HBB.out]; exact hsb.1
    have HZ := Lib.hid (And.intro hsb1 ((grown_of_below hb2 _).trans hsb.2))
    clear hsb hsb1 HBB f0 ff4 d1
    obtain ⟨wx, hwx⟩ : ∃ wx, w2.setCell ⟨p, 4, none⟩ (.bool true) = wx := ⟨_, rfl⟩
    rw [hwx] at HZ ⊢
    clear hwx hb2
  case' inr.inl =>
    rw [Bool.or_true] at hB
    have HBB := Lib.hid hB
    clear hB
    have d1 : decide (x < 48) = false := decide_eq_false h1
    have d2 : decide (57 < x) = true := decide_eq_true h2
    clear h1 h2
    go_upto_region 2 with (go_at_call 101; refine (CPK.out _ (by assumption)).mono ?_; rintro e w2 ⟨rfl, hb2⟩; obtain ⟨⟨f0, -⟩, ff⟩ := hfl.out _ hb2; have ff4 := ff 4; clear ff)
    have hsb := (H.out.keptB hb2).setBad true
    have hsb1 : ZS S (w2.setCell ⟨p, 4, none⟩ (.bool true)) p s deep most B := by rw [← HBB.out]; exact hsb.1
    have HZ := Lib.hid (And.intro hsb1 ((grown_of_below hb2 _).trans hsb.2))
    clear hsb hsb1 HBB f0 ff4 d1 d2
    obtain ⟨wx, hwx⟩ : ∃ wx, w2.setCell ⟨p, 4, none⟩ (.bool true) = wx := ⟨_, rfl⟩
    rw [hwx] at HZ ⊢
    clear hwx
  case' inr.inr =>
    rw [Bool.or_false] at hB
    have HBB := Lib.hid hB
    clear hB
    have d1 : decide (x < 48) = false := decide_eq_false h1
    have d2 : decide (57 < x) = false := decide_eq_false h2
    clear h1 h2
    go_upto_region 2 with (go_at_call 101; refine (CPK.out _ (by assumption)).mono ?_; rintro e wx ⟨rfl, hb2⟩)
    have hzz : ZS S wx p s deep most B := by rw [← HBB.out]; exact H.out.keptB hb2
    have HZ := Lib.hid (And.intro hzz (grown_of_below hb2 (some p)))
    clear d1 d2 hzz HBB
  all_goals
    clear CPK hb0 H hfl
    go_loopg [] s.length (fun gk wr => ∃ s', ZS S wr p s' deep most B ∧ s'.drop (digs s') = T ∧ s'.length ≤ gk ∧ w.grownBy wr (some p))
    case atStart => exact ⟨s, HZ.out.1, HT.out, Nat.le_refl _, HZ.out.2⟩
    case round =>
      obtain ⟨s', hj, hs, hgk, hg⟩ := hrel
      have HJS := Lib.hid hj
      have HG := Lib.hid hg
      have CPK := Lib.hid (z_peeks S p wr s' deep most B HS.out hj)
      have hb0 : Below wr.heap.size wr wr := Below.refl _ _
      clear hg
      cases s' with
      | nil =>
        have hs' : T = [] := hs.symm
        subst hs'
        have e0 : (headN [] : Int) = 0 := rfl
        rw [e0] at CPK
        clear hj hs hgk HT e0
        go_wp2_with (go_at_call 101; refine (CPK.out _ (by assumption)).mono ?_; rintro e w2 ⟨rfl, hb2⟩)
        go_end0
        exact ⟨rfl, HJS.out.keptB (by assumption), HG.out.trans (grown_of_below (by assumption) _)⟩
      | cons c r =>
        have e0 : (headN (c :: r) : Int) = (c.toNat : Int) := rfl
        rw [e0] at CPK
        cases hw : isD c with
        | false =>
          have hs' : T = c :: r := by rw [← hs, digs_head hw]; rfl
          have HS' := Lib.hid hs'
          rw [isD_int] at hw
          clear hj hs hgk HT hs' e0
          generalize (c.toNat : Int) = x at *
          by_cases h1 : 48 ≤ x
          · have d1 : decide (48 ≤ x) = true := decide_eq_true h1
            rw [d1, Bool.true_and] at hw
            go_wp2_with (go_at_call 101; refine (CPK.out _ (by assumption)).mono ?_; rintro e w2 ⟨rfl, hb2⟩)
            go_end0
            exact ⟨rfl, HS'.out ▸ HJS.out.keptB (by assumption), HG.out.trans (grown_of_below (by assumption) _)⟩
          · have d1 : decide (48 ≤ x) = false := decide_eq_false h1
            clear hw
            go_wp2_with (go_at_call 101; refine (CPK.out _ (by assumption)).mono ?_; rintro e w2 ⟨rfl, hb2⟩)
            go_end0
            exact ⟨rfl, HS'.out ▸ HJS.out.keptB (by assumption), HG.out.trans (grown_of_below (by assumption) _)⟩
        | true =>
          have hs' : r.drop (digs r) = T := by rw [← hs, digs_more hw]; rfl
          have HS' := Lib.hid hs'
          obtain ⟨b, off, cap, a, ⟨c0, c1, c2⟩, hlt, f, hst⟩ := hj.front
          have HST := Lib.hid hst
          have HC1 := Lib.hid (fun W (hW : Below wr.heap.size wr W) => (show W.cell? ⟨p, 1, none⟩ = some (.int .i64 (a : Int)) ∧ W.frozen? ⟨p, 1, none⟩ = false from
            ⟨by rw [hW.cell (p := ⟨p, 1, none⟩) hj.lt]; exact c1, by rw [hW.frozen (p := ⟨p, 1, none⟩) hj.lt]; exact f 1⟩))
          have ha : a + 1 ≤ 1099511627777 := by have := HS.out; omega
          have HGK := Lib.hid hgk
          rw [isD_int] at hw
          simp only [Bool.and_eq_true] at hw
          obtain ⟨d1, d2⟩ := hw
          clear hj hs hgk HT hs' e0 c0 c1 c2 f hst hlt
          generalize (c.toNat : Int) = x at *
          obtain ⟨k, rfl⟩ : ∃ k, gk = k + 1 := ⟨gk - 1, by have := HGK.out; simp at this; omega⟩
          go_upto_region 3 with (go_at_call 101; refine (CPK.out _ (by assumption)).mono ?_; rintro e w2 ⟨rfl, hb2⟩; obtain ⟨d3, f1⟩ := HC1.out _ hb2)
          go_wp2
          go_roundg k
          case measure => omega
          case rel =>
            obtain ⟨g1, g2⟩ := HST.out _ _ _ hb2 rfl rfl
            exact ⟨r, g1, HS'.out, by have := HGK.out; simp at this; omega, HG.out.trans g2⟩
end Go.Proofs.YtljnbbdhmlfhjaaGreatDoor
/-
  The document's JSON reader: number.
-/
namespace Go.Proofs.YtljnbbdhmlfhjaaGreatDoor
open Go.RowKit
theorem z_isZ (z : Int) (c : UInt8) (hz : z = (c.toNat : Int)) (S : Bs) (p : Nat) (w : World) (s : Bs) (deep most : Nat) (bad : Bool) (hS : S.length ≤ 1099511627776) (h : ZS S w p s deep most bad) :
    Calls Tryz.prog 132 #[.pointer (some ⟨p, 0, none⟩), .int .u8 z] w fun e w' => e = .returned (.bool (hasB c s)) ∧ ZS S w' p (isF c s) deep most bad ∧ w.grownBy w' (some p) := by
  subst hz
  exact z_is c S p w s deep most bad hS h
theorem head_dig (s : Bs) : ∃ x : Int, (headN s : Int) = x ∧ ((48 ≤ x ∧ x ≤ 57) ↔ 0 < digs s) := by
  refine ⟨_, rfl, ?_⟩
  cases s with
  | nil => simp [headN, digs]
  | cons c r =>
    have e0 : (headN (c :: r) : Int) = (c.toNat : Int) := rfl
    rw [e0]
    cases hc : isD c with
    | false =>
      rw [digs_head hc]
      rw [isD_int] at hc
      simp only [Bool.and_eq_false_iff, decide_eq_false_iff_not] at hc
      simp only [Nat.lt_irrefl, iff_false]
      omega
    | true =>
      rw [digs_more hc]
      rw [isD_int] at hc
      simp only [Bool.and_eq_true, decide_eq_true_eq] at hc
      simp only [Nat.zero_lt_succ, iff_true]
      omega
/-- string(B[from:At]). -/
theorem conv_part {w : World} {aa : Option Addr} {c : Nat} {S : Bs} (h : argRow w (.slice aa S.length c) S.length 1 (S.map bCell)) (i k : Nat) (hk : i + k ≤ S.length) (a' : Option Addr) (c' : Nat) (hc' : S.length - i ≤ c' ∧ c' ≤ c) (ha : ∀ b off, aa = some ⟨b, off, none⟩ → i < S.length → a' = some ⟨b, off + i, none⟩) :
    (convert 22 9 (.slice a' k c')).run Tryz.prog w = .ok (.string ⟨((S.drop i).take k).toArray⟩) w := by
  have h1 := argRow_drop (k := i) (a' := a') (c' := c') h (by omega) hc' (fun b off e hlt => by rw [Nat.mul_one]; exact ha b off e hlt)
  have h2 := argRow_take (k := k) h1 (by omega)
  have e : (List.take (k * 1) (List.drop (i * 1) (S.map bCell))) = ((S.drop i).take k).map bCell := by simp [List.map_take, List.map_drop]
  rw [e] at h2
  have hl : ((S.drop i).take k).length = k := by rw [List.length_take, List.length_drop]; omega
  have := h2
  obtain ⟨-, a2, cap, ev, h3, h4, h5⟩ := h2
  cases ev
  cases hx : (S.drop i).take k with
  | nil =>
    rw [hx] at hl
    subst hl
    exact conv_nil Tryz.underlying22 Tryz.underlying5 Tryz.underlying9
  | cons d r =>
    rw [hx] at hl h5
    obtain ⟨g, off, rfl, hb, hcs⟩ := h5 (by rw [← hl]; simp)
    rw [← hl]
    exact conv_cells (P := Tryz.prog) (src := 22) (dst := 9) Tryz.underlying22 Tryz.underlying5 Tryz.underlying9 (fun j hj => by
      have := hcs j (by simpa using hj)
      rw [List.getElem_map] at this
      exact this)
end Go.Proofs.YtljnbbdhmlfhjaaGreatDoor
/-
  The document's JSON reader: number, its walk.
-/
namespace Go.Proofs.YtljnbbdhmlfhjaaGreatDoor
open Go.RowKit
/-- What a call of the reader's leaves. -/
def ZT (S : Bs) (p deep most : Nat) (w : World) (x : Bs × Bool) (wx : World) : Prop := ZS S wx p x.1 deep most x.2 ∧ w.grownBy wx (some p)
theorem fracF_no {x : Bs × Bool} (h : hasB 46 x.1 = false) : fracF x = x := by unfold fracF; rw [h, if_neg Bool.false_ne_true]
theorem fracF_yes {x : Bs × Bool} (h : hasB 46 x.1 = true) : fracF x = ((x.1.drop 1).drop (digs (x.1.drop 1)), x.2 || decide (digs (x.1.drop 1) = 0)) := by unfold fracF; rw [if_pos h]
theorem expF_no {x : Bs × Bool} (h : (hasB 101 x.1 || hasB 69 x.1) = false) : expF x = x := by unfold expF; rw [h, if_neg Bool.false_ne_true]
theorem expF_yes {x : Bs × Bool} (h : (hasB 101 x.1 || hasB 69 x.1) = true) : expF x = ((signF (x.1.drop 1)).drop (digs (signF (x.1.drop 1))), x.2 || decide (digs (signF (x.1.drop 1)) = 0)) := by unfold expF; rw [if_pos h]
set_option maxRecDepth 100000 in
set_option maxHeartbeats 8000000 in
theorem z_number (S : Bs) (p : Nat) (w : World) (s : Bs) (deep most : Nat) (bad : Bool) (hS : S.length ≤ 1099511627776) (h : ZS S w p s deep most bad) :
    Calls Tryz.prog 105 #[.pointer (some ⟨p, 0, none⟩)] w fun e w' => ∃ T : Bs, e = .returned (.string ⟨T.toArray⟩) ∧ s = T ++ (numF s bad).1 ∧ ZT S p deep most w (numF s bad) w' := by
  have HS := Lib.hid hS
  have H := Lib.hid h
  have C1 := z_isZ 45 45 rfl S p w s deep most bad hS h
  obtain ⟨aa, c, i, ⟨c0, c1⟩, hi, hd, hrow⟩ := h.place
  have hfr : ∀ j, w.frozen? ⟨p, j, none⟩ = false := by
    obtain ⟨sv, a, h1, h2, h3⟩ := h
    exact h3.cells.2
  have HD := Lib.hid (And.intro hi hd)
  have hil : (i : Int) ≤ 1099511627776 := by omega
  obtain ⟨s1, hs1⟩ : ∃ s1, isF 45 s = s1 := ⟨_, rfl⟩
  obtain ⟨X, hX⟩ : ∃ X, numF s bad = X := ⟨_, rfl⟩
  have HX := Lib.hid hX
  have HX2 := Lib.hid (show expF (fracF (headF s1 bad)) = X by rw [← hX, ← hs1]; rfl)
  rw [hX]
  rw [hs1] at C1
  have hTL : Tl s X.1 := by rw [← hX]; exact (num_F s bad).2.2
  have HTL := Lib.hid hTL
  clear h hX hi hd hs1 hTL c0 hfr hrow
  go_enter Tryz.func105, Tryz.ntmps105
  go_upto_region 3 with (go_at_call 132; refine C1.mono ?_; rintro e w1 ⟨rfl, hz1, hg1⟩; have H1 := Lib.hid (And.intro hz1 hg1); clear hz1 hg1)
  have C2 := z_isZ 48 48 rfl S p w1 s1 deep most bad HS.out H1.out.1
  clear C1
  obtain ⟨q, hq⟩ : ∃ q, hasB 48 s1 = q := ⟨_, rfl⟩
  rw [hq] at C2
  have HQ := Lib.hid hq
  clear hq
  go_upto_if 12 with (go_at_call 132; refine C2.mono ?_; rintro e w2 ⟨rfl, hz2, hg2⟩; have H2 := Lib.hid (And.intro hz2 hg2); clear hz2 hg2)
  go_cut [] from 12 to 25 (fun wx => ZT S p deep most w1 (headF s1 bad) wx)
  case first =>
    cases q with
    | false =>
      have hs2 : isF 48 s1 = s1 := (isF_no HQ.out).1
      have hh : headF s1 bad = (s1.drop (digs s1), bad || decide (digs s1 = 0)) := by unfold headF; rw [HQ.out, if_neg Bool.false_ne_true]
      have CD := z_digits S p w2 s1 deep most bad HS.out (by have := H2.out.1; rwa [hs2] at this)
      have HH := Lib.hid hh
      clear hs2 hh C2
      go_wp2_with (go_at_call 135; refine CD.mono ?_; rintro e w3 ⟨rfl, hz3, hg3⟩; have H3 := Lib.hid (And.intro hz3 hg3); clear hz3 hg3)
      go_meet
      rw [HH.out]
      exact ⟨H3.out.1, H2.out.2.trans H3.out.2⟩
    | true =>
      have hs2 : isF 48 s1 = s1.drop 1 := (isF_yes HQ.out).2
      have hh : headF s1 bad = (s1.drop 1, bad || decide (0 < digs (s1.drop 1))) := by unfold headF; rw [HQ.out, if_pos rfl]
      have hz2 := H2.out.1
      rw [hs2] at hz2
      obtain ⟨s2, hs2'⟩ : ∃ s2, s1.drop 1 = s2 := ⟨_, rfl⟩
      rw [hs2'] at hz2 hh
      have CPK := Lib.hid (z_peeks S p w2 s2 deep most bad HS.out hz2)
      have hb0 : Below w2.heap.size w2 w2 := Below.refl _ _
      have HH := Lib.hid hh
      have HZ2 := Lib.hid hz2
      obtain ⟨x, ex, hxD⟩ := head_dig s2
      rw [ex] at CPK
      clear hs2 hh hz2 hs2' ex C2
      by_cases hx1 : 48 ≤ x
      · have d1 : decide (48 ≤ x) = true := decide_eq_true hx1
        by_cases hx2 : x ≤ 57
        · have d2 : decide (x ≤ 57) = true := decide_eq_true hx2
          have HDG := Lib.hid (hxD.1 ⟨hx1, hx2⟩)
          have hfl := Lib.hid (fun W (hW : Below w2.heap.size w2 W) => (HZ2.out.keptB hW).flag)
          clear hxD hx1 hx2
          go_wp2_with (go_at_call 101; refine (CPK.out _ (by assumption)).mono ?_; rintro e w3 ⟨rfl, hb3⟩; obtain ⟨⟨f0, -⟩, ff⟩ := hfl.out _ hb3; have ff4 := ff 4; clear ff)
          go_meet
          have hsb := (HZ2.out.keptB hb3).setBad true
          rw [HH.out, decide_eq_true HDG.out, Bool.or_true]
          exact ⟨hsb.1, H2.out.2.trans ((grown_of_below hb3 _).trans hsb.2)⟩
        · have d2 : decide (x ≤ 57) = false := decide_eq_false hx2
          have HDG := Lib.hid (show ¬ 0 < digs s2 from fun e => hx2 (hxD.2 e).2)
          clear hxD hx1 hx2
          go_wp2_with (go_at_call 101; refine (CPK.out _ (by assumption)).mono ?_; rintro e w3 ⟨rfl, hb3⟩)
          go_meet
          rw [HH.out, decide_eq_false HDG.out, Bool.or_false]
          exact ⟨HZ2.out.keptB hb3, H2.out.2.trans (grown_of_below hb3 _)⟩
      · have d1 : decide (48 ≤ x) = false := decide_eq_false hx1
        have HDG := Lib.hid (show ¬ 0 < digs s2 from fun e => hx1 (hxD.2 e).1)
        clear hxD hx1
        go_wp2_with (go_at_call 101; refine (CPK.out _ (by assumption)).mono ?_; rintro e w3 ⟨rfl, hb3⟩)
        go_meet
        rw [HH.out, decide_eq_false HDG.out, Bool.or_false]
        exact ⟨HZ2.out.keptB hb3, H2.out.2.trans (grown_of_below hb3 _)⟩
  case rest =>
    obtain ⟨Y, hY⟩ : ∃ Y, headF s1 bad = Y := ⟨_, rfl⟩
    rw [hY] at hcut
    have HX3 := HX2.out
    rw [hY] at HX3
    have HX4 := Lib.hid HX3
    have H2 := Lib.hid hcut
    clear hcut HX3 HX2 C2 hY
    obtain ⟨w2, hw2⟩ : ∃ w2 : World, w2 = wc := ⟨_, rfl⟩
    subst hw2
    obtain ⟨s2, b2⟩ := Y
    have C3 := z_isZ 46 46 rfl S p w2 s2 deep most b2 HS.out H2.out.1
    obtain ⟨q2, hq2⟩ : ∃ q, hasB 46 s2 = q := ⟨_, rfl⟩
    rw [hq2] at C3
    have HQ2 := Lib.hid hq2
    clear hq2
    go_upto_if 27 with (go_at_call 132; refine C3.mono ?_; rintro e w3 ⟨rfl, hz3, hg3⟩; have H3 := Lib.hid (And.intro hz3 hg3); clear hz3 hg3)
    go_cut [] from 27 to 29 (fun wx => ZT S p deep most w2 (fracF (s2, b2)) wx)
    case first =>
      cases q2 with
      | false =>
        have hh : fracF (s2, b2) = (s2, b2) := fracF_no HQ2.out
        have hz3 := H3.out.1
        rw [(isF_no HQ2.out).1] at hz3
        have HZ3 := Lib.hid hz3
        have HH := Lib.hid hh
        clear hh hz3 C3
        go_wp2
        go_meet
        rw [HH.out]
        exact ⟨HZ3.out, H3.out.2⟩
      | true =>
        have hh : fracF (s2, b2) = ((s2.drop 1).drop (digs (s2.drop 1)), b2 || decide (digs (s2.drop 1) = 0)) := fracF_yes HQ2.out
        have CD := z_digits S p w3 (s2.drop 1) deep most b2 HS.out (by have := H3.out.1; rwa [(isF_yes HQ2.out).2] at this)
        have HH := Lib.hid hh
        clear hh C3
        go_wp2_with (go_at_call 135; refine CD.mono ?_; rintro e w4 ⟨rfl, hz4, hg4⟩; have H4 := Lib.hid (And.intro hz4 hg4); clear hz4 hg4)
        go_meet
        rw [HH.out]
        exact ⟨H4.out.1, H3.out.2.trans H4.out.2⟩
    case rest =>
      obtain ⟨Y, hY⟩ : ∃ Y, fracF (s2, b2) = Y := ⟨_, rfl⟩
      rw [hY] at hcut
      have HX3 := HX4.out
      rw [hY] at HX3
      have HX5 := Lib.hid HX3
      have H3 := Lib.hid hcut
      clear hcut HX3 HX4 C3 hY
      obtain ⟨w3, hw3⟩ : ∃ w3 : World, w3 = wc := ⟨_, rfl⟩
      subst hw3
      obtain ⟨s3, b3⟩ := Y
      have C4 := z_isZ 101 101 rfl S p w3 s3 deep most b3 HS.out H3.out.1
      cases hq3 : hasB 101 s3 with
      | true =>
        rw [hq3] at C4
        have HQ3 := Lib.hid (show (hasB 101 s3 || hasB 69 s3) = true by rw [hq3, Bool.true_or])
        have HI3 := Lib.hid (isF_yes hq3).2
        clear hq3
        go_upto_region 10 with (go_at_call 132; refine C4.mono ?_; rintro e w4 ⟨rfl, hz4, hg4⟩; rw [HI3.out] at hz4; have H4 := Lib.hid (And.intro hz4 hg4); clear hz4 hg4)
        clear C4
        obtain ⟨q5, hq5⟩ : ∃ q, hasB 43 (s3.drop 1) = q := ⟨_, rfl⟩
        have C5 := z_isZ 43 43 rfl S p w4 (s3.drop 1) deep most b3 HS.out H4.out.1
        rw [hq5] at C5
        have HQ5 := Lib.hid hq5
        clear hq5
        go_upto_if 38 with (go_at_call 132; refine C5.mono ?_; rintro e w5 ⟨rfl, hz5, hg5⟩; have H5 := Lib.hid (And.intro hz5 hg5); clear hz5 hg5)
        go_cut [] from 38 to 40 (fun wx => ZS S wx p (signF (s3.drop 1)) deep most b3 ∧ w4.grownBy wx (some p))
        case first =>
          cases q5 with
          | true =>
            have hh : signF (s3.drop 1) = isF 43 (s3.drop 1) := by unfold signF; rw [if_pos HQ5.out, (isF_yes HQ5.out).2]
            have HH := Lib.hid hh
            clear hh
            go_wp2
            go_meet
            rw [HH.out]
            exact H5.out
          | false =>
            have hh : signF (s3.drop 1) = isF 45 (s3.drop 1) := by unfold signF; rw [HQ5.out, if_neg Bool.false_ne_true]
            have CM := z_isZ 45 45 rfl S p w5 (s3.drop 1) deep most b3 HS.out (by have := H5.out.1; rwa [(isF_no HQ5.out).1] at this)
            have HH := Lib.hid hh
            clear hh C5
            go_wp2_with (go_at_call 132; refine CM.mono ?_; rintro e w6 ⟨rfl, hz6, hg6⟩; have H6 := Lib.hid (And.intro hz6 hg6); clear hz6 hg6)
            go_meet
            rw [HH.out]
            exact ⟨H6.out.1, H5.out.2.trans H6.out.2⟩
        case rest =>
          have H6 := Lib.hid hcut
          clear hcut
          obtain ⟨w6, hw6⟩ : ∃ w6 : World, w6 = wc := ⟨_, rfl⟩
          subst hw6
          have CD := z_digits S p w6 (signF (s3.drop 1)) deep most b3 HS.out H6.out.1
          clear C5
          go_upto_region 13 with (go_at_call 135; refine CD.mono ?_; rintro e wz ⟨rfl, hz7, hg7⟩; have H7 := Lib.hid (And.intro hz7 hg7); clear hz7 hg7)
          have hzz : ZT S p deep most w X wz := by
            rw [← HX5.out, expF_yes (x := (s3, b3)) HQ3.out]
            exact ⟨H7.out.1, H1.out.2.trans (H2.out.2.trans (H3.out.2.trans (H4.out.2.trans (H6.out.2.trans H7.out.2))))⟩
          have HZZ := Lib.hid hzz
          clear hzz CD
          obtain ⟨aa5, c5, i5, ⟨k0, k1⟩, hi5, hd5, hrow5⟩ := HZZ.out.1.place
          obtain ⟨T, hT⟩ := HTL.out
          have hTl := congrArg List.length hT
          rw [List.length_append] at hTl
          obtain ⟨hi, hd⟩ := HD.out
          have hts : (S.drop i).take T.length = T := by rw [hd, hT, List.take_left]
          obtain rfl : i5 = i + T.length := by omega
          have HCV := Lib.hid (fun W (hW : Below wz.heap.size wz W) (a' : Option Addr) (c' : Nat) (hc' : S.length - i ≤ c' ∧ c' ≤ c5) (ha : ∀ b off, aa5 = some ⟨b, off, none⟩ → i < S.length → a' = some ⟨b, off + i, none⟩) => hts ▸ conv_part (argRow_below hrow5 hW) i T.length (by omega) a' c' hc' ha)
          obtain ⟨-, _, _, e5, hcl, hcm, hsp⟩ := hrow5
          cases e5
          have hn1 : i + T.length ≤ S.length := by omega
          have HTT := Lib.hid hT
          have hsp2 : 0 < S.length → ∃ b off, aa5 = some ⟨b, off, none⟩ := fun h => by
            obtain ⟨b, off, e, -⟩ := hsp h
            exact ⟨b, off, e⟩
          have HSP := Lib.hid hsp2
          unfold maxLen at hcm
          obtain ⟨K, hK⟩ : ∃ K, T.length = K := ⟨_, rfl⟩
          obtain ⟨n, hn⟩ : ∃ n, S.length = n := ⟨_, rfl⟩
          rw [hK] at k1 HCV hn1
          rw [hn] at k0 HCV hcl hn1 HSP
          have hnS : n ≤ 1099511627776 := by have := HS.out; omega
          have hK2 := hK
          clear hK hn hTl hi hd hi5 hd5 hT hts hsp hsp2
          have i0 : (0 : Int) ≤ (i : Int) := by omega
          have i1 : (i : Int) ≤ (i : Int) + (K : Int) := by omega
          have i2 : (i : Int) + (K : Int) ≤ (c5 : Int) := by omega
          by_cases hK0 : K = 0
          · subst hK0
            obtain rfl : T = [] := List.eq_nil_of_length_eq_zero hK2
            have hnil : ∀ (a : Option Addr) (c : Nat) (q : Nat), (convert 22 9 (.slice a 0 c)).run Tryz.prog (wz.drewN q) = .ok (.string ⟨#[]⟩) (wz.drewN q) := fun a c q => conv_nil Tryz.underlying22 Tryz.underlying5 Tryz.underlying9
            clear hK2 HCV
            by_cases hn0 : 0 < n
            · obtain ⟨b, off, rfl⟩ := HSP.out hn0
              by_cases hc5 : i = c5
              · subst hc5
                go_quiet (fail)
                go_wp2
                go_ret
                exact ⟨[], rfl, HTT.out, HZZ.out.1.keptB (below_drewN (Below.refl _ _) _), HZZ.out.2.trans (grown_of_below (below_drewN (Below.refl _ _) _) _)⟩
              · have i3 : i < c5 := by omega
                go_quiet (fail)
                go_wp2
                go_ret
                exact ⟨[], rfl, HTT.out, HZZ.out.1.keptB (below_drewN (Below.refl _ _) _), HZZ.out.2.trans (grown_of_below (below_drewN (Below.refl _ _) _) _)⟩
            · obtain rfl : n = 0 := by omega
              obtain rfl : i = 0 := by omega
              rcases aa5 with _ | a5
              · go_quiet (fail)
                go_wp2
                go_ret
                exact ⟨[], rfl, HTT.out, HZZ.out.1.keptB (below_drewN (Below.refl _ _) _), HZZ.out.2.trans (grown_of_below (below_drewN (Below.refl _ _) _) _)⟩
              · by_cases hc5 : c5 = 0
                · subst hc5
                  go_quiet (fail)
                  go_wp2
                  go_ret
                  exact ⟨[], rfl, HTT.out, HZZ.out.1.keptB (below_drewN (Below.refl _ _) _), HZZ.out.2.trans (grown_of_below (below_drewN (Below.refl _ _) _) _)⟩
                · have i3 : 0 < c5 := by omega
                  go_quiet (fail)
                  go_wp2
                  go_ret
                  exact ⟨[], rfl, HTT.out, HZZ.out.1.keptB (below_drewN (Below.refl _ _) _), HZZ.out.2.trans (grown_of_below (below_drewN (Below.refl _ _) _) _)⟩
          · obtain ⟨b, off, rfl⟩ := HSP.out (by omega)
            have i3 : i < c5 := by omega
            have hcvs := fun q : Nat => HCV.out (wz.drewN q) (below_drewN (Below.refl _ _) q) (some ⟨b, off + i, none⟩) (c5 - i) (by omega) (fun b' off' e _ => by cases e; rfl)
            clear hK2
            go_quiet (fail)
            go_wp2
            go_ret
            exact ⟨T, rfl, HTT.out, HZZ.out.1.keptB (below_drewN (Below.refl _ _) _), HZZ.out.2.trans (grown_of_below (below_drewN (Below.refl _ _) _) _)⟩
      | false =>
        rw [hq3] at C4
        have HI3 := Lib.hid (isF_no hq3).1
        cases hq4 : hasB 69 s3 with
        | true =>
          have HQ3 := Lib.hid (show (hasB 101 s3 || hasB 69 s3) = true by rw [hq4, Bool.or_true])
          have C4b := Lib.hid (fun W (hW : ZS S W p s3 deep most b3) => z_isZ 69 69 rfl S p W s3 deep most b3 HS.out hW)
          rw [hq4] at C4b
          have HI4 := Lib.hid (isF_yes hq4).2
          clear hq3 hq4
          go_upto_region 10 with (first | (go_at_call 132; refine C4.mono ?_; rintro e w8 ⟨rfl, hz8, hg8⟩; rw [HI3.out] at hz8; have C4c := C4b.out w8 hz8; clear C4; have H8 := Lib.hid hg8; clear hz8 hg8) | (go_at_call 132; refine C4c.mono ?_; rintro e w4 ⟨rfl, hz4, hg4⟩; rw [HI4.out] at hz4; have H4 := Lib.hid (And.intro hz4 (H8.out.trans hg4)); clear hz4 hg4))
          clear C4c C4b
          obtain ⟨q5, hq5⟩ : ∃ q, hasB 43 (s3.drop 1) = q := ⟨_, rfl⟩
          have C5 := z_isZ 43 43 rfl S p w4 (s3.drop 1) deep most b3 HS.out H4.out.1
          rw [hq5] at C5
          have HQ5 := Lib.hid hq5
          clear hq5
          go_upto_if 38 with (go_at_call 132; refine C5.mono ?_; rintro e w5 ⟨rfl, hz5, hg5⟩; have H5 := Lib.hid (And.intro hz5 hg5); clear hz5 hg5)
          go_cut [] from 38 to 40 (fun wx => ZS S wx p (signF (s3.drop 1)) deep most b3 ∧ w4.grownBy wx (some p))
          case first =>
            cases q5 with
            | true =>
              have hh : signF (s3.drop 1) = isF 43 (s3.drop 1) := by unfold signF; rw [if_pos HQ5.out, (isF_yes HQ5.out).2]
              have HH := Lib.hid hh
              clear hh
              go_wp2
              go_meet
              rw [HH.out]
              exact H5.out
            | false =>
              have hh : signF (s3.drop 1) = isF 45 (s3.drop 1) := by unfold signF; rw [HQ5.out, if_neg Bool.false_ne_true]
              have CM := z_isZ 45 45 rfl S p w5 (s3.drop 1) deep most b3 HS.out (by have := H5.out.1; rwa [(isF_no HQ5.out).1] at this)
              have HH := Lib.hid hh
              clear hh C5
              go_wp2_with (go_at_call 132; refine CM.mono ?_; rintro e w6 ⟨rfl, hz6, hg6⟩; have H6 := Lib.hid (And.intro hz6 hg6); clear hz6 hg6)
              go_meet
              rw [HH.out]
              exact ⟨H6.out.1, H5.out.2.trans H6.out.2⟩
          case rest =>
            have H6 := Lib.hid hcut
            clear hcut
            obtain ⟨w6, hw6⟩ : ∃ w6 : World, w6 = wc := ⟨_, rfl⟩
            subst hw6
            have CD := z_digits S p w6 (signF (s3.drop 1)) deep most b3 HS.out H6.out.1
            clear C5
            go_upto_region 13 with (go_at_call 135; refine CD.mono ?_; rintro e wz ⟨rfl, hz7, hg7⟩; have H7 := Lib.hid (And.intro hz7 hg7); clear hz7 hg7)
            have hzz : ZT S p deep most w X wz := by
              rw [← HX5.out, expF_yes (x := (s3, b3)) HQ3.out]
              exact ⟨H7.out.1, H1.out.2.trans (H2.out.2.trans (H3.out.2.trans (H4.out.2.trans (H6.out.2.trans H7.out.2))))⟩
            have HZZ := Lib.hid hzz
            clear hzz CD
            obtain ⟨aa5, c5, i5, ⟨k0, k1⟩, hi5, hd5, hrow5⟩ := HZZ.out.1.place
            obtain ⟨T, hT⟩ := HTL.out
            have hTl := congrArg List.length hT
            rw [List.length_append] at hTl
            obtain ⟨hi, hd⟩ := HD.out
            have hts : (S.drop i).take T.length = T := by rw [hd, hT, List.take_left]
            obtain rfl : i5 = i + T.length := by omega
            have HCV := Lib.hid (fun W (hW : Below wz.heap.size wz W) (a' : Option Addr) (c' : Nat) (hc' : S.length - i ≤ c' ∧ c' ≤ c5) (ha : ∀ b off, aa5 = some ⟨b, off, none⟩ → i < S.length → a' = some ⟨b, off + i, none⟩) => hts ▸ conv_part (argRow_below hrow5 hW) i T.length (by omega) a' c' hc' ha)
            obtain ⟨-, _, _, e5, hcl, hcm, hsp⟩ := hrow5
            cases e5
            have hn1 : i + T.length ≤ S.length := by omega
            have HTT := Lib.hid hT
            have hsp2 : 0 < S.length → ∃ b off, aa5 = some ⟨b, off, none⟩ := fun h => by
              obtain ⟨b, off, e, -⟩ := hsp h
              exact ⟨b, off, e⟩
            have HSP := Lib.hid hsp2
            unfold maxLen at hcm
            obtain ⟨K, hK⟩ : ∃ K, T.length = K := ⟨_, rfl⟩
            obtain ⟨n, hn⟩ : ∃ n, S.length = n := ⟨_, rfl⟩
            rw [hK] at k1 HCV hn1
            rw [hn] at k0 HCV hcl hn1 HSP
            have hnS : n ≤ 1099511627776 := by have := HS.out; omega
            have hK2 := hK
            clear hK hn hTl hi hd hi5 hd5 hT hts hsp hsp2
            have i0 : (0 : Int) ≤ (i : Int) := by omega
            have i1 : (i : Int) ≤ (i : Int) + (K : Int) := by omega
            have i2 : (i : Int) + (K : Int) ≤ (c5 : Int) := by omega
            by_cases hK0 : K = 0
            · subst hK0
              obtain rfl : T = [] := List.eq_nil_of_length_eq_zero hK2
              have hnil : ∀ (a : Option Addr) (c : Nat) (q : Nat), (convert 22 9 (.slice a 0 c)).run Tryz.prog (wz.drewN q) = .ok (.string ⟨#[]⟩) (wz.drewN q) := fun a c q => conv_nil Tryz.underlying22 Tryz.underlying5 Tryz.underlying9
              clear hK2 HCV
              by_cases hn0 : 0 < n
              · obtain ⟨b, off, rfl⟩ := HSP.out hn0
                by_cases hc5 : i = c5
                · subst hc5
                  go_quiet (fail)
                  go_wp2
                  go_ret
                  exact ⟨[], rfl, HTT.out, HZZ.out.1.keptB (below_drewN (Below.refl _ _) _), HZZ.out.2.trans (grown_of_below (below_drewN (Below.refl _ _) _) _)⟩
                · have i3 : i < c5 := by omega
                  go_quiet (fail)
                  go_wp2
                  go_ret
                  exact ⟨[], rfl, HTT.out, HZZ.out.1.keptB (below_drewN (Below.refl _ _) _), HZZ.out.2.trans (grown_of_below (below_drewN (Below.refl _ _) _) _)⟩
              · obtain rfl : n = 0 := by omega
                obtain rfl : i = 0 := by omega
                rcases aa5 with _ | a5
                · go_quiet (fail)
                  go_wp2
                  go_ret
                  exact ⟨[], rfl, HTT.out, HZZ.out.1.keptB (below_drewN (Below.refl _ _) _), HZZ.out.2.trans (grown_of_below (below_drewN (Below.refl _ _) _) _)⟩
                · by_cases hc5 : c5 = 0
                  · subst hc5
                    go_quiet (fail)
                    go_wp2
                    go_ret
                    exact ⟨[], rfl, HTT.out, HZZ.out.1.keptB (below_drewN (Below.refl _ _) _), HZZ.out.2.trans (grown_of_below (below_drewN (Below.refl _ _) _) _)⟩
                  · have i3 : 0 < c5 := by omega
                    go_quiet (fail)
                    go_wp2
                    go_ret
                    exact ⟨[], rfl, HTT.out, HZZ.out.1.keptB (below_drewN (Below.refl _ _) _), HZZ.out.2.trans (grown_of_below (below_drewN (Below.refl _ _) _) _)⟩
            · obtain ⟨b, off, rfl⟩ := HSP.out (by omega)
              have i3 : i < c5 := by omega
              have hcvs := fun q : Nat => HCV.out (wz.drewN q) (below_drewN (Below.refl _ _) q) (some ⟨b, off + i, none⟩) (c5 - i) (by omega) (fun b' off' e _ => by cases e; rfl)
              clear hK2
              go_quiet (fail)
              go_wp2
              go_ret
              exact ⟨T, rfl, HTT.out, HZZ.out.1.keptB (below_drewN (Below.refl _ _) _), HZZ.out.2.trans (grown_of_below (below_drewN (Below.refl _ _) _) _)⟩
        | false =>
          have HQ3 := Lib.hid (show (hasB 101 s3 || hasB 69 s3) = false by rw [hq3, hq4]; rfl)
          have C4b := Lib.hid (fun W (hW : ZS S W p s3 deep most b3) => z_isZ 69 69 rfl S p W s3 deep most b3 HS.out hW)
          rw [hq4] at C4b
          have HI4 := Lib.hid (isF_no hq4).1
          clear hq3 hq4
          go_upto_region 13 with (first | (go_at_call 132; refine C4.mono ?_; rintro e w8 ⟨rfl, hz8, hg8⟩; rw [HI3.out] at hz8; have C4c := C4b.out w8 hz8; clear C4; have H8 := Lib.hid hg8; clear hz8 hg8) | (go_at_call 132; refine C4c.mono ?_; rintro e wz ⟨rfl, hz4, hg4⟩; rw [HI4.out] at hz4; have H4 := Lib.hid (And.intro hz4 (H8.out.trans hg4)); clear hz4 hg4))
          have hzz : ZT S p deep most w X wz := by
            rw [← HX5.out, expF_no (x := (s3, b3)) HQ3.out]
            exact ⟨H4.out.1, H1.out.2.trans (H2.out.2.trans (H3.out.2.trans H4.out.2))⟩
          have HZZ := Lib.hid hzz
          clear hzz C4c C4b
          obtain ⟨aa5, c5, i5, ⟨k0, k1⟩, hi5, hd5, hrow5⟩ := HZZ.out.1.place
          obtain ⟨T, hT⟩ := HTL.out
          have hTl := congrArg List.length hT
          rw [List.length_append] at hTl
          obtain ⟨hi, hd⟩ := HD.out
          have hts : (S.drop i).take T.length = T := by rw [hd, hT, List.take_left]
          obtain rfl : i5 = i + T.length := by omega
          have HCV := Lib.hid (fun W (hW : Below wz.heap.size wz W) (a' : Option Addr) (c' : Nat) (hc' : S.length - i ≤ c' ∧ c' ≤ c5) (ha : ∀ b off, aa5 = some ⟨b, off, none⟩ → i < S.length → a' = some ⟨b, off + i, none⟩) => hts ▸ conv_part (argRow_below hrow5 hW) i T.length (by omega) a' c' hc' ha)
          obtain ⟨-, _, _, e5, hcl, hcm, hsp⟩ := hrow5
          cases e5
          have hn1 : i + T.length ≤ S.length := by omega
          have HTT := Lib.hid hT
          have hsp2 : 0 < S.length → ∃ b off, aa5 = some ⟨b, off, none⟩ := fun h => by
            obtain ⟨b, off, e, -⟩ := hsp h
            exact ⟨b, off, e⟩
          have HSP := Lib.hid hsp2
          unfold maxLen at hcm
          obtain ⟨K, hK⟩ : ∃ K, T.length = K := ⟨_, rfl⟩
          obtain ⟨n, hn⟩ : ∃ n, S.length = n := ⟨_, rfl⟩
          rw [hK] at k1 HCV hn1
          rw [hn] at k0 HCV hcl hn1 HSP
          have hnS : n ≤ 1099511627776 := by have := HS.out; omega
          have hK2 := hK
          clear hK hn hTl hi hd hi5 hd5 hT hts hsp hsp2
          have i0 : (0 : Int) ≤ (i : Int) := by omega
          have i1 : (i : Int) ≤ (i : Int) + (K : Int) := by omega
          have i2 : (i : Int) + (K : Int) ≤ (c5 : Int) := by omega
          by_cases hK0 : K = 0
          · subst hK0
            obtain rfl : T = [] := List.eq_nil_of_length_eq_zero hK2
            have hnil : ∀ (a : Option Addr) (c : Nat) (q : Nat), (convert 22 9 (.slice a 0 c)).run Tryz.prog (wz.drewN q) = .ok (.string ⟨#[]⟩) (wz.drewN q) := fun a c q => conv_nil Tryz.underlying22 Tryz.underlying5 Tryz.underlying9
            clear hK2 HCV
            by_cases hn0 : 0 < n
            · obtain ⟨b, off, rfl⟩ := HSP.out hn0
              by_cases hc5 : i = c5
              · subst hc5
                go_quiet (fail)
                go_wp2
                go_ret
                exact ⟨[], rfl, HTT.out, HZZ.out.1.keptB (below_drewN (Below.refl _ _) _), HZZ.out.2.trans (grown_of_below (below_drewN (Below.refl _ _) _) _)⟩
              · have i3 : i < c5 := by omega
                go_quiet (fail)
                go_wp2
                go_ret
                exact ⟨[], rfl, HTT.out, HZZ.out.1.keptB (below_drewN (Below.refl _ _) _), HZZ.out.2.trans (grown_of_below (below_drewN (Below.refl _ _) _) _)⟩
            · obtain rfl : n = 0 := by omega
              obtain rfl : i = 0 := by omega
              rcases aa5 with _ | a5
              · go_quiet (fail)
                go_wp2
                go_ret
                exact ⟨[], rfl, HTT.out, HZZ.out.1.keptB (below_drewN (Below.refl _ _) _), HZZ.out.2.trans (grown_of_below (below_drewN (Below.refl _ _) _) _)⟩
              · by_cases hc5 : c5 = 0
                · subst hc5
                  go_quiet (fail)
                  go_wp2
                  go_ret
                  exact ⟨[], rfl, HTT.out, HZZ.out.1.keptB (below_drewN (Below.refl _ _) _), HZZ.out.2.trans (grown_of_below (below_drewN (Below.refl _ _) _) _)⟩
                · have i3 : 0 < c5 := by omega
                  go_quiet (fail)
                  go_wp2
                  go_ret
                  exact ⟨[], rfl, HTT.out, HZZ.out.1.keptB (below_drewN (Below.refl _ _) _), HZZ.out.2.trans (grown_of_below (below_drewN (Below.refl _ _) _) _)⟩
          · obtain ⟨b, off, rfl⟩ := HSP.out (by omega)
            have i3 : i < c5 := by omega
            have hcvs := fun q : Nat => HCV.out (wz.drewN q) (below_drewN (Below.refl _ _) q) (some ⟨b, off + i, none⟩) (c5 - i) (by omega) (fun b' off' e _ => by cases e; rfl)
            clear hK2
            go_quiet (fail)
            go_wp2
            go_ret
            exact ⟨T, rfl, HTT.out, HZZ.out.1.keptB (below_drewN (Below.refl _ _) _), HZZ.out.2.trans (grown_of_below (below_drewN (Below.refl _ _) _) _)⟩
end Go.Proofs.YtljnbbdhmlfhjaaGreatDoor
/-
  The document's Quote.
-/
namespace Go.Proofs.YtljnbbdhmlfhjaaGreatDoor
open Go.RowKit
theorem escS_app (a b : Bs) : escS (a ++ b) = escS a ++ escS b := by simp [escS]
theorem ext_one (s : ByteArray) (k : Nat) (h : k < s.size) : (s.extract k (k + 1)).data.toList = [s[k]] := by
  have h1 : (s.extract k (k + 1)).data = s.data.extract k (k + 1) := by simp [ByteArray.data_extract]
  rw [h1, Array.toList_extract]
  have h2 := drop_byteJ s k h
  rw [List.extract_eq_take_drop, h2, Nat.add_sub_cancel_left]
  rfl
structure QSt (s o : ByteArray) (k : Nat) : Prop where
  out : o.data.toList = 34 :: escS (s.data.toList.take k)
  len : o.size ≤ 6 * k + 1
theorem take_oneJ (s : ByteArray) (k : Nat) (hk : k < s.size) : s.data.toList.take (k + 1) = s.data.toList.take k ++ [s[k]] := by
  have hl : k < s.data.toList.length := by simpa [ByteArray.size_data] using hk
  rw [List.take_succ_eq_append_getElem hl]
  rfl
theorem QSt.step {s o x : ByteArray} {k : Nat} {c : UInt8} (h : QSt s o k) (e : s.data.toList.take (k + 1) = s.data.toList.take k ++ [c]) (hx : x.data.toList = escB c) : QSt s (o ++ x) (k + 1) := by
  have hxl : x.size ≤ 6 := by
    have : x.size = x.data.toList.length := by simp [ByteArray.size_data]
    rw [this, hx]
    exact escB_len _
  refine ⟨?_, ?_⟩
  · rw [e, escS_app, ByteArray.data_append, Array.toList_append, h.out, hx]
    simp [escS]
  · rw [ByteArray.size_append]
    have := h.len
    omega
theorem QSt.step2 {s o x y : ByteArray} {k : Nat} {c : UInt8} (h : QSt s o k) (e : s.data.toList.take (k + 1) = s.data.toList.take k ++ [c]) (hx : (x ++ y).data.toList = escB c) : QSt s (o ++ x ++ y) (k + 1) := by
  rw [ByteArray.append_assoc]
  exact h.step e hx
theorem QSt.step3 {s o x y z : ByteArray} {k : Nat} {c : UInt8} (h : QSt s o k) (e : s.data.toList.take (k + 1) = s.data.toList.take k ++ [c]) (hx : (x ++ (y ++ z)).data.toList = escB c) : QSt s (o ++ x ++ y ++ z) (k + 1) := by
  rw [ByteArray.append_assoc, ByteArray.append_assoc]
  exact h.step e hx
set_option maxRecDepth 100000 in
set_option maxHeartbeats 20000000 in
theorem ref_Quote (s : ByteArray) (w : World) (hs : s.size ≤ 1099511627776) : Calls Tryz.prog 38 #[.string s] w fun e w' => e = .returned (.string ⟨(quote s.data.toList).toArray⟩) ∧ Below w.heap.size w w' := by
  have HS := Lib.hid hs
  go_enter Tryz.func38, Tryz.ntmps38
  go_wp2
  go_loopw [3, 4] (fun ov iv wr => ∃ (k : Nat) (o : ByteArray) (q : Nat), iv = .int .i64 k ∧ k ≤ s.size ∧ ov = .string o ∧ QSt s o k ∧ wr = w.drewN q) (fun _ iv _ => s.size - (intOf iv).toNat)
  case atStart => exact ⟨0, ⟨#[34]⟩, 0, rfl, by omega, rfl, ⟨by simp [escS], by decide⟩, rfl⟩
  case round =>
    obtain ⟨k, o, q, rfl, hk, rfl, hq, rfl⟩ := hrel
    have HQ := Lib.hid hq
    have hol := hq.len
    clear hq
    by_cases hks : k < s.size
    · have hd : decide ((k : Int) < (s.size : Int)) = true := decide_eq_true (by omega)
      have hx1 := ext_one s k hks
      have he1 : (s.extract k (k + 1)).size ≤ 1 := by
        have : (s.extract k (k + 1)).size = (s.extract k (k + 1)).data.toList.length := by simp only [ByteArray.size_data, Array.length_toList]
        rw [this, hx1]; exact Nat.le_refl _
      have htk := take_oneJ s k hks
      go_upto_region 7 with fail
      generalize s[k] = c at *
      have hb : (c.toNat : Int) < 256 := by have := c.toNat_lt; omega
      have hb0 : (0 : Int) ≤ (c.toNat : Int) := by omega
      have HX1 := Lib.hid hx1
      have HTK := Lib.hid htk
      clear hx1 htk
      have hcx : ∀ d : UInt8, (c.toNat : Int) = (d.toNat : Int) → c = d := fun d e => UInt8.toNat_inj.1 (by omega)
      by_cases h34 : c = 34
      · subst h34
        have HE := Lib.hid (show (⟨#[92]⟩ ++ s.extract k (k + 1) : ByteArray).data.toList = escB 34 by rw [ByteArray.data_append, Array.toList_append, HX1.out]; rfl)
        go_wp2
        go_roundw
        case rel => exact ⟨k + 1, _, _, by go_num, by omega, rfl, HQ.out.step2 HTK.out HE.out, rfl⟩
        case measure => simp [intOf]; omega
      by_cases h92 : c = 92
      · subst h92
        have HE := Lib.hid (show (⟨#[92]⟩ ++ s.extract k (k + 1) : ByteArray).data.toList = escB 92 by rw [ByteArray.data_append, Array.toList_append, HX1.out]; rfl)
        go_wp2
        go_roundw
        case rel => exact ⟨k + 1, _, _, by go_num, by omega, rfl, HQ.out.step2 HTK.out HE.out, rfl⟩
        case measure => simp [intOf]; omega
      by_cases h8 : c = 8
      · subst h8
        have HE := Lib.hid (show (⟨#[92, 98]⟩ : ByteArray).data.toList = escB 8 from rfl)
        go_wp2
        go_roundw
        case rel => exact ⟨k + 1, _, _, by go_num, by omega, rfl, HQ.out.step HTK.out HE.out, rfl⟩
        case measure => simp [intOf]; omega
      by_cases h12 : c = 12
      · subst h12
        have HE := Lib.hid (show (⟨#[92, 102]⟩ : ByteArray).data.toList = escB 12 from rfl)
        go_wp2
        go_roundw
        case rel => exact ⟨k + 1, _, _, by go_num, by omega, rfl, HQ.out.step HTK.out HE.out, rfl⟩
        case measure => simp [intOf]; omega
      by_cases h10 : c = 10
      · subst h10
        have HE := Lib.hid (show (⟨#[92, 110]⟩ : ByteArray).data.toList = escB 10 from rfl)
        go_wp2
        go_roundw
        case rel => exact ⟨k + 1, _, _, by go_num, by omega, rfl, HQ.out.step HTK.out HE.out, rfl⟩
        case measure => simp [intOf]; omega
      by_cases h13 : c = 13
      · subst h13
        have HE := Lib.hid (show (⟨#[92, 114]⟩ : ByteArray).data.toList = escB 13 from rfl)
        go_wp2
        go_roundw
        case rel => exact ⟨k + 1, _, _, by go_num, by omega, rfl, HQ.out.step HTK.out HE.out, rfl⟩
        case measure => simp [intOf]; omega
      by_cases h9 : c = 9
      · subst h9
        have HE := Lib.hid (show (⟨#[92, 116]⟩ : ByteArray).data.toList = escB 9 from rfl)
        go_wp2
        go_roundw
        case rel => exact ⟨k + 1, _, _, by go_num, by omega, rfl, HQ.out.step HTK.out HE.out, rfl⟩
        case measure => simp [intOf]; omega
      have ne : ∀ d : UInt8, c ≠ d → ((c.toNat : Int) == (d.toNat : Int)) = false := fun d h => by
        rw [beq_eq_false_iff_ne]
        exact fun e => h (hcx d e)
      have n34 : ((c.toNat : Int) == 34) = false := ne 34 h34
      have n92 : ((c.toNat : Int) == 92) = false := ne 92 h92
      have n8 : ((c.toNat : Int) == 8) = false := ne 8 h8
      have n12 : ((c.toNat : Int) == 12) = false := ne 12 h12
      have n10 : ((c.toNat : Int) == 10) = false := ne 10 h10
      have n13 : ((c.toNat : Int) == 13) = false := ne 13 h13
      have n9 : ((c.toNat : Int) == 9) = false := ne 9 h9
      by_cases h32 : c.toNat < 32
      · have hv : c.toNat = 0 ∨ c.toNat = 1 ∨ c.toNat = 2 ∨ c.toNat = 3 ∨ c.toNat = 4 ∨ c.toNat = 5 ∨ c.toNat = 6 ∨ c.toNat = 7 ∨ c.toNat = 11 ∨ c.toNat = 14 ∨ c.toNat = 15 ∨ c.toNat = 16 ∨ c.toNat = 17 ∨ c.toNat = 18 ∨ c.toNat = 19 ∨ c.toNat = 20 ∨ c.toNat = 21 ∨ c.toNat = 22 ∨ c.toNat = 23 ∨ c.toNat = 24 ∨ c.toNat = 25 ∨ c.toNat = 26 ∨ c.toNat = 27 ∨ c.toNat = 28 ∨ c.toNat = 29 ∨ c.toNat = 30 ∨ c.toNat = 31 := by
          have e8 : c.toNat ≠ 8 := fun e => h8 (UInt8.toNat_inj.1 e)
          have e9 : c.toNat ≠ 9 := fun e => h9 (UInt8.toNat_inj.1 e)
          have e10 : c.toNat ≠ 10 := fun e => h10 (UInt8.toNat_inj.1 e)
          have e12 : c.toNat ≠ 12 := fun e => h12 (UInt8.toNat_inj.1 e)
          have e13 : c.toNat ≠ 13 := fun e => h13 (UInt8.toNat_inj.1 e)
          omega
        clear ne hcx h34 h92 h8 h12 h10 h13 h9 h32 n34 n92 n8 n12 n10 n13 n9 he1 HX1
        rcases hv with hc | hc | hc | hc | hc | hc | hc | hc | hc | hc | hc | hc | hc | hc | hc | hc | hc | hc | hc | hc | hc | hc | hc | hc | hc | hc | hc
        all_goals
          rw [hc]
          have HCC := Lib.hid (show c = UInt8.ofNat c.toNat by simp)
          rw [hc] at HCC
          clear hb hb0 hc
          go_upto_region 21 with fail
          go_quiet (fail)
          go_wp2
          go_roundw
          case rel => exact ⟨k + 1, _, _, by go_num, by omega, rfl, HQ.out.step3 HTK.out (by rw [HCC.out]; rfl), rfl⟩
          case measure => simp [intOf]; omega
      · have HE := Lib.hid (show (s.extract k (k + 1) : ByteArray).data.toList = escB c by
          rw [HX1.out, esc_plain (by rintro (e | e); exact h34 e; exact h92 e) h32])
        have d32 : decide ((c.toNat : Int) < 32) = false := decide_eq_false (by omega)
        clear ne h34 h92 h8 h12 h10 h13 h9 hcx h32
        generalize (c.toNat : Int) = x at *
        go_wp2
        go_roundw
        case rel => exact ⟨k + 1, _, _, by go_num, by omega, rfl, HQ.out.step HTK.out HE.out, rfl⟩
        case measure => simp [intOf]; omega
    · have hd : decide (k < s.size) = false := decide_eq_false hks
      have HF := Lib.hid (show (o ++ ⟨#[34]⟩ : ByteArray) = ⟨(quote s.data.toList).toArray⟩ by
        apply ByteArray.ext
        apply Array.toList_inj.1
        rw [ByteArray.data_append, Array.toList_append, HQ.out.out, List.take_of_length_le (by simp only [ByteArray.size_data, Array.length_toList]; omega)]
        simp [quote])
      go_wp2
      go_ret
      exact ⟨by rw [HF.out]; rfl, below_drewN (Below.refl _ _) _⟩
end Go.Proofs.YtljnbbdhmlfhjaaGreatDoor
/-
  The document's JSON reader: four.
-/
namespace Go.Proofs.YtljnbbdhmlfhjaaGreatDoor
open Go.RowKit
theorem hex_cases (c : UInt8) : (48 ≤ c.toNat ∧ c.toNat ≤ 57 ∧ hexV' c = some (c.toNat - 48)) ∨ (¬ (48 ≤ c.toNat ∧ c.toNat ≤ 57) ∧ 97 ≤ c.toNat ∧ c.toNat ≤ 102 ∧ hexV' c = some (c.toNat - 87)) ∨
    (¬ (48 ≤ c.toNat ∧ c.toNat ≤ 57) ∧ ¬ (97 ≤ c.toNat ∧ c.toNat ≤ 102) ∧ 65 ≤ c.toNat ∧ c.toNat ≤ 70 ∧ hexV' c = some (c.toNat - 55)) ∨
    (¬ (48 ≤ c.toNat ∧ c.toNat ≤ 57) ∧ ¬ (97 ≤ c.toNat ∧ c.toNat ≤ 102) ∧ ¬ (65 ≤ c.toNat ∧ c.toNat ≤ 70) ∧ hexV' c = none) := by
  unfold hexV'
  by_cases h1 : 48 ≤ c.toNat ∧ c.toNat ≤ 57
  · rw [if_pos h1]; exact .inl ⟨h1.1, h1.2, rfl⟩
  · rw [if_neg h1]
    by_cases h2 : 97 ≤ c.toNat ∧ c.toNat ≤ 102
    · rw [if_pos h2]; exact .inr (.inl ⟨h1, h2.1, h2.2, rfl⟩)
    · rw [if_neg h2]
      by_cases h3 : 65 ≤ c.toNat ∧ c.toNat ≤ 70
      · rw [if_pos h3]; exact .inr (.inr (.inl ⟨h1, h2, h3.1, h3.2, rfl⟩))
      · rw [if_neg h3]; exact .inr (.inr (.inr ⟨h1, h2, h3, rfl⟩))
/-- The four digits under way. -/
structure FSt (S : Bs) (p : Nat) (w wr : World) (deep most : Nat) (X : Nat × Bs × Bool) (k n : Nat) : Prop where
  st : ∃ s bad, ZS S wr p s deep most bad ∧ fourG (4 - k) n s bad = X
  lt : n < 16 ^ k
  gr : w.grownBy wr (some p)
theorem pow_le (k : Nat) (h : k < 4) : (16 : Nat) ^ k ≤ 4096 := by
  rcases (by omega : k = 0 ∨ k = 1 ∨ k = 2 ∨ k = 3) with rfl | rfl | rfl | rfl <;> decide
set_option maxRecDepth 100000 in
set_option maxHeartbeats 20000000 in
theorem z_four (S : Bs) (p : Nat) (w : World) (s : Bs) (deep most : Nat) (bad : Bool) (hS : S.length ≤ 1099511627776) (h : ZS S w p s deep most bad) :
    Calls Tryz.prog 133 #[.pointer (some ⟨p, 0, none⟩)] w fun e w' => e = .returned (.int .i64 ((fourF s bad).1 : Int)) ∧ ZS S w' p (fourF s bad).2.1 deep most (fourF s bad).2.2 ∧ w.grownBy w' (some p) := by
  have HS := Lib.hid hS
  obtain ⟨X, hX⟩ : ∃ X, fourF s bad = X := ⟨_, rfl⟩
  rw [hX]
  have HX := Lib.hid (show fourG 4 0 (isF 117 s) (bad || !hasB 117 s) = X from hX)
  have CI := z_isZ 117 117 rfl S p w s deep most bad hS h
  clear hX h hS
  go_enter Tryz.func133, Tryz.ntmps133
  obtain ⟨q, hq⟩ : ∃ q, hasB 117 s = q := ⟨_, rfl⟩
  rw [hq] at CI HX
  clear hq
  rcases q with _ | _
  case' false =>
    rw [Bool.not_false, Bool.or_true] at HX
    go_upto_region 5 with (go_at_call 132; refine CI.mono ?_; rintro e w1 ⟨rfl, hz1, hg1⟩; have H1 := Lib.hid (And.intro hz1 hg1); obtain ⟨⟨f0, -⟩, ff⟩ := hz1.flag; have ff4 := ff 4; clear hz1 hg1 ff)
    have hsb := H1.out.1.setBad true
    have HZ := Lib.hid (⟨⟨_, _, hsb.1, HX.out⟩, by decide, H1.out.2.trans hsb.2⟩ : FSt S p w _ deep most X 0 0)
    clear hsb f0 ff4
    obtain ⟨wx, hwx⟩ : ∃ wx, w1.setCell ⟨p, 4, none⟩ (.bool true) = wx := ⟨_, rfl⟩
    rw [hwx] at HZ ⊢
    clear hwx
  case' true =>
    rw [Bool.not_true, Bool.or_false] at HX
    go_upto_region 5 with (go_at_call 132; refine CI.mono ?_; rintro e wx ⟨rfl, hz1, hg1⟩; have HZ := Lib.hid (⟨⟨_, _, hz1, HX.out⟩, by decide, hg1⟩ : FSt S p w _ deep most X 0 0); clear hz1 hg1)
  all_goals
    clear CI HX
    go_loopw [3, 4] (fun nv iv wr => ∃ k n : Nat, iv = .int .i64 k ∧ nv = .int .i64 n ∧ k ≤ 4 ∧ FSt S p w wr deep most X k n) (fun _ iv _ => 4 - (intOf iv).toNat)
    case atStart => exact ⟨0, 0, rfl, rfl, by omega, HZ.out⟩
    case round =>
      obtain ⟨k, n, rfl, rfl, hk, hst⟩ := hrel
      obtain ⟨⟨s', b', hz, hx⟩, hlt, hg⟩ := hst
      by_cases hk4 : k < 4
      · have hd : decide ((k : Int) < 4) = true := decide_eq_true (by omega)
        have hp := pow_le k hk4
        have hn : n ≤ 4095 := by omega
        have HLT := Lib.hid (show n < 16 ^ k from hlt)
        have HG := Lib.hid hg
        have HZ1 := Lib.hid hz
        rw [show 4 - k = (4 - (k + 1)) + 1 by omega] at hx
        have CPK := z_peek S p wr s' deep most b' HS.out hz
        clear hlt hg hp
        cases s' with
        | nil =>
          rw [fourG] at hx
          have HXX := Lib.hid hx
          have e0 : (headN [] : Int) = 0 := rfl
          rw [e0] at CPK
          clear hx hz e0
          go_upto_region 8 with (go_at_call 101; refine CPK.mono ?_; rintro e w2 ⟨rfl, hb2⟩)
          obtain ⟨aa, c, ⟨c0, c1⟩, f⟩ := (HZ1.out.keptB hb2).end'
          have HB2 := Lib.hid hb2
          have hge : decide ((S.length : Int) < (S.length : Int)) = false := decide_eq_false (by omega)
          have hzf := Lib.hid (fun q => (HZ1.out.keptB (hb2.trans ((below_drewN (Below.refl w2.heap.size w2) q).mono hb2.size))))
          obtain ⟨⟨f0, -⟩, -⟩ := (HZ1.out.keptB hb2).flag
          have ff4 := f 4
          clear f hb2 CPK
          obtain ⟨N, hN⟩ : ∃ N, S.length = N := ⟨_, rfl⟩
          rw [hN] at c0 c1 hge
          clear hN
          go_quiet (fail)
          go_wp2
          go_roundw
          case rel =>
            have hsb := (hzf.out nq).setBad true
            have hl : n < 16 ^ (k + 1) := by rw [Nat.pow_succ]; have := HLT.out; omega
            exact ⟨k + 1, n, by go_num, rfl, by omega, ⟨⟨_, _, hsb.1, HXX.out⟩, hl, HG.out.trans ((grown_of_below (HB2.out.trans ((below_drewN (Below.refl w2.heap.size w2) _).mono HB2.out.size)) _).trans hsb.2)⟩⟩
          case measure => simp [intOf]; omega
        | cons c r =>
          have e0 : (headN (c :: r) : Int) = (c.toNat : Int) := rfl
          rw [e0] at CPK
          obtain ⟨x, hxc⟩ : ∃ x : Int, (c.toNat : Int) = x := ⟨_, rfl⟩
          have hx0 : (0 : Int) ≤ x := by omega
          have hx1 : x ≤ 255 := by have := c.toNat_lt; omega
          rw [hxc] at CPK
          have HXC := Lib.hid hxc
          have HX0 := Lib.hid hx
          clear hz e0 hxc hx
          go_upto_region 8 with (go_at_call 101; refine CPK.mono ?_; rintro e w2 ⟨rfl, hb2⟩)
          obtain ⟨b, off, cap, a, ⟨c0, c1, c2⟩, hal, f, hst⟩ := (HZ1.out.keptB hb2).front
          have HB2 := Lib.hid hb2
          have HST := Lib.hid hst
          have hge : decide ((a : Int) < (S.length : Int)) = true := decide_eq_true (by omega)
          have hgeN : decide (a < S.length) = true := decide_eq_true hal
          have ha : (a : Int) + 1 ≤ 1099511627777 := by have := HS.out; omega
          have f1 := f 1
          obtain ⟨⟨f0, -⟩, -⟩ := (HZ1.out.keptB hb2).flag
          have ff4 := f 4
          clear f hst hb2 CPK hal c2
          obtain ⟨N, hN⟩ : ∃ N, S.length = N := ⟨_, rfl⟩
          rw [hN] at c0 hge hgeN
          have hl := HLT.out
          have hx := HX0.out
          have hxc := HXC.out
          clear hN
          have ha2 : a ≤ 1099511627776 := by omega
          clear ha
          rcases hex_cases c with ⟨q1, q2, q3⟩ | ⟨q0, q1, q2, q3⟩ | ⟨q0, q00, q1, q2, q3⟩ | ⟨q0, q00, q000, q3⟩
          · have d48 : decide ((48 : Int) ≤ x) = true := decide_eq_true (by omega)
            have d57 : decide (x ≤ 57) = true := decide_eq_true (by omega)
            have hl2 : n * 16 + (c.toNat - 48) < 16 ^ (k + 1) := by rw [Nat.pow_succ]; omega
            have HL2 := Lib.hid hl2
            have he : (n : Int) * 16 + x - 48 = ((n * 16 + (c.toNat - 48) : Nat) : Int) := by omega
            have HE := Lib.hid he
            rw [fourG_some q3] at hx
            have HXX := Lib.hid hx
            clear hl2 he hx q1 q2 q3 hxc hl 
            go_quiet (fail)
            go_wp2
            go_roundw
            case rel =>
              have hs2 := HST.out _ _ _ (below_drewN (Below.refl w2.heap.size w2) nq) rfl rfl
              exact ⟨k + 1, n * 16 + (c.toNat - 48), by go_num, by rw [← HE.out], by omega, ⟨⟨_, _, hs2.1, HXX.out⟩, HL2.out, HG.out.trans ((grown_of_below HB2.out _).trans hs2.2)⟩⟩
            case measure => simp [intOf]; omega
          · by_cases e48 : 48 ≤ x
            · have d48 : decide ((48 : Int) ≤ x) = true := decide_eq_true e48
              have d57 : decide (x ≤ 57) = false := decide_eq_false (by omega)
              have d97 : decide ((97 : Int) ≤ x) = true := decide_eq_true (by omega)
              have d102 : decide (x ≤ 102) = true := decide_eq_true (by omega)
              have hl2 : n * 16 + (c.toNat - 87) < 16 ^ (k + 1) := by rw [Nat.pow_succ]; omega
              have HL2 := Lib.hid hl2
              have he : (n : Int) * 16 + x - 97 + 10 = ((n * 16 + (c.toNat - 87) : Nat) : Int) := by omega
              have HE := Lib.hid he
              rw [fourG_some q3] at hx
              have HXX := Lib.hid hx
              clear hl2 he hx q1 q2 q3 hxc hl q0 e48
              go_quiet (fail)
              go_wp2
              go_roundw
              case rel =>
                have hs2 := HST.out _ _ _ (below_drewN (Below.refl w2.heap.size w2) nq) rfl rfl
                exact ⟨k + 1, n * 16 + (c.toNat - 87), by go_num, by rw [← HE.out], by omega, ⟨⟨_, _, hs2.1, HXX.out⟩, HL2.out, HG.out.trans ((grown_of_below HB2.out _).trans hs2.2)⟩⟩
              case measure => simp [intOf]; omega
            · have d48 : decide ((48 : Int) ≤ x) = false := decide_eq_false e48
              have d97 : decide ((97 : Int) ≤ x) = true := decide_eq_true (by omega)
              have d102 : decide (x ≤ 102) = true := decide_eq_true (by omega)
              have hl2 : n * 16 + (c.toNat - 87) < 16 ^ (k + 1) := by rw [Nat.pow_succ]; omega
              have HL2 := Lib.hid hl2
              have he : (n : Int) * 16 + x - 97 + 10 = ((n * 16 + (c.toNat - 87) : Nat) : Int) := by omega
              have HE := Lib.hid he
              rw [fourG_some q3] at hx
              have HXX := Lib.hid hx
              clear hl2 he hx q1 q2 q3 hxc hl q0 e48
              go_quiet (fail)
              go_wp2
              go_roundw
              case rel =>
                have hs2 := HST.out _ _ _ (below_drewN (Below.refl w2.heap.size w2) nq) rfl rfl
                exact ⟨k + 1, n * 16 + (c.toNat - 87), by go_num, by rw [← HE.out], by omega, ⟨⟨_, _, hs2.1, HXX.out⟩, HL2.out, HG.out.trans ((grown_of_below HB2.out _).trans hs2.2)⟩⟩
              case measure => simp [intOf]; omega
          · by_cases e48 : 48 ≤ x
            · have d48 : decide ((48 : Int) ≤ x) = true := decide_eq_true e48
              have d57 : decide (x ≤ 57) = false := decide_eq_false (by omega)
              by_cases e97 : 97 ≤ x
              · have d97 : decide ((97 : Int) ≤ x) = true := decide_eq_true e97
                have d102 : decide (x ≤ 102) = false := decide_eq_false (by omega)
                have d65 : decide ((65 : Int) ≤ x) = true := decide_eq_true (by omega)
                have d70 : decide (x ≤ 70) = true := decide_eq_true (by omega)
                have hl2 : n * 16 + (c.toNat - 55) < 16 ^ (k + 1) := by rw [Nat.pow_succ]; omega
                have HL2 := Lib.hid hl2
                have he : (n : Int) * 16 + x - 65 + 10 = ((n * 16 + (c.toNat - 55) : Nat) : Int) := by omega
                have HE := Lib.hid he
                rw [fourG_some q3] at hx
                have HXX := Lib.hid hx
                clear hl2 he hx q1 q2 q3 hxc hl q0 q00 e48 e97
                go_quiet (fail)
                go_wp2
                go_roundw
                case rel =>
                  have hs2 := HST.out _ _ _ (below_drewN (Below.refl w2.heap.size w2) nq) rfl rfl
                  exact ⟨k + 1, n * 16 + (c.toNat - 55), by go_num, by rw [← HE.out], by omega, ⟨⟨_, _, hs2.1, HXX.out⟩, HL2.out, HG.out.trans ((grown_of_below HB2.out _).trans hs2.2)⟩⟩
                case measure => simp [intOf]; omega
              · have d97 : decide ((97 : Int) ≤ x) = false := decide_eq_false e97
                have d65 : decide ((65 : Int) ≤ x) = true := decide_eq_true (by omega)
                have d70 : decide (x ≤ 70) = true := decide_eq_true (by omega)
                have hl2 : n * 16 + (c.toNat - 55) < 16 ^ (k + 1) := by rw [Nat.pow_succ]; omega
                have HL2 := Lib.hid hl2
                have he : (n : Int) * 16 + x - 65 + 10 = ((n * 16 + (c.toNat - 55) : Nat) : Int) := by omega
                have HE := Lib.hid he
                rw [fourG_some q3] at hx
                have HXX := Lib.hid hx
                clear hl2 he hx q1 q2 q3 hxc hl q0 q00 e48 e97
                go_quiet (fail)
                go_wp2
                go_roundw
                case rel =>
                  have hs2 := HST.out _ _ _ (below_drewN (Below.refl w2.heap.size w2) nq) rfl rfl
                  exact ⟨k + 1, n * 16 + (c.toNat - 55), by go_num, by rw [← HE.out], by omega, ⟨⟨_, _, hs2.1, HXX.out⟩, HL2.out, HG.out.trans ((grown_of_below HB2.out _).trans hs2.2)⟩⟩
                case measure => simp [intOf]; omega
            · have d48 : decide ((48 : Int) ≤ x) = false := decide_eq_false e48
              by_cases e97 : 97 ≤ x
              · have d97 : decide ((97 : Int) ≤ x) = true := decide_eq_true e97
                have d102 : decide (x ≤ 102) = false := decide_eq_false (by omega)
                have d65 : decide ((65 : Int) ≤ x) = true := decide_eq_true (by omega)
                have d70 : decide (x ≤ 70) = true := decide_eq_true (by omega)
                have hl2 : n * 16 + (c.toNat - 55) < 16 ^ (k + 1) := by rw [Nat.pow_succ]; omega
                have HL2 := Lib.hid hl2
                have he : (n : Int) * 16 + x - 65 + 10 = ((n * 16 + (c.toNat - 55) : Nat) : Int) := by omega
                have HE := Lib.hid he
                rw [fourG_some q3] at hx
                have HXX := Lib.hid hx
                clear hl2 he hx q1 q2 q3 hxc hl q0 q00 e48 e97
                go_quiet (fail)
                go_wp2
                go_roundw
                case rel =>
                  have hs2 := HST.out _ _ _ (below_drewN (Below.refl w2.heap.size w2) nq) rfl rfl
                  exact ⟨k + 1, n * 16 + (c.toNat - 55), by go_num, by rw [← HE.out], by omega, ⟨⟨_, _, hs2.1, HXX.out⟩, HL2.out, HG.out.trans ((grown_of_below HB2.out _).trans hs2.2)⟩⟩
                case measure => simp [intOf]; omega
              · have d97 : decide ((97 : Int) ≤ x) = false := decide_eq_false e97
                have d65 : decide ((65 : Int) ≤ x) = true := decide_eq_true (by omega)
                have d70 : decide (x ≤ 70) = true := decide_eq_true (by omega)
                have hl2 : n * 16 + (c.toNat - 55) < 16 ^ (k + 1) := by rw [Nat.pow_succ]; omega
                have HL2 := Lib.hid hl2
                have he : (n : Int) * 16 + x - 65 + 10 = ((n * 16 + (c.toNat - 55) : Nat) : Int) := by omega
                have HE := Lib.hid he
                rw [fourG_some q3] at hx
                have HXX := Lib.hid hx
                clear hl2 he hx q1 q2 q3 hxc hl q0 q00 e48 e97
                go_quiet (fail)
                go_wp2
                go_roundw
                case rel =>
                  have hs2 := HST.out _ _ _ (below_drewN (Below.refl w2.heap.size w2) nq) rfl rfl
                  exact ⟨k + 1, n * 16 + (c.toNat - 55), by go_num, by rw [← HE.out], by omega, ⟨⟨_, _, hs2.1, HXX.out⟩, HL2.out, HG.out.trans ((grown_of_below HB2.out _).trans hs2.2)⟩⟩
                case measure => simp [intOf]; omega
          · by_cases e48 : 48 ≤ x
            · have d48 : decide ((48 : Int) ≤ x) = true := decide_eq_true e48
              have d57 : decide (x ≤ 57) = false := decide_eq_false (by omega)
              by_cases e97 : 97 ≤ x
              · have d97 : decide ((97 : Int) ≤ x) = true := decide_eq_true e97
                have d102 : decide (x ≤ 102) = false := decide_eq_false (by omega)
                by_cases e65 : 65 ≤ x
                · have d65 : decide ((65 : Int) ≤ x) = true := decide_eq_true e65
                  have d70 : decide (x ≤ 70) = false := decide_eq_false (by omega)
                  have hl2 : n < 16 ^ (k + 1) := by rw [Nat.pow_succ]; omega
                  have HL2 := Lib.hid hl2
                  have HXX := Lib.hid (show fourG (4 - (k + 1)) n r true = X by rw [← hx, fourG]; simp only [q3])
                  clear hl2 hx q3 hxc hl q0 q00 q000 e48 e97 e65
                  go_quiet (fail)
                  go_wp2
                  go_roundw
                  case rel =>
                    have hs2 := HST.out _ _ _ (below_drewN (Below.refl w2.heap.size w2) nq) rfl rfl
                    have hs3 := hs2.1.setBad true
                    exact ⟨k + 1, n, by go_num, rfl, by omega, ⟨⟨_, _, hs3.1, HXX.out⟩, HL2.out, HG.out.trans (((grown_of_below HB2.out _).trans hs2.2).trans hs3.2)⟩⟩
                  case measure => simp [intOf]; omega
                · have d65 : decide ((65 : Int) ≤ x) = false := decide_eq_false e65
                  have hl2 : n < 16 ^ (k + 1) := by rw [Nat.pow_succ]; omega
                  have HL2 := Lib.hid hl2
                  have HXX := Lib.hid (show fourG (4 - (k + 1)) n r true = X by rw [← hx, fourG]; simp only [q3])
                  clear hl2 hx q3 hxc hl q0 q00 q000 e48 e97 e65
                  go_quiet (fail)
                  go_wp2
                  go_roundw
                  case rel =>
                    have hs2 := HST.out _ _ _ (below_drewN (Below.refl w2.heap.size w2) nq) rfl rfl
                    have hs3 := hs2.1.setBad true
                    exact ⟨k + 1, n, by go_num, rfl, by omega, ⟨⟨_, _, hs3.1, HXX.out⟩, HL2.out, HG.out.trans (((grown_of_below HB2.out _).trans hs2.2).trans hs3.2)⟩⟩
                  case measure => simp [intOf]; omega
              · have d97 : decide ((97 : Int) ≤ x) = false := decide_eq_false e97
                by_cases e65 : 65 ≤ x
                · have d65 : decide ((65 : Int) ≤ x) = true := decide_eq_true e65
                  have d70 : decide (x ≤ 70) = false := decide_eq_false (by omega)
                  have hl2 : n < 16 ^ (k + 1) := by rw [Nat.pow_succ]; omega
                  have HL2 := Lib.hid hl2
                  have HXX := Lib.hid (show fourG (4 - (k + 1)) n r true = X by rw [← hx, fourG]; simp only [q3])
                  clear hl2 hx q3 hxc hl q0 q00 q000 e48 e97 e65
                  go_quiet (fail)
                  go_wp2
                  go_roundw
                  case rel =>
                    have hs2 := HST.out _ _ _ (below_drewN (Below.refl w2.heap.size w2) nq) rfl rfl
                    have hs3 := hs2.1.setBad true
                    exact ⟨k + 1, n, by go_num, rfl, by omega, ⟨⟨_, _, hs3.1, HXX.out⟩, HL2.out, HG.out.trans (((grown_of_below HB2.out _).trans hs2.2).trans hs3.2)⟩⟩
                  case measure => simp [intOf]; omega
                · have d65 : decide ((65 : Int) ≤ x) = false := decide_eq_false e65
                  have hl2 : n < 16 ^ (k + 1) := by rw [Nat.pow_succ]; omega
                  have HL2 := Lib.hid hl2
                  have HXX := Lib.hid (show fourG (4 - (k + 1)) n r true = X by rw [← hx, fourG]; simp only [q3])
                  clear hl2 hx q3 hxc hl q0 q00 q000 e48 e97 e65
                  go_quiet (fail)
                  go_wp2
                  go_roundw
                  case rel =>
                    have hs2 := HST.out _ _ _ (below_drewN (Below.refl w2.heap.size w2) nq) rfl rfl
                    have hs3 := hs2.1.setBad true
                    exact ⟨k + 1, n, by go_num, rfl, by omega, ⟨⟨_, _, hs3.1, HXX.out⟩, HL2.out, HG.out.trans (((grown_of_below HB2.out _).trans hs2.2).trans hs3.2)⟩⟩
                  case measure => simp [intOf]; omega
            · have d48 : decide ((48 : Int) ≤ x) = false := decide_eq_false e48
              by_cases e97 : 97 ≤ x
              · have d97 : decide ((97 : Int) ≤ x) = true := decide_eq_true e97
                have d102 : decide (x ≤ 102) = false := decide_eq_false (by omega)
                by_cases e65 : 65 ≤ x
                · have d65 : decide ((65 : Int) ≤ x) = true := decide_eq_true e65
                  have d70 : decide (x ≤ 70) = false := decide_eq_false (by omega)
                  have hl2 : n < 16 ^ (k + 1) := by rw [Nat.pow_succ]; omega
                  have HL2 := Lib.hid hl2
                  have HXX := Lib.hid (show fourG (4 - (k + 1)) n r true = X by rw [← hx, fourG]; simp only [q3])
                  clear hl2 hx q3 hxc hl q0 q00 q000 e48 e97 e65
                  go_quiet (fail)
                  go_wp2
                  go_roundw
                  case rel =>
                    have hs2 := HST.out _ _ _ (below_drewN (Below.refl w2.heap.size w2) nq) rfl rfl
                    have hs3 := hs2.1.setBad true
                    exact ⟨k + 1, n, by go_num, rfl, by omega, ⟨⟨_, _, hs3.1, HXX.out⟩, HL2.out, HG.out.trans (((grown_of_below HB2.out _).trans hs2.2).trans hs3.2)⟩⟩
                  case measure => simp [intOf]; omega
                · have d65 : decide ((65 : Int) ≤ x) = false := decide_eq_false e65
                  have hl2 : n < 16 ^ (k + 1) := by rw [Nat.pow_succ]; omega
                  have HL2 := Lib.hid hl2
                  have HXX := Lib.hid (show fourG (4 - (k + 1)) n r true = X by rw [← hx, fourG]; simp only [q3])
                  clear hl2 hx q3 hxc hl q0 q00 q000 e48 e97 e65
                  go_quiet (fail)
                  go_wp2
                  go_roundw
                  case rel =>
                    have hs2 := HST.out _ _ _ (below_drewN (Below.refl w2.heap.size w2) nq) rfl rfl
                    have hs3 := hs2.1.setBad true
                    exact ⟨k + 1, n, by go_num, rfl, by omega, ⟨⟨_, _, hs3.1, HXX.out⟩, HL2.out, HG.out.trans (((grown_of_below HB2.out _).trans hs2.2).trans hs3.2)⟩⟩
                  case measure => simp [intOf]; omega
              · have d97 : decide ((97 : Int) ≤ x) = false := decide_eq_false e97
                by_cases e65 : 65 ≤ x
                · have d65 : decide ((65 : Int) ≤ x) = true := decide_eq_true e65
                  have d70 : decide (x ≤ 70) = false := decide_eq_false (by omega)
                  have hl2 : n < 16 ^ (k + 1) := by rw [Nat.pow_succ]; omega
                  have HL2 := Lib.hid hl2
                  have HXX := Lib.hid (show fourG (4 - (k + 1)) n r true = X by rw [← hx, fourG]; simp only [q3])
                  clear hl2 hx q3 hxc hl q0 q00 q000 e48 e97 e65
                  go_quiet (fail)
                  go_wp2
                  go_roundw
                  case rel =>
                    have hs2 := HST.out _ _ _ (below_drewN (Below.refl w2.heap.size w2) nq) rfl rfl
                    have hs3 := hs2.1.setBad true
                    exact ⟨k + 1, n, by go_num, rfl, by omega, ⟨⟨_, _, hs3.1, HXX.out⟩, HL2.out, HG.out.trans (((grown_of_below HB2.out _).trans hs2.2).trans hs3.2)⟩⟩
                  case measure => simp [intOf]; omega
                · have d65 : decide ((65 : Int) ≤ x) = false := decide_eq_false e65
                  have hl2 : n < 16 ^ (k + 1) := by rw [Nat.pow_succ]; omega
                  have HL2 := Lib.hid hl2
                  have HXX := Lib.hid (show fourG (4 - (k + 1)) n r true = X by rw [← hx, fourG]; simp only [q3])
                  clear hl2 hx q3 hxc hl q0 q00 q000 e48 e97 e65
                  go_quiet (fail)
                  go_wp2
                  go_roundw
                  case rel =>
                    have hs2 := HST.out _ _ _ (below_drewN (Below.refl w2.heap.size w2) nq) rfl rfl
                    have hs3 := hs2.1.setBad true
                    exact ⟨k + 1, n, by go_num, rfl, by omega, ⟨⟨_, _, hs3.1, HXX.out⟩, HL2.out, HG.out.trans (((grown_of_below HB2.out _).trans hs2.2).trans hs3.2)⟩⟩
                  case measure => simp [intOf]; omega
      · obtain rfl : k = 4 := by omega
        rw [Nat.sub_self] at hx
        have hx' : (n, s', b') = X := hx
        subst hx'
        have HZZ := Lib.hid (And.intro hz hg)
        clear hz hg hx hlt
        go_wp2
        go_ret
        exact ⟨rfl, HZZ.out.1, HZZ.out.2⟩
end Go.Proofs.YtljnbbdhmlfhjaaGreatDoor
