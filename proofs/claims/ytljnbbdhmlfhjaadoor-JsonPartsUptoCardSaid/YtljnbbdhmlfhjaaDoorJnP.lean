/-
  Numerals, plainly: they are JSON's numbers, and are read as what they are.
-/
import Derived.Test.YtljnbbdhmlfhjaaDoorJsnAll
import Derived.Lib.ItoaNum
import Derived.Lib.ItoaMem
import Derived.Lib.ItoaLen
import Derived.Lib.ParseIntBTie
import Derived.Lib.ParseIntBCases
namespace Go.Proofs.YtljnbbdhmlfhjaaDoor
open Go.RowKit
theorem dec_digit (d : Nat) (h : d < 10) : (UInt8.ofNat (48 + d)).toNat = 48 + d := by rw [UInt8.toNat_ofNat']; omega
theorem dec_all : ∀ u : Nat, ∀ c ∈ Lib.decDigits u, isD c = true := by
  intro u
  induction u using Nat.strongRecOn with
  | _ u ih =>
    by_cases h : u < 10
    · rw [Lib.decDigits, dif_pos h]
      intro c hc
      simp only [List.mem_cons, List.not_mem_nil, or_false] at hc
      subst hc
      simp only [isD, decide_eq_true_eq, dec_digit u h]
      omega
    · rw [Lib.decDigits, dif_neg h]
      intro c hc
      simp only [List.mem_append, List.mem_cons, List.not_mem_nil, or_false] at hc
      rcases hc with hc | rfl
      · exact ih (u / 10) (by omega) c hc
      · simp only [isD, decide_eq_true_eq, dec_digit (u % 10) (by omega)]
        omega
theorem dec_head : ∀ u : Nat, ∃ c r, Lib.decDigits u = c :: r ∧ (c = 48 → u = 0 ∧ r = []) := by
  intro u
  induction u using Nat.strongRecOn with
  | _ u ih =>
    by_cases h : u < 10
    · rw [Lib.decDigits, dif_pos h]
      refine ⟨_, [], rfl, fun e => ⟨?_, rfl⟩⟩
      have := congrArg UInt8.toNat e
      rw [dec_digit u h] at this
      have h48 : (48 : UInt8).toNat = 48 := rfl
      omega
    · rw [Lib.decDigits, dif_neg h]
      obtain ⟨c, r, e, hc⟩ := ih (u / 10) (by omega)
      rw [e]
      exact ⟨c, _, rfl, fun h0 => by have := (hc h0).1; omega⟩
theorem dec_Digs (u : Nat) : Digs (Lib.decDigits u) ∧ ((Lib.decDigits u).head? = some 48 → (Lib.decDigits u).length = 1) := by
  obtain ⟨c, r, e, hc⟩ := dec_head u
  refine ⟨⟨by rw [e]; simp, dec_all u⟩, fun h => ?_⟩
  rw [e] at h ⊢
  obtain rfl : c = 48 := by simpa using h
  rw [(hc rfl).2]; rfl
/-- A numeral as a number's text. -/
theorem itoa_parts (n : Int) : ∃ sg : Bs, Lib.itoa n = sg ++ Lib.decDigits n.natAbs ∧ (sg = [] ∧ 0 ≤ n ∨ sg = [45] ∧ n < 0) := by
  unfold Lib.itoa
  split
  · exact ⟨[45], rfl, .inr ⟨rfl, by omega⟩⟩
  · exact ⟨[], by rw [show n.toNat = n.natAbs by omega]; rfl, .inl ⟨rfl, by omega⟩⟩
theorem itoa_num (n : Int) : NumS (Lib.itoa n) := by
  obtain ⟨sg, e, hs⟩ := itoa_parts n
  exact ⟨sg, Lib.decDigits n.natAbs, [], [], by rw [e]; simp, by rcases hs with ⟨h, -⟩ | ⟨h, -⟩ <;> simp [h], dec_Digs _, .inl rfl, .inl rfl⟩
theorem itoa_frac (n : Int) : NumS (Lib.itoa n ++ [46, 48]) := by
  obtain ⟨sg, e, hs⟩ := itoa_parts n
  exact ⟨sg, Lib.decDigits n.natAbs, [46, 48], [], by rw [e]; simp, by rcases hs with ⟨h, -⟩ | ⟨h, -⟩ <;> simp [h], dec_Digs _, .inr ⟨[48], rfl, by simp, by decide⟩, .inl rfl⟩
theorem pu_app : ∀ (x y : Bs) (acc : Nat), (∀ v, Lib.parseUint10 acc x = .ok v → Lib.parseUint10 acc (x ++ y) = Lib.parseUint10 v y)
  | [], y, acc, v, h => by
    simp only [Lib.parseUint10, Lib.NumEnd.ok.injEq] at h
    subst h; rfl
  | c :: x, y, acc, v, h => by
    simp only [List.cons_append, Lib.parseUint10] at h ⊢
    split at h
    · rename_i h1
      rw [if_pos h1]
      split at h
      · cases h
      · rename_i h2
        rw [if_neg h2]
        split at h
        · cases h
        · rename_i h3
          rw [if_neg h3]
          exact pu_app x y _ v h
    · cases h
theorem pu_dec : ∀ u : Nat, u < 18446744073709551616 → Lib.parseUint10 0 (Lib.decDigits u) = .ok u := by
  intro u
  induction u using Nat.strongRecOn with
  | _ u ih =>
    intro hu
    by_cases h : u < 10
    · rw [Lib.decDigits, dif_pos h]
      simp only [Lib.parseUint10, dec_digit u h]
      rw [if_pos (by omega), if_neg (by omega), if_neg (by omega)]
      simp only [Lib.NumEnd.ok.injEq]
      omega
    · rw [Lib.decDigits, dif_neg h, pu_app _ _ 0 (u / 10) (ih (u / 10) (by omega) (by omega))]
      simp only [Lib.parseUint10, dec_digit (u % 10) (by omega)]
      rw [if_pos (by omega), if_neg (by omega), if_neg (by omega)]
      simp only [Lib.NumEnd.ok.injEq]
      omega
theorem pu_syn (x : Bs) (acc v : Nat) (c : UInt8) (r : Bs) (hc : ¬ (48 ≤ c.toNat ∧ c.toNat ≤ 57)) (h : Lib.parseUint10 acc x = .ok v) : Lib.parseUint10 acc (x ++ c :: r) = .syntax := by
  rw [pu_app x _ acc v h]
  simp only [Lib.parseUint10]
  rw [if_neg hc]
theorem atoi_of (sg x y : Bs) (hx : x ≠ []) (hd : ∀ c ∈ x, isD c = true) (hs : sg = [] ∨ sg = [45]) : Lib.atoiAll (sg ++ (x ++ y)) = (match Lib.parseUint10 0 (x ++ y) with
    | .syntax => .syntax
    | .range => .range
    | .ok u => if ¬ (sg = [45]) ∧ 9223372036854775808 ≤ u then .range else if sg = [45] ∧ 9223372036854775808 < u then .range else .ok (if sg = [45] then -(u : Int) else u)) := by
  obtain ⟨c, x', rfl⟩ : ∃ c x', x = c :: x' := by
    cases x with
    | nil => exact absurd rfl hx
    | cons c x' => exact ⟨c, x', rfl⟩
  have hc := hd c (by simp)
  simp only [isD, decide_eq_true_eq] at hc
  rcases hs with rfl | rfl
  · simp only [List.nil_append, List.cons_append, Lib.atoiAll]
    rw [if_neg (show ¬ (c.toNat = 43 ∨ c.toNat = 45) by omega)]
    unfold Lib.parseMag
    rw [if_neg (by simp)]
    cases Lib.parseUint10 0 (c :: (x' ++ y)) with
    | «syntax» => rfl
    | range => rfl
    | ok u =>
      simp only []
      have h45 : ¬ c.toNat = 45 := by omega
      simp only [h45, not_false_eq_true, true_and, false_and, if_false, List.nil_eq, reduceCtorEq]
  · simp only [List.cons_append, List.nil_append, Lib.atoiAll]
    have e45 : (45 : UInt8).toNat = 45 := rfl
    rw [if_pos (.inr e45)]
    unfold Lib.parseMag
    rw [if_neg (by simp)]
    cases Lib.parseUint10 0 (c :: (x' ++ y)) with
    | «syntax» => rfl
    | range => rfl
    | ok u =>
      simp only [e45]
theorem int_back (n : Int) (h0 : -9223372036854775808 ≤ n) (h1 : n ≤ 9223372036854775807) : Lib.parseIntB 64 (Lib.itoa n) = .ok n := by
  rw [Lib.parseIntB_64]
  obtain ⟨sg, e, hs⟩ := itoa_parts n
  have h := atoi_of sg (Lib.decDigits n.natAbs) [] (dec_Digs _).1.1 (dec_all _) (by rcases hs with ⟨h, -⟩ | ⟨h, -⟩ <;> simp [h])
  rw [List.append_nil, pu_dec _ (by omega)] at h
  rw [e, h]
  simp only []
  rcases hs with ⟨rfl, hn⟩ | ⟨rfl, hn⟩
  · rw [if_neg (by omega), if_neg (by simp), if_neg (by simp)]
    congr 1
    omega
  · rw [if_neg (by simp), if_neg (by omega), if_pos rfl]
    congr 1
    omega
theorem int_frac (n : Int) (h0 : -9223372036854775808 ≤ n) (h1 : n ≤ 9223372036854775807) : Lib.parseIntB 64 (Lib.itoa n ++ [46, 48]) = .syntax := by
  rw [Lib.parseIntB_64]
  obtain ⟨sg, e, hs⟩ := itoa_parts n
  have h := atoi_of sg (Lib.decDigits n.natAbs) [46, 48] (dec_Digs _).1.1 (dec_all _) (by rcases hs with ⟨h, -⟩ | ⟨h, -⟩ <;> simp [h])
  rw [pu_syn _ 0 _ 46 [48] (by decide) (pu_dec _ (by omega))] at h
  rw [e, List.append_assoc, h]
/-- The law's loop over a number's digits. -/
def restD (u : Int) (ds : Bs) : Bs := if u = 0 ∧ ds ≠ [] then [] else Lib.decDigits u.natAbs
theorem rest_step (u : Int) (ds : Bs) (h : u ≠ 0 ∨ ds = []) : restD u ds = restD (u.tdiv 10) (UInt8.ofNat (48 + (u.tmod 10).natAbs) :: ds) ++ [UInt8.ofNat (48 + (u.tmod 10).natAbs)] := by
  have e1 : restD u ds = Lib.decDigits u.natAbs := by
    unfold restD
    rw [if_neg (by rintro ⟨h1, h2⟩; rcases h with h | h; exact h h1; exact h2 h)]
  have e2 : (u.tmod 10).natAbs = u.natAbs % 10 := by rw [Int.natAbs_tmod]; rfl
  have e3 : (u.tdiv 10).natAbs = u.natAbs / 10 := by rw [Int.natAbs_tdiv]; rfl
  rw [e1, e2]
  unfold restD
  by_cases hq : u.natAbs < 10
  · have : u.tdiv 10 = 0 := by
      have : (u.tdiv 10).natAbs = 0 := by rw [e3]; omega
      omega
    rw [if_pos ⟨this, by simp⟩, Lib.decDigits, dif_pos hq, Nat.mod_eq_of_lt hq]
    rfl
  · have : u.tdiv 10 ≠ 0 := by
      intro e
      rw [e] at e3
      simp at e3
      omega
    rw [if_neg (fun e => this e.1), e3, Lib.decDigits, dif_neg hq]
end Go.Proofs.YtljnbbdhmlfhjaaDoor
