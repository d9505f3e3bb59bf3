/-
  The reference's Canon.
-/
import Derived.Test.YtaimldndooijdaaDoorLabJ
import Derived.Deep.CutBlock
namespace Go.Proofs.YtaimldndooijdaaDoor
open Go.RowKit

theorem ins_distinct {P : List Lab} {x : Lab} {k : Nat} (hd : Distinct P) (hk : k ≤ (insAll P).length) (h1 : ∀ i (h : i < (insAll P).length), i < k → lessN (insAll P)[i] x = true)
    (h2 : ∀ h : k < (insAll P).length, lessN (insAll P)[k] x = false ∧ (insAll P)[k].1.toList ≠ x.1.toList) : Distinct (P ++ [x]) := by
  refine distinct_snoc.2 ⟨hd, fun y hy he => ?_⟩
  have hs := insAll_strict _ rfl hd
  obtain ⟨i, hi, rfl⟩ := List.mem_iff_getElem.1 ((insAll_perm P).mem_iff.2 hy)
  by_cases hik : i < k
  · exact less_ne (h1 i hi hik) he
  · obtain ⟨h3, h4⟩ := h2 (by omega)
    have h5 := less_total h3 h4
    by_cases e : i = k
    · subst e
      exact h4 he
    · have h6 := List.pairwise_iff_getElem.1 hs k i (by omega) hi (by omega)
      exact less_ne (less_trans h5 h6) he.symm
theorem ins_not {P : List Lab} {x : Lab} {k : Nat} (hk : k < (insAll P).length) (h : (insAll P)[k].1.toList = x.1.toList) : ¬ Distinct (P ++ [x]) := fun hd =>
  (distinct_snoc.1 hd).2 _ ((insAll_perm P).mem_iff.1 (List.getElem_mem hk)) h
theorem not_more {P : List Lab} {x : Lab} (h : ¬ Distinct P) : ¬ Distinct (P ++ [x]) := fun hd => h (distinct_snoc.1 hd).1
theorem canonE_bad {L : List Lab} {F : Int} (h16 : ¬ 16 < L.length) (h : firstBad L = F) (hF : F ≠ 0) : canonE L = F ∧ canonL L = [] := by
  have : canonE L = F := by unfold canonE; rw [if_neg h16, h, if_pos hF]
  exact ⟨this, canonL_bad (by rw [this]; exact hF)⟩
theorem row_ins {W : World} {B : Nat} {v : Value} {S : List Lab} {x1 x2 : ByteArray} {j k : Nat} (hk : S.length = k) (hj : j ≤ k) (hi : insN (x1, x2) S = S.take j ++ (x1, x2) :: S.drop j)
    (h : W.ownsRow B 49 2 v (0 + j + 1 + (k - j)) ([] ++ labCells (S.take j) ++ [.string x1, .string x2] ++ labCells (S.drop j))) : W.ownsRow B 49 2 v (k + 1) (labCells (insN (x1, x2) S)) := by
  rw [hi, labCells_append]
  have e : labCells ((x1, x2) :: S.drop j) = [.string x1, .string x2] ++ labCells (S.drop j) := rfl
  rw [e, ← List.append_assoc]
  have e2 : 0 + j + 1 + (k - j) = k + 1 := by omega
  rw [e2, List.nil_append] at h
  exact h
/-- What both come to. -/
def CanonV (L : List Lab) (B : Nat) (w' : World) (e : Ending) : Prop := ∃ v', e = .returned (.tuple #[v', .int .i64 (canonE L)]) ∧ w'.ownsRow B 49 2 v' (canonL L).length (labCells (canonL L))
theorem canonV_bad {L : List Lab} {F : Int} (h16 : ¬ 16 < L.length) (h : firstBad L = F) (hF : F ≠ 0) (B : Nat) (w' : World) : CanonV L B w' (.returned (.tuple #[.slice none 0 0, .int .i64 F])) := by
  obtain ⟨h1, h2⟩ := canonE_bad h16 h hF
  exact ⟨_, by rw [h1], by rw [h2]; exact World.ownsRow_nil _ _ _ _⟩
end Go.Proofs.YtaimldndooijdaaDoor
