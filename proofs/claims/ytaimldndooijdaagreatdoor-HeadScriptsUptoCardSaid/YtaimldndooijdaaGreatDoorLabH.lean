/-
  Plain laws of canonical lists: a rising list with no two of one name is the only one of its kind; labels put in where they belong.
-/
import Derived.Test.YtaimldndooijdaaGreatDoorLabG
namespace Go.Proofs.YtaimldndooijdaaGreatDoor

theorem less_trans {x y z : Lab} (h1 : lessN x y = true) (h2 : lessN y z = true) : lessN x z = true := by
  unfold lessN at *
  rw [bytesLess_eq] at *
  simp only [decide_eq_true_eq] at *
  exact List.lt_trans h1 h2
theorem less_asymm {x y : Lab} (h1 : lessN x y = true) : lessN y x = false := by
  cases h : lessN y x
  · rfl
  · have := less_trans h1 h
    rw [show lessN x x = false from less_irrefl _] at this
    cases this
theorem less_ne {x y : Lab} (h1 : lessN x y = true) : x.1.toList ≠ y.1.toList := fun e => by
  unfold lessN at h1
  rw [e, less_irrefl] at h1
  cases h1
theorem less_total {x y : Lab} (h1 : lessN x y = false) (h2 : x.1.toList ≠ y.1.toList) : lessN y x = true := by
  unfold lessN at *
  rw [bytesLess_eq] at *
  simp only [decide_eq_false_iff_not, decide_eq_true_eq] at *
  rw [List.not_lt] at h1
  rcases List.le_iff_lt_or_eq.1 h1 with h | h
  · exact h
  · exact absurd h.symm h2
/-- Each name below the next. -/
def Strict (L : List Lab) : Prop := L.Pairwise fun x y => lessN x y = true
def Distinct (L : List Lab) : Prop := (L.map fun x : Lab => x.1.toList).Nodup
instance (L : List Lab) : Decidable (Distinct L) := inferInstanceAs (Decidable (List.Nodup _))
theorem strict_of {L : List Lab} (hr : Rising L) (ht : ¬ Twice L) : Strict L := by
  have adj : ∀ i (h : i + 1 < L.length), lessN L[i] L[i + 1] = true := fun i h => less_total (hr i (i + 1) (by omega) h) (fun e => ht ⟨i, h, e⟩)
  have all : ∀ d i (h : i + d + 1 < L.length), lessN L[i] L[i + d + 1] = true := by
    intro d
    induction d with
    | zero => intro i h; exact adj i h
    | succ d ih =>
      intro i h
      exact less_trans (ih i (by omega)) (adj (i + d + 1) (by omega))
  unfold Strict
  rw [List.pairwise_iff_getElem]
  intro i j hi hj hij
  obtain ⟨d, rfl⟩ : ∃ d, j = i + d + 1 := ⟨j - i - 1, by omega⟩
  exact all d i hj
theorem strict_distinct {L : List Lab} (h : Strict L) : Distinct L := by
  unfold Distinct List.Nodup
  rw [List.pairwise_map]
  exact h.imp fun hxy => less_ne hxy
theorem strict_unique {A B : List Lab} (hA : Strict A) (hB : Strict B) (h : A.Perm B) : A = B :=
  List.Perm.eq_of_pairwise (le := fun x y => lessN x y = true) (fun a b _ _ h1 h2 => by rw [less_asymm h1] at h2; cases h2) hA hB h
theorem distinct_perm {A B : List Lab} (h : A.Perm B) : Distinct A ↔ Distinct B := (h.map _).nodup_iff
theorem twice_not {L : List Lab} (h : Twice L) : ¬ Distinct L := fun hd => by
  obtain ⟨i, hi, e⟩ := h
  unfold Distinct List.Nodup at hd
  rw [List.pairwise_map] at hd
  exact List.pairwise_iff_getElem.1 hd i (i + 1) (by omega) hi (by omega) e.symm

/-- A label put in where it belongs. -/
def insN (x : Lab) : List Lab → List Lab
  | [] => [x]
  | y :: S => if lessN y x then y :: insN x S else x :: y :: S
def insAll (L : List Lab) : List Lab := L.foldl (fun S x => insN x S) []
theorem insN_perm (x : Lab) : ∀ S : List Lab, (insN x S).Perm (x :: S)
  | [] => List.Perm.refl _
  | y :: S => by
    unfold insN
    split
    · exact ((insN_perm x S).cons y).trans (List.Perm.swap x y S)
    · exact List.Perm.refl _
theorem insN_at (x : Lab) : ∀ (S : List Lab) (k : Nat), k ≤ S.length → (∀ i (h : i < S.length), i < k → lessN S[i] x = true) → (∀ h : k < S.length, lessN S[k] x = false) → insN x S = S.take k ++ x :: S.drop k
  | [], k, hk, _, _ => by
    have : k = 0 := by simpa using hk
    subst this
    rfl
  | y :: S, 0, _, _, h2 => by
    have := h2 (by simp)
    simp only [List.getElem_cons_zero] at this
    unfold insN
    rw [if_neg (by rw [this]; simp)]
    rfl
  | y :: S, k + 1, hk, h1, h2 => by
    have := h1 0 (by simp) (by omega)
    simp only [List.getElem_cons_zero] at this
    unfold insN
    rw [if_pos this, insN_at x S k (by simpa using hk) (fun i hi hik => by
      have := h1 (i + 1) (by simpa using hi) (by omega)
      simpa using this) (fun h => by
      have := h2 (by simpa using h)
      simpa using this)]
    rfl
theorem insN_strict {x : Lab} : ∀ {S : List Lab}, Strict S → (∀ y ∈ S, y.1.toList ≠ x.1.toList) → Strict (insN x S)
  | [], _, _ => List.pairwise_singleton _ _
  | y :: S, h, hn => by
    have h' := List.pairwise_cons.1 h
    unfold insN
    split
    · rename_i hl
      refine List.pairwise_cons.2 ⟨fun z hz => ?_, insN_strict h'.2 fun z hz => hn z (by simp [hz])⟩
      rcases List.mem_cons.1 ((insN_perm x S).mem_iff.1 hz) with rfl | hz
      · exact hl
      · exact h'.1 z hz
    · rename_i hl
      have hxy : lessN x y = true := less_total (by simpa using hl) (hn y (by simp))
      refine List.pairwise_cons.2 ⟨fun z hz => ?_, h⟩
      rcases List.mem_cons.1 hz with rfl | hz
      · exact hxy
      · exact less_trans hxy (h'.1 z hz)
theorem insAll_snoc (L : List Lab) (x : Lab) : insAll (L ++ [x]) = insN x (insAll L) := by simp [insAll]
theorem insAll_perm (L : List Lab) : (insAll L).Perm L := by
  have : ∀ (L S : List Lab), (L.foldl (fun S x => insN x S) S).Perm (S ++ L) := by
    intro L
    induction L with
    | nil => intro S; simp
    | cons x L ih =>
      intro S
      refine (ih (insN x S)).trans ?_
      refine ((insN_perm x S).append_right L).trans ?_
      exact (List.perm_middle (a := x) (l₁ := S) (l₂ := L)).symm
  exact this L []
theorem distinct_snoc {L : List Lab} {x : Lab} : Distinct (L ++ [x]) ↔ Distinct L ∧ ∀ y ∈ L, y.1.toList ≠ x.1.toList := by
  unfold Distinct
  rw [List.map_append, List.nodup_append]
  simp
  exact fun _ => ⟨fun h a b hm => h _ a b hm rfl, fun h l a b hm e => by subst e; exact h a b hm⟩
theorem insAll_strict : ∀ (n : Nat) {L : List Lab}, L.length = n → Distinct L → Strict (insAll L)
  | 0, L, h, _ => by
    obtain rfl := List.eq_nil_of_length_eq_zero h
    exact List.Pairwise.nil
  | n + 1, L, h, hd => by
    obtain ⟨A, x, rfl⟩ : ∃ A x, L = A ++ [x] := ⟨L.dropLast, L.getLast (by intro e; subst e; cases h), (List.dropLast_concat_getLast _).symm⟩
    obtain ⟨h1, h2⟩ := distinct_snoc.1 hd
    rw [insAll_snoc]
    refine insN_strict (insAll_strict n (by simpa using h) h1) fun y hy => h2 y ((insAll_perm A).mem_iff.1 hy)

/-- THE CANONICAL LIST, or what a list lacks. -/
def canonE (L : List Lab) : Int := if 16 < L.length then 3 else if firstBad L ≠ 0 then firstBad L else if Distinct L then 0 else 6
def canonL (L : List Lab) : List Lab := if canonE L = 0 then insAll L else []
theorem canon_end {L : List Lab} {B : Nat} {w' : World} {e : Ending} (h : CanonEnd L B w' e) :
    ∃ v, e = .returned (.tuple #[v, .int .i64 (canonE L)]) ∧ w'.ownsRow B 62 2 v (canonL L).length (labCells (canonL L)) := by
  unfold CanonEnd at h
  have nil : ∀ z : Int, z ≠ 0 → canonE L = z → canonL L = [] := fun z hz he => by unfold canonL; rw [if_neg (by rw [he]; exact hz)]
  split at h
  · rename_i h16
    have he : canonE L = 3 := by unfold canonE; rw [if_pos h16]
    exact ⟨_, by rw [h, he], by rw [nil 3 (by omega) he]; exact World.ownsRow_nil _ _ _ _⟩
  · rename_i h16
    split at h
    · rename_i hb
      have he : canonE L = firstBad L := by unfold canonE; rw [if_neg h16, if_pos hb]
      exact ⟨_, by rw [h, he], by rw [nil _ hb he]; exact World.ownsRow_nil _ _ _ _⟩
    · rename_i hb
      obtain ⟨L', hp, hr, h⟩ := h
      rcases h with ⟨ht, he⟩ | ⟨ht, v, he, ho⟩
      · have hd : ¬ Distinct L := fun hd => twice_not ht ((distinct_perm hp).2 hd)
        have hE : canonE L = 6 := by unfold canonE; rw [if_neg h16, if_neg hb, if_neg hd]
        exact ⟨_, by rw [he, hE], by rw [nil 6 (by omega) hE]; exact World.ownsRow_nil _ _ _ _⟩
      · have hs := strict_of hr ht
        have hd : Distinct L := (distinct_perm hp).1 (strict_distinct hs)
        have hE : canonE L = 0 := by unfold canonE; rw [if_neg h16, if_neg hb, if_pos hd]
        have hl : canonL L = L' := by
          unfold canonL
          rw [if_pos hE]
          exact strict_unique (insAll_strict _ rfl hd) hs ((insAll_perm L).trans hp.symm)
        exact ⟨v, by rw [he, hE], by rw [hl]; exact ho⟩
end Go.Proofs.YtaimldndooijdaaGreatDoor
