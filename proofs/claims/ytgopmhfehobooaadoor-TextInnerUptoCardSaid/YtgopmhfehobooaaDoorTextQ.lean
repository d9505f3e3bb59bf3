/-
  Plain laws of lists of texts in order, each once. No program in sight.
-/
import Derived.Test.YtgopmhfehobooaaDoorTextP
import Derived.Lib.SlicesCompact
namespace Go.Proofs.YtgopmhfehobooaaDoor

abbrev Txt := List UInt8
theorem tlt_irrefl (a : Txt) : ¬ a < a := List.lt_irrefl a
theorem tlt_trans {a b c : Txt} (h : a < b) (k : b < c) : a < c := List.lt_trans h k
theorem tlt_asymm {a b : Txt} (h : a < b) : ¬ b < a := fun k => tlt_irrefl a (tlt_trans h k)
theorem tle_iff {a b : Txt} : a ≤ b ↔ ¬ b < a := Iff.rfl
theorem tlt_tri (a b : Txt) : a < b ∨ a = b ∨ b < a := by
  by_cases h : a < b
  · exact .inl h
  · by_cases k : b < a
    · exact .inr (.inr k)
    · exact .inr (.inl (List.le_antisymm k h))

def strict (l : List Txt) : Prop := l.Pairwise (· < ·)
theorem strict_unique : ∀ {a b : List Txt}, strict a → strict b → (∀ x, x ∈ a ↔ x ∈ b) → a = b
  | [], [], _, _, _ => rfl
  | [], y :: b, _, _, h => by have := (h y).2 (by simp); cases this
  | x :: a, [], _, _, h => by have := (h x).1 (by simp); cases this
  | x :: a, y :: b, ha, hb, h => by
    have ha' := List.pairwise_cons.1 ha
    have hb' := List.pairwise_cons.1 hb
    have e : x = y := by
      rcases List.mem_cons.1 ((h x).1 (by simp)) with e | hx
      · exact e
      · rcases List.mem_cons.1 ((h y).2 (by simp)) with e | hy
        · exact e.symm
        · exact absurd (ha'.1 y hy) (tlt_asymm (hb'.1 x hx))
    subst e
    congr 1
    refine strict_unique ha'.2 hb'.2 fun z => ⟨fun hz => ?_, fun hz => ?_⟩
    · rcases List.mem_cons.1 ((h z).1 (by simp [hz])) with e | hz'
      · subst e; exact absurd (ha'.1 z hz) (tlt_irrefl z)
      · exact hz'
    · rcases List.mem_cons.1 ((h z).2 (by simp [hz])) with e | hz'
      · subst e; exact absurd (hb'.1 z hz) (tlt_irrefl z)
      · exact hz'

/-- A text put into a strict list, where it is none of its own. -/
def insU (x : Txt) (out : List Txt) : List Txt :=
  let a := out.takeWhile (fun y => decide (y < x))
  let b := out.drop a.length
  if b.head? = some x then out else a ++ x :: b
def onceL (l : List Txt) : List Txt := l.foldl (fun out x => insU x out) []

theorem insU_nil (x : Txt) : insU x [] = [x] := rfl
theorem insU_cons (x y : Txt) (out : List Txt) : insU x (y :: out) = if y < x then y :: insU x out else if y = x then y :: out else x :: y :: out := by
  unfold insU
  by_cases h : y < x
  · rw [if_pos h, List.takeWhile_cons_of_pos (by simpa using h)]
    simp only [List.length_cons, List.drop_succ_cons]
    split <;> simp
  · rw [if_neg h, List.takeWhile_cons_of_neg (by simpa using h)]
    simp only [List.length_nil, List.drop_zero, List.head?_cons, Option.some.injEq, List.nil_append]
theorem insU_mem (x : Txt) : ∀ (out : List Txt) (z : Txt), z ∈ insU x out ↔ z = x ∨ z ∈ out
  | [], z => by simp [insU_nil]
  | y :: out, z => by
    rw [insU_cons]
    by_cases h : y < x
    · rw [if_pos h, List.mem_cons, insU_mem x out z, List.mem_cons]
      exact ⟨fun h => by rcases h with h | h | h; exact .inr (.inl h); exact .inl h; exact .inr (.inr h), fun h => by rcases h with h | h | h; exact .inr (.inl h); exact .inl h; exact .inr (.inr h)⟩
    · rw [if_neg h]
      by_cases e : y = x
      · subst e
        rw [if_pos rfl]
        exact ⟨fun h => .inr h, fun h => by rcases h with rfl | h; exact List.mem_cons_self; exact h⟩
      · rw [if_neg e]; simp
theorem insU_strict (x : Txt) : ∀ (out : List Txt), strict out → strict (insU x out)
  | [], _ => by rw [insU_nil]; exact List.pairwise_singleton _ _
  | y :: out, h => by
    have h' := List.pairwise_cons.1 h
    rw [insU_cons]
    by_cases c : y < x
    · rw [if_pos c]
      refine List.pairwise_cons.2 ⟨fun z hz => ?_, insU_strict x out h'.2⟩
      rcases (insU_mem x out z).1 hz with rfl | hz
      · exact c
      · exact h'.1 z hz
    · rw [if_neg c]
      by_cases e : y = x
      · rw [if_pos e]; exact h
      · rw [if_neg e]
        have hxy : x < y := by
          rcases tlt_tri y x with k | k | k
          · exact absurd k c
          · exact absurd k e
          · exact k
        refine List.pairwise_cons.2 ⟨fun z hz => ?_, h⟩
        rcases List.mem_cons.1 hz with rfl | hz
        · exact hxy
        · exact tlt_trans hxy (h'.1 z hz)
theorem onceGo : ∀ (l out : List Txt), strict out → strict (l.foldl (fun out x => insU x out) out) ∧ ∀ z, z ∈ l.foldl (fun out x => insU x out) out ↔ z ∈ l ∨ z ∈ out
  | [], out, h => ⟨h, fun z => by simp⟩
  | x :: l, out, h => by
    have ih := onceGo l (insU x out) (insU_strict x out h)
    refine ⟨ih.1, fun z => ?_⟩
    rw [List.foldl_cons, ih.2 z, insU_mem, List.mem_cons]
    exact ⟨fun h => by rcases h with h | h | h; exact .inl (.inr h); exact .inl (.inl h); exact .inr h, fun h => by rcases h with (h | h) | h; exact .inr (.inl h); exact .inl h; exact .inr (.inr h)⟩
theorem once_strict (l : List Txt) : strict (onceL l) := (onceGo l [] List.Pairwise.nil).1
theorem once_mem (l : List Txt) (z : Txt) : z ∈ onceL l ↔ z ∈ l := by
  have := (onceGo l [] List.Pairwise.nil).2 z
  simpa [onceL] using this
theorem once_unique {l m : List Txt} (hm : strict m) (h : ∀ z, z ∈ m ↔ z ∈ l) : m = onceL l :=
  strict_unique hm (once_strict l) fun z => (h z).trans (once_mem l z).symm

/-- A sorted list without its doubles. -/
theorem compact_once (zs : List Txt) (hs : zs.Pairwise (· ≤ ·)) : Lib.compact zs = onceL zs := by
  have hget : ∀ i, i < zs.length → zs.toArray[i]! = zs.getD i [] := by
    intro i hi
    simp [hi]
  have hle : ∀ i j, i ≤ j → j < zs.length → zs.getD i [] ≤ zs.getD j [] := by
    intro i j hij hj
    rcases Nat.eq_or_lt_of_le hij with rfl | hlt
    · exact List.le_refl _
    · have := List.pairwise_iff_getElem.1 hs i j (by omega) hj hlt
      simpa [List.getD_eq_getElem?_getD, List.getElem?_eq_getElem (show i < zs.length by omega), List.getElem?_eq_getElem hj] using this
  refine once_unique ?_ ?_
  · unfold strict Lib.compact Lib.compactUpTo
    refine List.pairwise_map.2 ?_
    have h1 : ((List.range zs.length).filter (Lib.keeps zs.toArray)).Pairwise (· < ·) := List.Pairwise.filter _ List.pairwise_lt_range
    refine List.Pairwise.imp_of_mem ?_ h1
    intro i j hi hj hij
    obtain ⟨hi1, _⟩ := List.mem_filter.1 hi
    obtain ⟨hj1, hj2⟩ := List.mem_filter.1 hj
    have hj1' := List.mem_range.1 hj1
    have hk : zs.toArray[j]! ≠ zs.toArray[j - 1]! := by
      have : j = 0 ∨ zs.toArray[j]! ≠ zs.toArray[j - 1]! := by simpa [Lib.keeps] using hj2
      rcases this with h | h
      · omega
      · exact h
    rw [hget j hj1', hget (j - 1) (by omega)] at hk
    rw [hget i (by omega), hget j hj1']
    have a := hle i (j - 1) (by omega) (by omega)
    have b := hle (j - 1) j (by omega) hj1'
    rcases tlt_tri (zs.getD i []) (zs.getD j []) with h | h | h
    · exact h
    · exfalso
      rw [h] at a
      exact hk (List.le_antisymm a b)
    · exact absurd h (List.le_trans a b)
  · intro z
    unfold Lib.compact Lib.compactUpTo
    constructor
    · intro h
      obtain ⟨i, hi, rfl⟩ := List.mem_map.1 h
      have hi' := List.mem_range.1 (List.mem_filter.1 hi).1
      rw [hget i hi', List.getD_eq_getElem?_getD, List.getElem?_eq_getElem hi']
      exact List.getElem_mem _
    · intro h
      obtain ⟨n, hn, e⟩ := List.mem_iff_getElem.1 h
      have : ∀ m, m < zs.length → ∃ i, i ∈ (List.range zs.length).filter (Lib.keeps zs.toArray) ∧ zs.toArray[i]! = zs.toArray[m]! := by
        intro m
        induction m with
        | zero =>
          intro hm
          exact ⟨0, List.mem_filter.2 ⟨List.mem_range.2 hm, by simp [Lib.keeps]⟩, rfl⟩
        | succ m ih =>
          intro hm
          by_cases c : zs.toArray[m + 1]! = zs.toArray[m]!
          · obtain ⟨i, hi, e⟩ := ih (by omega)
            exact ⟨i, hi, e.trans c.symm⟩
          · exact ⟨m + 1, List.mem_filter.2 ⟨List.mem_range.2 hm, by simp only [Lib.keeps, Nat.add_sub_cancel]; exact decide_eq_true (.inr c)⟩, rfl⟩
      obtain ⟨i, hi, e2⟩ := this n hn
      refine List.mem_map.2 ⟨i, hi, ?_⟩
      rw [e2, hget n hn, List.getD_eq_getElem?_getD, List.getElem?_eq_getElem hn]
      exact e
theorem once_sorted (l : List Txt) : Lib.compact (l.mergeSort fun x y => decide (x ≤ y)) = onceL l := by
  have hs : (l.mergeSort fun x y => decide (x ≤ y)).Pairwise (· ≤ ·) := by
    have := List.pairwise_mergeSort (le := fun x y : Txt => decide (x ≤ y)) (fun a b c h1 h2 => by
      simp only [decide_eq_true_eq] at *
      exact List.le_trans h1 h2) (fun a b => by
      simp only [Bool.or_eq_true, decide_eq_true_eq]
      exact List.le_total a b) l
    exact this.imp (by intro a b h; simpa using h)
  rw [compact_once _ hs]
  refine (once_unique (once_strict _) fun z => ?_)
  rw [once_mem]
  exact List.mem_mergeSort
end Go.Proofs.YtgopmhfehobooaaDoor
