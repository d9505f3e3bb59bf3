/-
  The law JsonDeep: values within one another in memory.
-/
import Derived.Test.YtljnbbdhmlfhjaaDoorJsLc
namespace Go.Proofs.YtljnbbdhmlfhjaaDoor
open Go.RowKit
def nestJ (bs : List Bool) : J := bs.foldl (fun j b => wrapJ b j) (.num [49])
theorem nest_snoc (bs : List Bool) (b : Bool) : nestJ (bs ++ [b]) = wrapJ b (nestJ bs) := by simp [nestJ]
theorem num_one : NumS [49] := (num_iff [49]).2 ⟨by simp, by decide⟩
theorem nest_ok : ∀ (n : Nat) (bs : List Bool), bs.length = n → okJ (nestJ bs) ∧ deepJ (nestJ bs) = bs.length ∧ (formJ (nestJ bs)).length ≤ 6 * bs.length + 1 := by
  intro n
  induction n with
  | zero =>
    intro bs h
    obtain rfl := List.eq_nil_of_length_eq_zero h
    exact ⟨num_one, rfl, by simp [nestJ, formJ]⟩
  | succ n ih =>
    intro bs h
    have hne : bs ≠ [] := by intro e; subst e; cases h
    obtain ⟨cs, b, rfl⟩ : ∃ cs b, bs = cs ++ [b] := ⟨_, _, (List.dropLast_concat_getLast hne).symm⟩
    obtain ⟨h1, h2, h3⟩ := ih cs (by simpa using h)
    rw [nest_snoc, wrap_deep, wrap_form, List.length_append, List.length_singleton]
    refine ⟨wrap_ok b h1, by omega, ?_⟩
    cases b
    · simp only [Bool.false_eq_true, if_false, List.length_append, List.length_cons, List.length_nil]; omega
    · simp only [if_true, List.length_append, List.length_cons, List.length_nil]; omega
theorem open_snoc (bs : List Bool) (b : Bool) : (bs ++ [b]).flatMap openB = bs.flatMap openB ++ openB b := by simp
theorem rep_arr {lo : Nat} {W : World} {j : J} {v : Value} (hlo : lo ≤ W.heap.size) (h : RepJ W (Nw lo W) j v) : RepJ (W.alloc (.cells #[v] 20)) (Nw lo (W.alloc (.cells #[v] 20))) (.arr [j]) (.iface 35 (.slice (some ⟨W.heap.size, 0, none⟩) 1 1)) := by
  have ho := World.ownsRow_lit (base := lo) (e := 20) (size := 1) W #[v] 1 hlo (by decide) rfl
  refine ⟨_, [v], rfl, rowS_own ho, v, [], rfl, RepJ.to (fun k hk => ⟨⟨hk.1, by have := hk.2; simp; omega⟩, fun hk2 => heap_alloc_old W _ hk2⟩) j v h, rfl⟩
theorem rep_obj {lo : Nat} {W : World} {j : J} {v : Value} (n : Bs) (hlo : lo ≤ W.heap.size) (h : RepJ W (Nw lo W) j v) : RepJ (W.alloc (.cells #[.string ⟨n.toArray⟩, v] 32)) (Nw lo (W.alloc (.cells #[.string ⟨n.toArray⟩, v] 32))) (.obj [(n, j)]) (.iface 34 (.slice (some ⟨W.heap.size, 0, none⟩) 1 1)) := by
  have ho := World.ownsRow_lit (base := lo) (e := 32) (size := 2) W #[.string ⟨n.toArray⟩, v] 1 hlo (by decide) rfl
  refine ⟨_, [.string ⟨n.toArray⟩, v], rfl, rowS_own ho, v, [], rfl, RepJ.to (fun k hk => ⟨⟨hk.1, by have := hk.2; simp; omega⟩, fun hk2 => heap_alloc_old W _ hk2⟩) j v h, rfl⟩
end Go.Proofs.YtljnbbdhmlfhjaaDoor
