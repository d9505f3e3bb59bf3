/-
  The contract of the reference's Once.
-/
import Derived.Test.YtgopmhfehobooaaDoorTextX
import Derived.Test.YtgopmhfehobooaaDoorKitC
import Derived.BigQuiet
import Derived.Sort.Walk0
namespace Go.Proofs.YtgopmhfehobooaaDoor
open Go.RowKit

theorem insU_at (x : Txt) (O : List Txt) (m : Nat) (hm : m ≤ O.length) (h : ∀ y ∈ O.take m, y < x) (hs : ∀ h : m < O.length, ¬ O[m] < x) :
    insU x O = if O[m]? = some x then O else O.take m ++ x :: O.drop m := by
  have ht : O.takeWhile (fun y => decide (y < x)) = O.take m := by
    have e : O = O.take m ++ O.drop m := (List.take_append_drop m O).symm
    conv => lhs; rw [e]
    rw [List.takeWhile_append_of_pos (fun y hy => by simpa using h y hy)]
    by_cases c : m < O.length
    · rw [List.drop_eq_getElem_cons c, List.takeWhile_cons_of_neg (by simpa using hs c), List.append_nil]
    · rw [List.drop_of_length_le (by omega), List.takeWhile_nil, List.append_nil]
  have hl : (O.take m).length = m := by rw [List.length_take]; omega
  unfold insU
  simp only [ht, hl, List.head?_drop]
theorem texts_ins {w : World} {A B : Nat} {v : Value} {O : List Txt} {x : Txt} {m : Nat} (h : w.ownsRow A 9 1 v (m + 1 + (O.length - m)) ((O.take m).map strV ++ [strV x] ++ (O.drop m).map strV)) (hm : m ≤ O.length) (hA : B ≤ A) : Texts w B v (O.take m ++ x :: O.drop m) := by
  have e : (O.take m ++ x :: O.drop m).length = m + 1 + (O.length - m) := by simp; omega
  unfold Texts
  rw [e]
  have e2 : (O.take m ++ x :: O.drop m).map strV = (O.take m).map strV ++ [strV x] ++ (O.drop m).map strV := by simp
  rw [e2]
  exact owns_base h hA
theorem texts_end {w : World} {A B : Nat} {v : Value} {O : List Txt} {x : Txt} (h : w.ownsRow A 9 1 v (O.length + 1) (O.map strV ++ [strV x])) (hA : B ≤ A) : Texts w B v (O ++ [x]) := by
  unfold Texts
  rw [List.length_append, List.map_append]
  exact owns_base h hA
theorem src_empty {P : Program} {w : World} {tx e' : TypeId} {size : Nat} (hk : P.underlying tx = some (.slice e')) (a : Option Addr) (c : Nat) : Src P size tx (.slice a 0 c) 0 [] w := by
  cases a with
  | none => exact Src.ofNil w hk c
  | some a => exact Src.ofSlice w hk a 0 c [] (by simp) (fun j u h => by simp at h) (fun u h => by cases h)
theorem below_src {wr W w1 : World} (h : Below wr.heap.size wr W) (hg : W.grownBy w1 none) (hs : wr.heap.size ≤ W.heap.size) : Below wr.heap.size wr w1 := h.grown hg hs (fun k hk => by cases hk)
theorem below_src' {wr w1 w2 : World} {o : Obj} {v : Value} {e : TypeId} {sz n : Nat} {xs : List Value} (h : Below wr.heap.size wr w1) (ho : w1.ownsRow wr.heap.size e sz v n xs) (hg : (w1.alloc o).grownBy w2 v.ownBlock) : Below wr.heap.size wr w2 :=
  (h.alloc h.size o).grown hg (by have := h.size; simp; omega) (fun k hk => (ho.lt k hk).1)
theorem below_src2 {wr w1 w2 : World} {v : Value} {e : TypeId} {sz n : Nat} {xs : List Value} (h : Below wr.heap.size wr w1) (ho : w1.ownsRow wr.heap.size e sz v n xs) (hg : w1.grownBy w2 v.ownBlock) : Below wr.heap.size wr w2 :=
  h.grown hg h.size (fun k hk => (ho.lt k hk).1)
theorem strV_one (L : List Txt) : ∀ u ∈ L.map strV, u.oneCell' = true := by
  intro u hu
  obtain ⟨x, _, rfl⟩ := List.mem_map.1 hu
  rfl
theorem strV_less (a b : Txt) : Op.bytesLess (⟨a.toArray⟩ : ByteArray).toList (⟨b.toArray⟩ : ByteArray).toList = decide (a < b) := by
  rw [Go.Proofs.bytesLess_eq, ByteArray.toList_eq, ByteArray.toList_eq]
theorem strV_beq (a b : Txt) : ((⟨a.toArray⟩ : ByteArray).toList == (⟨b.toArray⟩ : ByteArray).toList) = decide (a = b) := by
  rw [ByteArray.toList_eq, ByteArray.toList_eq, Bool.eq_iff_iff]
  simp

end Go.Proofs.YtgopmhfehobooaaDoor
