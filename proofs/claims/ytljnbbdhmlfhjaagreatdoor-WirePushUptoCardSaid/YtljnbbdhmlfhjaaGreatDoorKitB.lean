/-
  Rows that can be read, wherever they lie: arguments and what a call owns alike.
-/
import Derived.Test.YtljnbbdhmlfhjaaGreatDoorKit
import Derived.Deep.AppendLies
import Derived.ProofKit
import Derived.OpenShut
namespace Go.Proofs.YtljnbbdhmlfhjaaGreatDoor
open Go.RowKit Go.ChangeShapes Go.WideShapes

/-- A row that can be read: n elements of so many cells each, at whatever place (nil too). -/
def argRow (w : World) (v : Value) (n size : Nat) (xs : List Value) : Prop :=
  xs.length = n * size ∧ ∃ a cap, v = .slice a n cap ∧ n ≤ cap ∧ cap ≤ maxLen ∧ (0 < n → ∃ b off, a = some ⟨b, off, none⟩ ∧ b < w.heap.size ∧ ∀ j (h : j < xs.length), w.cell? ⟨b, off + j, none⟩ = some xs[j])
theorem argRow_below {w w' : World} {v : Value} {n size : Nat} {xs : List Value} (h : argRow w v n size xs) (hb : Below w.heap.size w w') : argRow w' v n size xs := by
  obtain ⟨h1, a, cap, rfl, h2, h3, h4⟩ := h
  refine ⟨h1, a, cap, rfl, h2, h3, fun h0 => ?_⟩
  obtain ⟨b, off, rfl, hlt, hc⟩ := h4 h0
  exact ⟨b, off, rfl, Nat.lt_of_lt_of_le hlt hb.size, fun j hj => by rw [hb.cell (p := ⟨b, off + j, none⟩) hlt]; exact hc j hj⟩
theorem argRow_owns {w : World} {B : Nat} {e : TypeId} {v : Value} {n size : Nat} {xs : List Value} (h : w.ownsRow B e size v n xs) : argRow w v n size xs := by
  refine ⟨h.1, ?_⟩
  rcases h.2 with ⟨rfl, rfl⟩ | ⟨g, cap, cur, rfl, hB, hg, hn, hc, hs, ht⟩
  · exact ⟨_, _, rfl, Nat.le_refl _, Nat.zero_le _, fun h => by omega⟩
  · refine ⟨_, _, rfl, hn, hc, fun _ => ⟨g, 0, rfl, (Array.getElem?_eq_some_iff.1 hg).1, fun j hj => ?_⟩⟩
    have := h.cells (g := g) rfl j xs[j] (List.getElem?_eq_getElem hj)
    have hadd : (⟨g, 0, none⟩ : Addr).add j = ⟨g, j, none⟩ := by unfold Addr.add; split <;> simp_all
    rw [hadd] at this
    rw [Nat.zero_add]
    exact this
theorem byteOfInt (z : Int) (h : (Lit.int .u8 z).wf = true) : ((UInt8.ofNat z.toNat).toNat : Int) = z := by
  have hb := bounds_u8 h
  rw [UInt8.toNat_ofNat']
  omega
/-- A slice of bytes that came in. -/
theorem open_bytes {H : Type} {enc : TypeId × Value → H} {P : Program} {w : World} {t e : TypeId} {v : Value} {d : DataW H} {ps : List MemPlace} (ht : P.underlying t = some (.slice e)) (he : P.underlying e = some (.int .u8)) (hc : P.cellsOf e = 1)
    (hval : Value.okWide P w .any 0 t v) (hd : DataW.Trod enc P w 0 (fun _ => true) true t v d ps) :
    ∃ l : List UInt8, argRow w v l.length 1 (Lib.byteCells l) ∧ (d = .nil ∧ l = [] ∨ ∃ (xs ys : List (DataW H)), d = .slice xs ys ∧ xs.length = l.length) := by
  obtain ⟨a0, len, cap, rfl⟩ := okWide_slice ht hval
  obtain ⟨fuel, hf⟩ := hd
  simp only [Value.cells] at hf
  rcases ChangeShapes.open_ints ht he hc hf with ⟨hcs, hx⟩ | ⟨a, len', cap', zs, hcs, _, hl, hm, hz, hx, hcell, hwz⟩
  · simp only [Prod.mk.injEq] at hx
    simp only [List.cons.injEq, and_true] at hcs
    exact ⟨[], ⟨rfl, _, _, hcs, Nat.le_refl _, Nat.zero_le _, fun h => by simp at h⟩, .inl ⟨hx.1, rfl⟩⟩
  · simp only [Prod.mk.injEq] at hx
    simp only [List.cons.injEq, and_true] at hcs
    have hz' : zs.length = cap' := by simpa using hz
    have hll : ((zs.take len').map fun z => UInt8.ofNat z.toNat).length = len' := by simp; omega
    refine ⟨(zs.take len').map fun z => UInt8.ofNat z.toNat, ⟨by simp [Lib.byteCells], some a, cap', by rw [hcs, hll], by omega, hm, fun h0 => ?_⟩, .inr ⟨_, _, hx.1, by rw [hll]; simp [lits]; omega⟩⟩
    obtain ⟨b, off, rfl, hcell'⟩ := ints_at hcell (by omega)
    refine ⟨b, off, rfl, World.block_lt_of_cell? w _ (hcell' 0 (by omega)), fun j hj => ?_⟩
    simp only [Lib.byteCells, List.length_map] at hj
    rw [List.length_take] at hj
    have h2 := hcell' j (by omega)
    simp only [Lib.byteCells, List.getElem_map, List.getElem_take]
    rw [h2, byteOfInt _ (hwz _ (List.getElem_mem _))]
    simp [List.getD_eq_getElem?_getD, List.getElem?_eq_getElem (show j < zs.length by omega)]
theorem owns_last {w : World} {B : Nat} {e : TypeId} {g n cap : Nat} {xs : List Value} {u : Value} (h : w.ownsRow B e 1 (.slice (some ⟨g, 0, none⟩) (n + 1) cap) (n + 1) (xs ++ [u])) : w.cell? ⟨g, n, none⟩ = some u := by
  have hl : xs.length = n := by have := h.1; simp at this; omega
  have := h.cells (g := g) rfl n u (by rw [List.getElem?_append_right (by omega), hl]; simp)
  rw [add_plain, Nat.zero_add] at this
  exact this
/-- string(b[i:j]), wherever the bytes lie. -/
theorem conv_cells {P : Program} {w : World} {src dst e : TypeId} {g off cap : Nat} {l : List UInt8} (hs : P.underlying src = some (.slice e)) (he : P.underlying e = some (.int .u8)) (hd : P.underlying dst = some .string)
    (hc : ∀ j (h : j < l.length), w.cell? ⟨g, off + j, none⟩ = some (.int .u8 (l[j].toNat : Int))) : (convert src dst (.slice (some ⟨g, off, none⟩) l.length cap)).run P w = .ok (.string ⟨l.toArray⟩) w :=
  run_convert_bytes_back w src dst e ⟨g, off, none⟩ cap l hs he hd fun j hj => by rw [add_plain]; exact hc j hj
theorem conv_nil {P : Program} {w : World} {src dst e : TypeId} {a : Option Addr} {cap : Nat} (hs : P.underlying src = some (.slice e)) (he : P.underlying e = some (.int .u8)) (hd : P.underlying dst = some .string) :
    (convert src dst (.slice a 0 cap)).run P w = .ok (.string ⟨#[]⟩) w := by
  cases a with
  | none =>
    rw [run_convert_bytes_string w src dst e _ _ _ hs he hd]
    simp [Conv.bytesToString]
    rfl
  | some a => exact run_convert_bytes_back w src dst e a cap [] hs he hd fun j hj => by simp at hj
end Go.Proofs.YtljnbbdhmlfhjaaGreatDoor
