/-
  Rows that can be read, wherever they lie: arguments and what a call owns alike.
-/
import Derived.Test.YtljnbbdhmlfhjaaGreatDoorKit
import Derived.Deep.AppendLies
import Derived.ProofKit
import Derived.OpenShut
namespace Go.Proofs.YtljnbbdhmlfhjaaGreatDoor
open Go.RowKit Go.ChangeShapes Go.WideShapes

/-- A row that can be read: n elements of so many cells each, at whatever place (nil too). -/
def argRow (w : World) (v : Value) (n size : Nat) (xs : List Value) : Prop :=
  xs.length = n * size ∧ ∃ a cap, v = .slice a n cap ∧ n ≤ cap ∧ cap ≤ maxLen ∧ (0 < n → ∃ b off, a = some ⟨b, off, none⟩ ∧ b < w.heap.size ∧ ∀ j (h : j < xs.length), w.cell? ⟨b, off + j, none⟩ = some xs[j])
theorem argRow_below {w w' : World} {v : Value} {n size : Nat} {xs : List Value} (h : argRow w v n size xs) (hb : Below w.heap.size w w') : argRow w' v n size xs := by
  obtain ⟨h1, a, cap, rfl, h2, h3, h4⟩ := h
  refine ⟨h1, a, cap, rfl, h2, h3, fun h0 => ?_⟩
  obtain ⟨b, off, rfl, hlt, hc⟩ := h4 h0
  exact ⟨b, off, rfl, Nat.lt_of_lt_of_le hlt hb.size, fun j hj => by rw [hb.cell (p := ⟨b, off + j, none⟩) hlt]; exact hc j hj⟩
theorem argRow_owns {w : World} {B : Nat} {e : TypeId} {v : Value} {n size : Nat} {xs : List Value} (h : w.ownsRow B e size v n xs) : argRow w v n size xs := by
  refine ⟨h.1, ?_⟩
  rcases h.2 with ⟨rfl, rfl⟩ | ⟨g, cap, cur, rfl, hB, hg, hn, hc, hs, ht⟩
  · exact ⟨_, _, rfl, Nat.le_refl _, Nat.zero_le _, fun h => by omega⟩
  · refine ⟨_, _, rfl, hn, hc, fun _ => ⟨g, 0, rfl, (Array.getElem?_eq_some_iff.1 hg).1, fun j hj => ?_⟩⟩
    have := h.cells (g := g) rfl j xs[j] (List.getElem?_eq_getElem hj)
    have hadd : (⟨g, 0, none⟩ : Addr).add j = ⟨g, j, none⟩ := by unfold Addr.add; split <;> simp_all
    rw [hadd] at this
    rw [Nat.zero_add]
    exact this
/-- string(b[i:j]), wherever the bytes lie. -/
theorem conv_cells {P : Program} {w : World} {src dst e : TypeId} {g off cap : Nat} {l : List UInt8} (hs : P.underlying src = some (.slice e)) (he : P.underlying e = some (.int .u8)) (hd : P.underlying dst = some .string)
    (hc : ∀ j (h : j < l.length), w.cell? ⟨g, off + j, none⟩ = some (.int .u8 (l[j].toNat : Int))) : (convert src dst (.slice (some ⟨g, off, none⟩) l.length cap)).run P w = .ok (.string ⟨l.toArray⟩) w :=
  run_convert_bytes_back w src dst e ⟨g, off, none⟩ cap l hs he hd fun j hj => by rw [add_plain]; exact hc j hj
theorem conv_nil {P : Program} {w : World} {src dst e : TypeId} {a : Option Addr} {cap : Nat} (hs : P.underlying src = some (.slice e)) (he : P.underlying e = some (.int .u8)) (hd : P.underlying dst = some .string) :
    (convert src dst (.slice a 0 cap)).run P w = .ok (.string ⟨#[]⟩) w := by
  cases a with
  | none =>
    rw [run_convert_bytes_string w src dst e _ _ _ hs he hd]
    simp [Conv.bytesToString]
    rfl
  | some a => exact run_convert_bytes_back w src dst e a cap [] hs he hd fun j hj => by simp at hj
end Go.Proofs.YtljnbbdhmlfhjaaGreatDoor
