/-
  Rows that can be read, wherever they lie: arguments and what a call owns alike.
-/
import Derived.Test.YtaimldndooijdaaGreatDoorKit
import Derived.Deep.AppendLies
import Derived.ProofKit
import Derived.OpenShut
namespace Go.Proofs.YtaimldndooijdaaGreatDoor
open Go.RowKit Go.ChangeShapes Go.WideShapes

/-- A row that can be read: n elements of so many cells each, at whatever place (nil too). -/
def argRow (w : World) (v : Value) (n size : Nat) (xs : List Value) : Prop :=
  xs.length = n * size ∧ ∃ a cap, v = .slice a n cap ∧ n ≤ cap ∧ cap ≤ maxLen ∧ (0 < n → ∃ b off, a = some ⟨b, off, none⟩ ∧ b < w.heap.size ∧ ∀ j (h : j < xs.length), w.cell? ⟨b, off + j, none⟩ = some xs[j])
theorem argRow_below {w w' : World} {v : Value} {n size : Nat} {xs : List Value} (h : argRow w v n size xs) (hb : Below w.heap.size w w') : argRow w' v n size xs := by
  obtain ⟨h1, a, cap, rfl, h2, h3, h4⟩ := h
  refine ⟨h1, a, cap, rfl, h2, h3, fun h0 => ?_⟩
  obtain ⟨b, off, rfl, hlt, hc⟩ := h4 h0
  exact ⟨b, off, rfl, Nat.lt_of_lt_of_le hlt hb.size, fun j hj => by rw [hb.cell (p := ⟨b, off + j, none⟩) hlt]; exact hc j hj⟩
theorem argRow_owns {w : World} {B : Nat} {e : TypeId} {v : Value} {n size : Nat} {xs : List Value} (h : w.ownsRow B e size v n xs) : argRow w v n size xs := by
  refine ⟨h.1, ?_⟩
  rcases h.2 with ⟨rfl, rfl⟩ | ⟨g, cap, cur, rfl, hB, hg, hn, hc, hs, ht⟩
  · exact ⟨_, _, rfl, Nat.le_refl _, Nat.zero_le _, fun h => by omega⟩
  · refine ⟨_, _, rfl, hn, hc, fun _ => ⟨g, 0, rfl, (Array.getElem?_eq_some_iff.1 hg).1, fun j hj => ?_⟩⟩
    have := h.cells (g := g) rfl j xs[j] (List.getElem?_eq_getElem hj)
    have hadd : (⟨g, 0, none⟩ : Addr).add j = ⟨g, j, none⟩ := by unfold Addr.add; split <;> simp_all
    rw [hadd] at this
    rw [Nat.zero_add]
    exact this
end Go.Proofs.YtaimldndooijdaaGreatDoor
