/-
  A region that reads, whatever the order, ahead of a tail in one order.
-/
import Derived.Test.YtljnbbdhmlfhjaaDoorJsOne
import Derived.StillTailTactics
namespace Go.Proofs.YtljnbbdhmlfhjaaDoor
open Go.RowKit
theorem still_of_quietJ {P : Program} {ops : Array Oper} {w1 : World} {Q : Act → Prop} : ∀ (l : List Oper) (a : Act), wpQuiet P ops (fun w' => w' = w1) Q l a → wpStill P ops w1 Q l a
  | [], _, h => h
  | o :: l, a, h => by
    unfold wpQuiet at h
    unfold wpStill
    split at h
    · rename_i hw
      rw [if_pos hw]
      obtain ⟨v, hv, hn⟩ := h
      have h1 := hv w1 rfl
      unfold Oper.quietAt at h1
      unfold Oper.still
      have h2 := still_of_quietJ l _ hn
      generalize (execOp a.eval o).run P w1 = r at h1
      cases r with
      | halt x w' => exact h1.elim
      | ok nx w' =>
        cases nx with
        | value u =>
          obtain ⟨e1, e2⟩ := h1
          subst e2
          exact ⟨e1, h2⟩
        | skip =>
          obtain ⟨e1, e2⟩ := h1
          subst e2
          exact ⟨e1, h2⟩
        | enter f args =>
          obtain ⟨e1, hc⟩ := h1
          subst e1
          exact ⟨rfl, v, hc, h2⟩
        | _ => exact h1.elim
    · rename_i hw
      rw [if_neg hw]
      exact still_of_quietJ l _ h
/-- A region that reads, whatever the order, ahead of a tail in one order. -/
theorem wp_region_tailJ {P : Program} {id : Nat} {Q : Exit → Act → World → Prop} {a : Act} {w : World} {l : List Oper} (n : Nat) (hm : P.follows .mixedOrders = true) (hB : Region.lexTailB .any l.toArray n = true)
    (h : wpQuiet P l.toArray (fun w' => w' = w.drew) (fun a' => wpList P l.toArray Q (l.drop n) a' w.drew) (l.take n) a) : (Code.region id l.toArray true).wp P Q a w :=
  wp_region_still_tail n hm hB (still_of_quietJ _ _ h)
end Go.Proofs.YtljnbbdhmlfhjaaDoor
