/-
  Plain laws of labels: canonical lists, what is found in them, a label more; Compare is an order.
-/
import Derived.Test.YtaimldndooijdaaGreatDoorLabE
import Derived.Test.YtaimldndooijdaaGreatDoorLabH
namespace Go.Proofs.YtaimldndooijdaaGreatDoor

theorem canon_ok {L : List Lab} (h : canonE L = 0) : canonL L = insAll L ∧ Distinct L ∧ firstBad L = 0 ∧ L.length ≤ 16 := by
  have h' := h
  unfold canonE at h'
  split at h'
  · omega
  · split at h'
    · rename_i hb
      exact absurd h' hb
    · split at h'
      · rename_i h1 h2 h3
        exact ⟨by unfold canonL; rw [if_pos h], h3, by simpa using h2, by omega⟩
      · omega
theorem canonL_bad {L : List Lab} (h : canonE L ≠ 0) : canonL L = [] := by unfold canonL; rw [if_neg h]
end Go.Proofs.YtaimldndooijdaaGreatDoor
