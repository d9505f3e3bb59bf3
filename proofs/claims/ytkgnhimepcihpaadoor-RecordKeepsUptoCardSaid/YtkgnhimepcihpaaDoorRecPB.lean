/-
  Plain and small laws for RecordBack and RecordKeeps.
-/
import Derived.Test.YtkgnhimepcihpaaDoorRecPA
namespace Go.Proofs.YtkgnhimepcihpaaDoor
open Go.RowKit
theorem num_err {T : List UInt8} {E : Int} (h : num T = .error E) : E ≠ 0 := by
  unfold num at h
  split at h
  · cases h
  · rename_i h0
    cases h
    exact h0
theorem getAll_err {b : List UInt8} {E : Int} (h : getAll b = .error E) : E ≠ 0 := by
  have hl : ∀ k T E, repP recP k T = .error E → E ≠ 0 := fun k => by
    induction k with
    | zero => intro T E h; cases h
    | succ k ih =>
      intro T E h
      unfold repP at h
      split at h
      · rename_i F hF
        cases h
        exact rec_err hF
      · split at h
        · rename_i F hF
          cases h
          exact ih _ _ hF
        · cases h
  unfold getAll at h
  split at h
  · rename_i F hF
    cases h
    unfold batP cntP at hF
    split at hF
    · rename_i G hG
      cases hF
      exact num_err hG
    · split at hF
      · cases hF; decide
      · split at hF
        · rename_i G hG
          cases hF
          exact hl _ _ _ hG
        · cases hF
  · split at h
    · cases h; decide
    · cases h
theorem all_zero {b : List UInt8} (h : allE b = 0) : getAll b = .ok (allL b) := by
  unfold allE allL at *
  cases hb : getAll b with
  | error E =>
    rw [hb] at h
    exact absurd h (getAll_err hb)
  | ok l => rfl
theorem put_of {l : List Rec} {c : List UInt8} (h : putAll l = .ok c) : putE l = 0 ∧ putB l = c := by
  unfold putAll at h
  unfold putB putE
  split at h
  · cases h
  · rename_i h1
    rw [if_neg h1]
    split at h
    · cases h
    · rename_i h2
      have h3 : putBad l = 0 := Classical.byContradiction h2
      cases h
      exact ⟨h3, by rw [if_pos h3]⟩
theorem of_put {l : List Rec} (h : putE l = 0) : putAll l = .ok (putB l) := by
  unfold putB
  unfold putE at h ⊢
  unfold putAll
  split at h
  · cases h
  · rename_i h1
    rw [if_neg h1, if_neg h1, if_neg (by simp [h]), if_pos h]
theorem putB_bad {l : List Rec} (h : putE l ≠ 0) : putB l = [] := by unfold putB; rw [if_neg h]
theorem ok_in {r : Rec} (h : okRec r) : inRec r := ⟨h.1.1, h.1.2.1, h.1.2.2.1, h.1.2.2.2.1.2, h.1.2.2.2.2⟩
theorem putB_len {l : List Rec} (h : ∀ r ∈ l, inRec r) : (putB l).length ≤ 400000000 := by
  by_cases hE : putE l = 0
  · obtain ⟨e, h1, h2⟩ := putAll_ok h (of_put hE)
    rw [e]
    unfold wBat
    have := wRecs_small (l := l) (fun r hr => (h2 r hr).2) h
    have := vi_len l.length (by omega)
    rw [List.length_append]
    omega
  · rw [putB_bad hE]; simp
/-- string(b) of bytes that can be read. -/
theorem conv_arg {w : World} {v : Value} {b : List UInt8} (h : argRow w v b.length 1 (Lib.byteCells b)) : (convert 22 9 v).run Tryd.prog w = .ok (.string ⟨b.toArray⟩) w := by
  obtain ⟨hl, a, cap, rfl, h1, h2, hc⟩ := h
  by_cases h0 : b.length = 0
  · have : b = [] := List.eq_nil_of_length_eq_zero h0
    subst this
    exact conv_nil (P := Tryd.prog) (src := 22) (dst := 9) Tryd.underlying22 Tryd.underlying5 Tryd.underlying9
  · obtain ⟨b0, off, rfl, hb, hcs⟩ := hc (by omega)
    exact conv_cells (P := Tryd.prog) (src := 22) (dst := 9) Tryd.underlying22 Tryd.underlying5 Tryd.underlying9 (fun j hj => by rw [hcs j (by simp [Lib.byteCells]; omega)]; simp [Lib.byteCells])
theorem byteCells_take (b : List UInt8) (k : Nat) : Lib.byteCells (b.take k) = (Lib.byteCells b).take k := by simp [Lib.byteCells, List.map_take]
/-- c[:k] -/
theorem arg_take {w : World} {a : Option Addr} {n cap : Nat} {b : List UInt8} (h : argRow w (.slice a n cap) b.length 1 (Lib.byteCells b)) {k : Nat} (hk : k ≤ b.length) : argRow w (.slice a k cap) (b.take k).length 1 (Lib.byteCells (b.take k)) := by
  have hn : n = b.length := by
    obtain ⟨_, a', c', e, _⟩ := h
    exact (Value.slice.inj e).2.1
  subst hn
  have := argRow_take h hk
  rw [Nat.mul_one] at this
  rw [byteCells_take, List.length_take, Nat.min_eq_left hk]
  exact this
end Go.Proofs.YtkgnhimepcihpaaDoor
