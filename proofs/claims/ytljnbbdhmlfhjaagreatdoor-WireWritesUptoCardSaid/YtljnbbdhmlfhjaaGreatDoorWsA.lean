/-
  The law WireSpaces: its walk.
-/
import Derived.Test.YtljnbbdhmlfhjaaGreatDoorWirTri
namespace Go.Proofs.YtljnbbdhmlfhjaaGreatDoor
open Go.RowKit
theorem tail_len {w : World} {v : Value} {Z : List RecL} {L : List Rec} (h : RRow w v Z) (hZ : Z.map Prod.fst = L) : ∃ a c, v = .slice a L.length c ∧ L.length ≤ c ∧ c ≤ maxLen := by
  obtain ⟨a, c, rfl, h1, h2⟩ := h.shape
  have e : L.length = Z.length := by rw [← hZ, List.length_map]
  rw [e]
  exact ⟨a, c, rfl, h1, h2⟩
/-- A record of a row, with its labels. -/
theorem rec_at {w : World} {a : Option Addr} {n c : Nat} {Z : List RecL} {Rs : List Rec} (h : RRow w (.slice a n c) Z) (hZ : Z.map Prod.fst = Rs) {k : Nat} (hk : k < Rs.length) :
    ∃ b off la lc, a = some ⟨b, off, none⟩ ∧ b < w.heap.size ∧ w.cell? ⟨b, off + k * 4, none⟩ = some (.int .i64 Rs[k].time) ∧ w.cell? ⟨b, off + k * 4 + 1, none⟩ = some (.int .u64 (Rs[k].seq : Int)) ∧
      w.cell? ⟨b, off + k * 4 + 2, none⟩ = some (.slice la Rs[k].labs.length lc) ∧ w.cell? ⟨b, off + k * 4 + 3, none⟩ = some (.string Rs[k].line) ∧ LRow w (.slice la Rs[k].labs.length lc) Rs[k].labs := by
  have hkz : k < Z.length := by rw [← hZ, List.length_map] at hk; exact hk
  have hz : Z[k].1 = Rs[k] := by
    have h1 : (Z.map Prod.fst)[k]? = some Z[k].1 := by rw [List.getElem?_map, List.getElem?_eq_getElem hkz]; rfl
    rw [hZ, List.getElem?_eq_getElem hk] at h1
    exact (Option.some.inj h1).symm
  obtain ⟨b, off, e, hb, c0, c1, c2, c3⟩ := h.at hkz
  have hL := (h.2 _ (List.getElem_mem hkz)).1
  obtain ⟨la, lc, hlv, -, -⟩ := hL.shape
  rw [hz] at c0 c1 c3 hL hlv
  rw [hlv] at c2 hL
  exact ⟨b, off, la, lc, e, hb, c0, c1, c2, c3, hL⟩
end Go.Proofs.YtljnbbdhmlfhjaaGreatDoor
