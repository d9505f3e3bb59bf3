/-
  The law JsonParts: its walk.
-/
import Derived.Test.YtljnbbdhmlfhjaaGreatDoorJnOne
import Derived.Test.YtljnbbdhmlfhjaaGreatDoorJnC
import Derived.Test.YtljnbbdhmlfhjaaGreatDoorJnTwo
import Derived.Test.YtljnbbdhmlfhjaaGreatDoorJnQ
import Derived.Lib.QuietBelow
namespace Go.Proofs.YtljnbbdhmlfhjaaGreatDoor
open Go.RowKit
def DSt (n : Int) (ds : ByteArray) (u : Int) : Prop := restD u ds.data.toList ++ ds.data.toList = Lib.decDigits n.natAbs
theorem dec_len (n : Int) (h0 : -9223372036854775808 ≤ n) (h1 : n ≤ 9223372036854775807) : (Lib.decDigits n.natAbs).length ≤ 21 := by
  obtain ⟨sg, e, -⟩ := itoa_parts n
  have := Lib.itoa_length_le n h0 h1
  rw [e, List.length_append] at this
  omega
theorem DSt.small {n : Int} {ds : ByteArray} {u : Int} (h : DSt n ds u) (h0 : -9223372036854775808 ≤ n) (h1 : n ≤ 9223372036854775807) : ds.size ≤ 21 := by
  have := dec_len n h0 h1
  unfold DSt at h
  rw [← h, List.length_append] at this
  have hz : ds.data.toList.length = ds.size := by simp [ByteArray.size_data]
  omega
theorem DSt.step {n : Int} {ds : ByteArray} {u : Int} {E : ByteArray} (h : DSt n ds u) (hu : u ≠ 0 ∨ ds.data.toList = []) (hE : E = ⟨#[UInt8.ofNat (48 + (u.tmod 10).natAbs)]⟩) : DSt n (E ++ ds) (u.tdiv 10) := by
  unfold DSt at h ⊢
  rw [rest_step u _ hu] at h
  rw [hE, ByteArray.data_append, Array.toList_append]
  simpa using h
end Go.Proofs.YtljnbbdhmlfhjaaGreatDoor
