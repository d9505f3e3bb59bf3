/-
  The law's form of a text: Parse, then Write.
-/
import Derived.Test.YtljnbbdhmlfhjaaGreatDoorWTwo
import Derived.Test.YtljnbbdhmlfhjaaGreatDoorJsM
import Derived.Test.YtljnbbdhmlfhjaaGreatDoorJsnAll
namespace Go.Proofs.YtljnbbdhmlfhjaaGreatDoor
open Go.RowKit
end Go.Proofs.YtljnbbdhmlfhjaaGreatDoor
/-
  awake, of layer 22.
-/
namespace Go.Proofs.YtljnbbdhmlfhjaaGreatDoor
open Go.RowKit
end Go.Proofs.YtljnbbdhmlfhjaaGreatDoor
/-
  The law JsonBack.
-/
namespace Go.Proofs.YtljnbbdhmlfhjaaGreatDoor
open Go.RowKit
end Go.Proofs.YtljnbbdhmlfhjaaGreatDoor
/-
  The law JsonDeep: values within one another in memory.
-/
namespace Go.Proofs.YtljnbbdhmlfhjaaGreatDoor
open Go.RowKit
theorem rep_obj {lo : Nat} {W : World} {j : J} {v : Value} (n : Bs) (hlo : lo ≤ W.heap.size) (h : RepJ W (Nw lo W) j v) : RepJ (W.alloc (.cells #[.string ⟨n.toArray⟩, v] 93)) (Nw lo (W.alloc (.cells #[.string ⟨n.toArray⟩, v] 93))) (.obj [(n, j)]) (.iface 79 (.slice (some ⟨W.heap.size, 0, none⟩) 1 1)) := by
  have ho := World.ownsRow_lit (base := lo) (e := 93) (size := 2) W #[.string ⟨n.toArray⟩, v] 1 hlo (by decide) rfl
  refine ⟨_, [.string ⟨n.toArray⟩, v], rfl, rowS_own ho, v, [], rfl, RepJ.to (fun k hk => ⟨⟨hk.1, by have := hk.2; simp; omega⟩, fun hk2 => heap_alloc_old W _ hk2⟩) j v h, rfl⟩
end Go.Proofs.YtljnbbdhmlfhjaaGreatDoor
