/-
  The frame where seven variables are listed: the tables of math/bits, of internal/strconv and of unicode/utf8, and strconv's two errors.
-/
import Derived.Test.YtljnbbdhmlfhjaaGreatDoorCards
import Derived.Test.YtljnbbdhmlfhjaaGreatDoorTie
import Derived.Test.YtljnbbdhmlfhjaaGreatDoorFrame
import Derived.Lib.LaidU8
import Derived.Lib.LaidTab
import Derived.Deep.DeepWitnessRowRef
namespace Go.Proofs.YtljnbbdhmlfhjaaGreatDoor
open Go.ChangeShapes Go.WideShapes Go.ChangeAt Go.RowKit Go.Lib Go.Shelf
def db64J : List Int := [0, 1, 56, 2, 57, 49, 28, 3, 61, 58, 42, 50, 38, 29, 17, 4, 62, 47, 59, 36, 45, 43, 51, 22, 53, 39, 33, 30, 24, 18, 12, 5, 63, 55, 48, 27, 60, 41, 37, 16, 46, 35, 44, 21, 52, 32, 23, 11, 54, 26, 40, 15, 34, 20, 31, 10, 25, 14, 19, 9, 13, 8, 7, 6]
def db32J : List Int := [0, 1, 28, 2, 29, 14, 24, 3, 30, 22, 20, 15, 25, 17, 4, 8, 31, 27, 13, 23, 21, 19, 16, 7, 26, 12, 18, 6, 11, 5, 10, 9]
/-- THE WITNESS's world: the settled one with two blocks more (the errors' structs), the seven variables holding what their initialisers lay. -/
noncomputable def laidWorldJ (os : Os) : World :=
  let N := (World.settled Tryz.prog os).heap.size
  let w0 := World.holding Tryz.prog os ⟨#[.cells #[.string ⟨#[118, 97, 108, 117, 101, 32, 111, 117, 116, 32, 111, 102, 32, 114, 97, 110, 103, 101]⟩] 222, .cells #[.string ⟨#[105, 110, 118, 97, 108, 105, 100, 32, 115, 121, 110, 116, 97, 120]⟩] 222], #[], []⟩
  let put (h : Array Obj) (g : Nat) (cs : Array Value) : Array Obj := h.modify g fun
    | .cells _ t frozen => .cells cs t frozen
    | o => o
  let h1 := put w0.heap 3 #[.iface 220 (.pointer (some ⟨N, 0, none⟩))]
  let h2 := put h1 2 #[.iface 220 (.pointer (some ⟨N + 1, 0, none⟩))]
  let h3 := put h2 4 (pow10Tab.map fun z => Value.int .u64 z).toArray
  let h4 := put h3 6 (db32J.map fun z => Value.int .u8 z).toArray
  let h5 := put h4 7 (db64J.map fun z => Value.int .u8 z).toArray
  let h6 := put h5 0 (Lib.firstTab.map fun z => Value.int .u8 z).toArray
  let h7 := put h6 1 ((List.range 16).flatMap fun i => [Value.int .u8 (Lib.accLo i), Value.int .u8 (Lib.accHi i)]).toArray
  { w0 with heap := h7 }
noncomputable abbrev N0J : Nat := (World.settled Tryz.prog default).heap.size
end Go.Proofs.YtljnbbdhmlfhjaaGreatDoor
