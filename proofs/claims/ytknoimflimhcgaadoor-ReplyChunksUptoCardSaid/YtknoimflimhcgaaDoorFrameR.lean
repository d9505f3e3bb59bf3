/-
  The frame where five variables are listed: the tables of math/bits and of internal/strconv, and strconv's two errors (pointers in interfaces).
-/
import Derived.Test.YtknoimflimhcgaaDoorCards
import Derived.Test.YtknoimflimhcgaaDoorTie
import Derived.Test.YtknoimflimhcgaaDoorFrameN
import Derived.Test.YtknoimflimhcgaaDoorRepJ
import Derived.Lib.LaidU8
import Derived.Lib.LaidTab
import Derived.Deep.DeepWitnessRowRef
namespace Go.Proofs.YtknoimflimhcgaaDoor
open Go.ChangeShapes Go.WideShapes Go.ChangeAt Go.RowKit Go.Lib Go.Shelf

theorem tabIs_of_reads {P : Program} {W : World} {name : String} {k : IntKind} {zs : List Int} {g : Nat} {t e : TypeId} {n : Nat}
    (hg : P.globalNamed name = some g) (hty : (P.globals[g]?).map (·.type) = some t) (ht : P.underlying t = some (.array n e)) (he : P.underlying e = some (.int k)) (hce : P.cellsOf e = 1) (hct : P.cellsOf t = n)
    (h : VarReads P W name (tabData k zs)) : TabIs P W name k zs := by
  obtain ⟨g', t', cs, fuel, p, hg', ht', hvar, hd⟩ := h
  obtain rfl := Option.some.inj (hg.symm.trans hg')
  obtain rfl := Option.some.inj (hty.symm.trans ht')
  unfold TabIs
  rw [hvar, ← cells_of_tab ht he hce hct hd]
def db64 : List Int := [0, 1, 56, 2, 57, 49, 28, 3, 61, 58, 42, 50, 38, 29, 17, 4, 62, 47, 59, 36, 45, 43, 51, 22, 53, 39, 33, 30, 24, 18, 12, 5, 63, 55, 48, 27, 60, 41, 37, 16, 46, 35, 44, 21, 52, 32, 23, 11, 54, 26, 40, 15, 34, 20, 31, 10, 25, 14, 19, 9, 13, 8, 7, 6]
def db32 : List Int := [0, 1, 28, 2, 29, 14, 24, 3, 30, 22, 20, 15, 25, 17, 4, 8, 31, 27, 13, 23, 21, 19, 16, 7, 26, 12, 18, 6, 11, 5, 10, 9]
theorem tabs27_of {l : List (String × DataW Unit)} {W : World} (h1 : ("math/bits.deBruijn64tab", Rows.laid_math_bits_deBruijn64tab) ∈ l) (h2 : ("internal/strconv.uint64pow10", Rows.laid_internal_strconv_uint64pow10) ∈ l)
    (hn : (l.all fun x => x.2.handleName?.isNone) = true) (hL : laidMetH Tryd.prog l W) : Tabs27 W := by
  rw [MakeChecks.laidMetH_plain _ _ _ hn] at hL
  have r1 := Lib.laidMet.reads hL h1
  have r2 := Lib.laidMet.reads hL h2
  rw [show Rows.laid_math_bits_deBruijn64tab (H := Unit) = tabData .u8 db64 from by kernel_rfl] at r1
  rw [show Rows.laid_internal_strconv_uint64pow10 (H := Unit) = tabData .u64 pow10Tab from by kernel_rfl] at r2
  refine ⟨?_, tabBelow_of_tabIs (tabIs_of_reads (g := 2) (t := 79) (e := 52) (n := 20) (by kernel_rfl) (by kernel_rfl) (by kernel_rfl) (by kernel_rfl) (by kernel_rfl) (by kernel_rfl) r2)⟩
  exact (tabIs_of_reads (g := 4) (t := 90) (e := 5) (n := 64) (by kernel_rfl) (by kernel_rfl) (by kernel_rfl) (by kernel_rfl) (by kernel_rfl) (by kernel_rfl) r1).cell (by kernel_rfl) 15 (by decide)

/-- THE WITNESS's world: the settled one with two blocks more (the errors' structs), the five variables holding what their initialisers lay. -/
noncomputable def laidWorld27 (os : Os) : World :=
  let N := (World.settled Tryd.prog os).heap.size
  let w0 := World.holding Tryd.prog os ⟨#[.cells #[.string ⟨#[118, 97, 108, 117, 101, 32, 111, 117, 116, 32, 111, 102, 32, 114, 97, 110, 103, 101]⟩] 87, .cells #[.string ⟨#[105, 110, 118, 97, 108, 105, 100, 32, 115, 121, 110, 116, 97, 120]⟩] 87], #[], []⟩
  let put (h : Array Obj) (g : Nat) (cs : Array Value) : Array Obj := h.modify g fun
    | .cells _ t frozen => .cells cs t frozen
    | o => o
  let h1 := put w0.heap 1 #[.iface 85 (.pointer (some ⟨N, 0, none⟩))]
  let h2 := put h1 0 #[.iface 85 (.pointer (some ⟨N + 1, 0, none⟩))]
  let h3 := put h2 2 (pow10Tab.map fun z => Value.int .u64 z).toArray
  let h4 := put h3 3 (db32.map fun z => Value.int .u8 z).toArray
  let h5 := put h4 4 (db64.map fun z => Value.int .u8 z).toArray
  { w0 with heap := h5 }
noncomputable abbrev N0 : Nat := (World.settled Tryd.prog default).heap.size
end Go.Proofs.YtknoimflimhcgaaDoor
