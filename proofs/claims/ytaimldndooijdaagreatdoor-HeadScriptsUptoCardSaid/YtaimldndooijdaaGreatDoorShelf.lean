/-
  DERIVED: THE SHELF's CONTRACTS AT THIS DUMP, IN PLAIN WORDS (tools/lay-plain.mjs out of 'TryzShelf.lean', which tools/lay-shelf.mjs wrote): THE SAME DECLARATIONS UNDER THE SAME NAMES: 'import', 'namespace', 'open', 'def', 'theorem' AND NOTHING ELSE: no command of the shelf's: FOR A HAND-IN. Each laying: the table of numbers ('.._ren') and one theorem, a field a fact of the dump's own or the kernel's comparison; each contract: ONE APPLICATION.
-/
import Derived.Shelf.SlSortCmp.NoneTotal
import Derived.Ground.SlsfProg
import Derived.Shelf.Unicode.ValidAny
import Derived.Shelf.Spec.SlicesGrow
import Derived.Ground.Names8Prog
import Derived.Shelf.Small.Utf8
import Derived.Shelf.Small.Bits
import Derived.Shelf.Strconv.Itoa0
import Derived.Shelf.Sort.Plain
import Derived.Shelf.Slices.CompactS
import Derived.Shelf.Slices.Cells
import Derived.Shelf.Slices.In.SortNone
import Derived.Ground.SlgnProg
import Derived.Shelf.SlicesE.Clone
import Derived.Test.YtaimldndooijdaaGreatDoorProg
namespace Go.Proofs
open Go.Shelf
def Tryz.laysValid_ren : Go.Shelf.Ren := ⟨fun | 196 => 57 | 259 => 88 | n => n, fun | 9 => 9 | 4 => 4 | 3 => 3 | 5 => 5 | 12 => 12 | 119 => 121 | 0 => 0 | 46 => 77 | 139 => 124 | 138 => 123 | 53 => 44 | n => n, fun | 3 => 0 | 4 => 1 | n => n⟩
theorem Tryz.laysValid : Go.Proofs.Lays.n196 Tryz.prog Tryz.laysValid_ren := {
  mixed := by kernel_rfl
  f196 := Tryz.func57.trans (congrArg some (by kernel_rfl))
  f259 := Tryz.func88.trans (congrArg some (by kernel_rfl))
  t0 := Tryz.underlying0
  a0 := Tryz.isAgg0
  z0 := Tryz.sizeOf0
  v0 := Tryz.zeroValue0
  t3 := Tryz.underlying3
  a3 := Tryz.isAgg3
  z3 := Tryz.sizeOf3
  v3 := Tryz.zeroValue3
  t4 := Tryz.underlying4
  a4 := Tryz.isAgg4
  z4 := Tryz.sizeOf4
  v4 := Tryz.zeroValue4
  t5 := Tryz.underlying5
  a5 := Tryz.isAgg5
  z5 := Tryz.sizeOf5
  v5 := Tryz.zeroValue5
  t9 := Tryz.underlying9
  a9 := Tryz.isAgg9
  z9 := Tryz.sizeOf9
  v9 := Tryz.zeroValue9
  t12 := Tryz.underlying12
  a12 := Tryz.isAgg12
  z12 := Tryz.sizeOf12
  v12 := Tryz.zeroValue12
  t46 := Tryz.underlying77
  a46 := Tryz.isAgg77
  z46 := Tryz.sizeOf77
  v46 := Tryz.zeroValue77
  t53 := Tryz.underlying44
  a53 := Tryz.isAgg44
  z53 := Tryz.sizeOf44
  v53 := Tryz.zeroValue44
  t119 := Tryz.underlying121
  a119 := Tryz.isAgg121
  z119 := Tryz.sizeOf121
  t138 := Tryz.underlying123
  a138 := Tryz.isAgg123
  z138 := Tryz.sizeOf123
  v138 := Tryz.zeroValue123
  t139 := Tryz.underlying124
  a139 := Tryz.isAgg124
  z139 := Tryz.sizeOf124
  v139 := Tryz.zeroValue124
  g3 := by kernel_rfl
  g4 := by kernel_rfl }
def Tryz.sortLab_ren : Go.Shelf.Ren := ⟨fun | 6 => 54 | 15 => 42 | 14 => 86 | 28 => 66 | 29 => 67 | 20 => 101 | 21 => 102 | 22 => 103 | 23 => 104 | 24 => 105 | 25 => 106 | 26 => 107 | 27 => 108 | 46 => 111 | 47 => 90 | 48 => 91 | 49 => 112 | 50 => 113 | 57 => 114 | n => n, fun | 22 => 45 | 24 => 62 | 25 => 91 | 3 => 3 | 39 => 77 | 0 => 0 | 53 => 101 | 55 => 44 | 4 => 4 | 46 => 94 | 45 => 93 | 50 => 98 | 5 => 5 | 9 => 9 | 66 => 125 | 70 => 129 | 76 => 140 | 77 => 141 | n => n, fun | n => n⟩
theorem Tryz.sortLab : Go.Proofs.SlLaysF0.n6 Tryz.prog Tryz.sortLab_ren := {
  mixed := by kernel_rfl
  f6 := ⟨Tryz.f54.name, by decide, Tryz.func54.trans (congrArg some (by kernel_rfl))⟩
  f14 := ⟨Tryz.f86.name, by decide, Tryz.func86.trans (congrArg some (by kernel_rfl))⟩
  f15 := Tryz.func42.trans (congrArg some (by kernel_rfl))
  f20 := ⟨Tryz.f101.name, by decide, Tryz.func101.trans (congrArg some (by kernel_rfl))⟩
  f21 := ⟨Tryz.f102.name, by decide, Tryz.func102.trans (congrArg some (by kernel_rfl))⟩
  f22 := ⟨Tryz.f103.name, by decide, Tryz.func103.trans (congrArg some (by kernel_rfl))⟩
  f23 := ⟨Tryz.f104.name, by decide, Tryz.func104.trans (congrArg some (by kernel_rfl))⟩
  f24 := ⟨Tryz.f105.name, by decide, Tryz.func105.trans (congrArg some (by kernel_rfl))⟩
  f25 := ⟨Tryz.f106.name, by decide, Tryz.func106.trans (congrArg some (by kernel_rfl))⟩
  f26 := ⟨Tryz.f107.name, by decide, Tryz.func107.trans (congrArg some (by kernel_rfl))⟩
  f27 := ⟨Tryz.f108.name, by decide, Tryz.func108.trans (congrArg some (by kernel_rfl))⟩
  f28 := Tryz.func66.trans (congrArg some (by kernel_rfl))
  f29 := Tryz.func67.trans (congrArg some (by kernel_rfl))
  f46 := ⟨Tryz.f111.name, by decide, Tryz.func111.trans (congrArg some (by kernel_rfl))⟩
  f47 := Tryz.func90.trans (congrArg some (by kernel_rfl))
  f48 := Tryz.func91.trans (congrArg some (by kernel_rfl))
  f49 := ⟨Tryz.f112.name, by decide, Tryz.func112.trans (congrArg some (by kernel_rfl))⟩
  f50 := ⟨Tryz.f113.name, by decide, Tryz.func113.trans (congrArg some (by kernel_rfl))⟩
  f57 := ⟨Tryz.f114.name, by decide, Tryz.func114.trans (congrArg some (by kernel_rfl))⟩
  t0 := Tryz.underlying0
  a0 := Tryz.isAgg0
  z0 := Tryz.sizeOf0
  v0 := Tryz.zeroValue0
  t3 := Tryz.underlying3
  a3 := Tryz.isAgg3
  z3 := Tryz.sizeOf3
  v3 := Tryz.zeroValue3
  t4 := Tryz.underlying4
  a4 := Tryz.isAgg4
  z4 := Tryz.sizeOf4
  v4 := Tryz.zeroValue4
  t5 := Tryz.underlying5
  a5 := Tryz.isAgg5
  z5 := Tryz.sizeOf5
  v5 := Tryz.zeroValue5
  t9 := Tryz.underlying9
  a9 := Tryz.isAgg9
  z9 := Tryz.sizeOf9
  v9 := Tryz.zeroValue9
  t22 := Tryz.underlying45
  a22 := Tryz.isAgg45
  z22 := Tryz.sizeOf45
  v22 := Tryz.zeroValue45
  t25 := Tryz.underlying91
  a25 := Tryz.isAgg91
  z25 := Tryz.sizeOf91
  v25 := Tryz.zeroValue91
  t39 := Tryz.underlying77
  a39 := Tryz.isAgg77
  z39 := Tryz.sizeOf77
  v39 := Tryz.zeroValue77
  t45 := Tryz.underlying93
  a45 := Tryz.isAgg93
  z45 := Tryz.sizeOf93
  v45 := Tryz.zeroValue93
  t46 := Tryz.underlying94
  a46 := Tryz.isAgg94
  z46 := Tryz.sizeOf94
  v46 := Tryz.zeroValue94
  t50 := Tryz.underlying98
  a50 := Tryz.isAgg98
  z50 := Tryz.sizeOf98
  v50 := Tryz.zeroValue98
  t53 := Tryz.underlying101
  a53 := Tryz.isAgg101
  z53 := Tryz.sizeOf101
  v53 := Tryz.zeroValue101
  t55 := Tryz.underlying44
  a55 := Tryz.isAgg44
  z55 := Tryz.sizeOf44
  v55 := Tryz.zeroValue44
  t66 := Tryz.underlying125
  a66 := Tryz.isAgg125
  z66 := Tryz.sizeOf125
  v66 := Tryz.zeroValue125
  t70 := Tryz.underlying129
  a70 := Tryz.isAgg129
  z70 := Tryz.sizeOf129
  v70 := Tryz.zeroValue129
  t76 := Tryz.underlying140
  a76 := Tryz.isAgg140
  z76 := Tryz.sizeOf140
  v76 := Tryz.zeroValue140
  t77 := Tryz.underlying141
  a77 := Tryz.isAgg141
  z77 := Tryz.sizeOf141
  v77 := Tryz.zeroValue141 }
def Tryz.sortRec_ren : Go.Shelf.Ren := ⟨fun | 6 => 25 | 15 => 42 | 14 => 41 | 28 => 66 | 29 => 67 | 20 => 58 | 21 => 59 | 22 => 60 | 23 => 61 | 24 => 62 | 25 => 63 | 26 => 64 | 27 => 65 | 46 => 89 | 47 => 90 | 48 => 91 | 49 => 92 | 50 => 93 | 57 => 109 | n => n, fun | 22 => 28 | 24 => 47 | 25 => 59 | 3 => 3 | 39 => 77 | 0 => 0 | 53 => 101 | 55 => 44 | 4 => 4 | 46 => 94 | 45 => 93 | 50 => 98 | 5 => 5 | 9 => 9 | 66 => 125 | 70 => 129 | 76 => 140 | 77 => 141 | n => n, fun | n => n⟩
theorem Tryz.sortRec : Go.Proofs.SlLaysF0.n6 Tryz.prog Tryz.sortRec_ren := {
  mixed := by kernel_rfl
  f6 := ⟨Tryz.f25.name, by decide, Tryz.func25.trans (congrArg some (by kernel_rfl))⟩
  f14 := ⟨Tryz.f41.name, by decide, Tryz.func41.trans (congrArg some (by kernel_rfl))⟩
  f15 := Tryz.func42.trans (congrArg some (by kernel_rfl))
  f20 := ⟨Tryz.f58.name, by decide, Tryz.func58.trans (congrArg some (by kernel_rfl))⟩
  f21 := ⟨Tryz.f59.name, by decide, Tryz.func59.trans (congrArg some (by kernel_rfl))⟩
  f22 := ⟨Tryz.f60.name, by decide, Tryz.func60.trans (congrArg some (by kernel_rfl))⟩
  f23 := ⟨Tryz.f61.name, by decide, Tryz.func61.trans (congrArg some (by kernel_rfl))⟩
  f24 := ⟨Tryz.f62.name, by decide, Tryz.func62.trans (congrArg some (by kernel_rfl))⟩
  f25 := ⟨Tryz.f63.name, by decide, Tryz.func63.trans (congrArg some (by kernel_rfl))⟩
  f26 := ⟨Tryz.f64.name, by decide, Tryz.func64.trans (congrArg some (by kernel_rfl))⟩
  f27 := ⟨Tryz.f65.name, by decide, Tryz.func65.trans (congrArg some (by kernel_rfl))⟩
  f28 := Tryz.func66.trans (congrArg some (by kernel_rfl))
  f29 := Tryz.func67.trans (congrArg some (by kernel_rfl))
  f46 := ⟨Tryz.f89.name, by decide, Tryz.func89.trans (congrArg some (by kernel_rfl))⟩
  f47 := Tryz.func90.trans (congrArg some (by kernel_rfl))
  f48 := Tryz.func91.trans (congrArg some (by kernel_rfl))
  f49 := ⟨Tryz.f92.name, by decide, Tryz.func92.trans (congrArg some (by kernel_rfl))⟩
  f50 := ⟨Tryz.f93.name, by decide, Tryz.func93.trans (congrArg some (by kernel_rfl))⟩
  f57 := ⟨Tryz.f109.name, by decide, Tryz.func109.trans (congrArg some (by kernel_rfl))⟩
  t0 := Tryz.underlying0
  a0 := Tryz.isAgg0
  z0 := Tryz.sizeOf0
  v0 := Tryz.zeroValue0
  t3 := Tryz.underlying3
  a3 := Tryz.isAgg3
  z3 := Tryz.sizeOf3
  v3 := Tryz.zeroValue3
  t4 := Tryz.underlying4
  a4 := Tryz.isAgg4
  z4 := Tryz.sizeOf4
  v4 := Tryz.zeroValue4
  t5 := Tryz.underlying5
  a5 := Tryz.isAgg5
  z5 := Tryz.sizeOf5
  v5 := Tryz.zeroValue5
  t9 := Tryz.underlying9
  a9 := Tryz.isAgg9
  z9 := Tryz.sizeOf9
  v9 := Tryz.zeroValue9
  t22 := Tryz.underlying28
  a22 := Tryz.isAgg28
  z22 := Tryz.sizeOf28
  v22 := Tryz.zeroValue28
  t25 := Tryz.underlying59
  a25 := Tryz.isAgg59
  z25 := Tryz.sizeOf59
  v25 := Tryz.zeroValue59
  t39 := Tryz.underlying77
  a39 := Tryz.isAgg77
  z39 := Tryz.sizeOf77
  v39 := Tryz.zeroValue77
  t45 := Tryz.underlying93
  a45 := Tryz.isAgg93
  z45 := Tryz.sizeOf93
  v45 := Tryz.zeroValue93
  t46 := Tryz.underlying94
  a46 := Tryz.isAgg94
  z46 := Tryz.sizeOf94
  v46 := Tryz.zeroValue94
  t50 := Tryz.underlying98
  a50 := Tryz.isAgg98
  z50 := Tryz.sizeOf98
  v50 := Tryz.zeroValue98
  t53 := Tryz.underlying101
  a53 := Tryz.isAgg101
  z53 := Tryz.sizeOf101
  v53 := Tryz.zeroValue101
  t55 := Tryz.underlying44
  a55 := Tryz.isAgg44
  z55 := Tryz.sizeOf44
  v55 := Tryz.zeroValue44
  t66 := Tryz.underlying125
  a66 := Tryz.isAgg125
  z66 := Tryz.sizeOf125
  v66 := Tryz.zeroValue125
  t70 := Tryz.underlying129
  a70 := Tryz.isAgg129
  z70 := Tryz.sizeOf129
  v70 := Tryz.zeroValue129
  t76 := Tryz.underlying140
  a76 := Tryz.isAgg140
  z76 := Tryz.sizeOf140
  v76 := Tryz.zeroValue140
  t77 := Tryz.underlying141
  a77 := Tryz.isAgg141
  z77 := Tryz.sizeOf141
  v77 := Tryz.zeroValue141 }
def Tryz.growRec_ren : Go.Shelf.Ren := ⟨fun | 4 => 39 | n => n, fun | 22 => 28 | 25 => 47 | 3 => 3 | 4 => 4 | 9 => 9 | 20 => 20 | 0 => 0 | n => n, fun | n => n⟩
theorem Tryz.growRec : Go.Proofs.Lays8.n4 Tryz.prog Tryz.growRec_ren := {
  mixed := by kernel_rfl
  f4 := ⟨Tryz.f39.name, by decide, Tryz.func39.trans (congrArg some (by kernel_rfl))⟩
  t0 := Tryz.underlying0
  a0 := Tryz.isAgg0
  z0 := Tryz.sizeOf0
  v0 := Tryz.zeroValue0
  t3 := Tryz.underlying3
  a3 := Tryz.isAgg3
  z3 := Tryz.sizeOf3
  v3 := Tryz.zeroValue3
  t4 := Tryz.underlying4
  a4 := Tryz.isAgg4
  z4 := Tryz.sizeOf4
  v4 := Tryz.zeroValue4
  t9 := Tryz.underlying9
  a9 := Tryz.isAgg9
  z9 := Tryz.sizeOf9
  v9 := Tryz.zeroValue9
  t20 := Tryz.underlying20
  a20 := Tryz.isAgg20
  z20 := Tryz.sizeOf20
  v20 := Tryz.zeroValue20
  t22 := Tryz.underlying28
  a22 := Tryz.isAgg28
  z22 := Tryz.sizeOf28
  v22 := Tryz.zeroValue28 }
def Tryz.lays119_ren : Go.Shelf.Ren := ⟨fun | 119 => 97 | n => n, fun | 21 => 21 | 4 => 4 | n => n, fun | n => n⟩
theorem Tryz.lays119 : Go.Proofs.Lays.n119 Tryz.prog Tryz.lays119_ren := {
  mixed := by kernel_rfl
  f119 := Tryz.func97.trans (congrArg some (by kernel_rfl))
  t4 := Tryz.underlying4
  a4 := Tryz.isAgg4
  z4 := Tryz.sizeOf4
  v4 := Tryz.zeroValue4
  t21 := Tryz.underlying21
  a21 := Tryz.isAgg21
  z21 := Tryz.sizeOf21
  v21 := Tryz.zeroValue21 }
/-- utf8.ValidRune: "ValidRune reports whether r can be legally encoded as UTF-8. Code points that are out of range or a surrogate half are illegal.": IT RETURNS 'Lib.validRune r'; the world is as it was. (LAID: no walk: one application.) -/
theorem Tryz.utf8_ValidRune (r : Int) (w : World) :
    Calls Tryz.prog 97 #[.int .i32 r] w fun e w' => e = .returned (.bool (Lib.validRune r)) ∧ w' = w := Any.utf8_ValidRune Tryz.lays119 r w
def Tryz.lays128_ren : Go.Shelf.Ren := ⟨fun | 128 => 66 | n => n, fun | 51 => 101 | 3 => 3 | 4 => 4 | 46 => 77 | 5 => 5 | 9 => 9 | n => n, fun | n => n⟩
theorem Tryz.lays128 : Go.Proofs.Lays.n128 Tryz.prog Tryz.lays128_ren := {
  mixed := by kernel_rfl
  f128 := Tryz.func66.trans (congrArg some (by kernel_rfl))
  t3 := Tryz.underlying3
  a3 := Tryz.isAgg3
  z3 := Tryz.sizeOf3
  v3 := Tryz.zeroValue3
  t4 := Tryz.underlying4
  a4 := Tryz.isAgg4
  z4 := Tryz.sizeOf4
  v4 := Tryz.zeroValue4
  t5 := Tryz.underlying5
  a5 := Tryz.isAgg5
  z5 := Tryz.sizeOf5
  v5 := Tryz.zeroValue5
  t9 := Tryz.underlying9
  a9 := Tryz.isAgg9
  z9 := Tryz.sizeOf9
  v9 := Tryz.zeroValue9
  t46 := Tryz.underlying77
  a46 := Tryz.isAgg77
  z46 := Tryz.sizeOf77
  v46 := Tryz.zeroValue77
  t51 := Tryz.underlying101
  a51 := Tryz.isAgg101
  z51 := Tryz.sizeOf101
  v51 := Tryz.zeroValue101 }
/-- bits.Len32: "Len32 returns the minimum number of bits required to represent x; the result is 0 for x == 0.": IT RETURNS 'Lib.bitLen x'; the world is as it was. ('h0', 'h1': x is a uint32.) (LAID: no walk: one application.) -/
theorem Tryz.bits_Len32 (x : Int) (w : World) (h0 : 0 ≤ x) (h1 : x ≤ 4294967295) :
    Calls Tryz.prog 66 #[.int .u32 x] w fun e w' => e = .returned (.int .i64 (Lib.bitLen x.toNat)) ∧ w' = w := Any.bits_Len32 Tryz.lays128 x w h0 h1
def Tryz.lays125_ren : Go.Shelf.Ren := ⟨fun | 125 => 42 | 128 => 66 | 129 => 67 | n => n, fun | 46 => 77 | 3 => 3 | 51 => 101 | 53 => 44 | 4 => 4 | 5 => 5 | 9 => 9 | n => n, fun | n => n⟩
theorem Tryz.lays125 : Go.Proofs.Lays.n125 Tryz.prog Tryz.lays125_ren := {
  mixed := by kernel_rfl
  f125 := Tryz.func42.trans (congrArg some (by kernel_rfl))
  f128 := Tryz.func66.trans (congrArg some (by kernel_rfl))
  f129 := Tryz.func67.trans (congrArg some (by kernel_rfl))
  t3 := Tryz.underlying3
  a3 := Tryz.isAgg3
  z3 := Tryz.sizeOf3
  v3 := Tryz.zeroValue3
  t4 := Tryz.underlying4
  a4 := Tryz.isAgg4
  z4 := Tryz.sizeOf4
  v4 := Tryz.zeroValue4
  t5 := Tryz.underlying5
  a5 := Tryz.isAgg5
  z5 := Tryz.sizeOf5
  v5 := Tryz.zeroValue5
  t9 := Tryz.underlying9
  a9 := Tryz.isAgg9
  z9 := Tryz.sizeOf9
  v9 := Tryz.zeroValue9
  t46 := Tryz.underlying77
  a46 := Tryz.isAgg77
  z46 := Tryz.sizeOf77
  v46 := Tryz.zeroValue77
  t51 := Tryz.underlying101
  a51 := Tryz.isAgg101
  z51 := Tryz.sizeOf101
  v51 := Tryz.zeroValue101
  t53 := Tryz.underlying44
  a53 := Tryz.isAgg44
  z53 := Tryz.sizeOf44
  v53 := Tryz.zeroValue44 }
/-- bits.Len: "Len returns the minimum number of bits required to represent x; the result is 0 for x == 0.": IT RETURNS 'Lib.bitLen x'; the world is as it was. (A uint has 64 bits in the model.) ITS CALLEE bits.Len64 IS MET BY ITS OWN CONTRACT OFF THE SHELF (lay that first). (LAID: no walk: one application.) -/
theorem Tryz.bits_Len (x : Int) (w : World) (h0 : 0 ≤ x) (h1 : x ≤ 18446744073709551615) :
    Calls Tryz.prog 42 #[.int .u64 x] w fun e w' => e = .returned (.int .i64 (Lib.bitLen x.toNat)) ∧ w' = w := Any.bits_Len Tryz.lays125 x w h0 h1
def Tryz.lays129_ren : Go.Shelf.Ren := ⟨fun | 129 => 67 | n => n, fun | 53 => 44 | 3 => 3 | 4 => 4 | 46 => 77 | 5 => 5 | 9 => 9 | n => n, fun | n => n⟩
theorem Tryz.lays129 : Go.Proofs.Lays.n129 Tryz.prog Tryz.lays129_ren := {
  mixed := by kernel_rfl
  f129 := Tryz.func67.trans (congrArg some (by kernel_rfl))
  t3 := Tryz.underlying3
  a3 := Tryz.isAgg3
  z3 := Tryz.sizeOf3
  v3 := Tryz.zeroValue3
  t4 := Tryz.underlying4
  a4 := Tryz.isAgg4
  z4 := Tryz.sizeOf4
  v4 := Tryz.zeroValue4
  t5 := Tryz.underlying5
  a5 := Tryz.isAgg5
  z5 := Tryz.sizeOf5
  v5 := Tryz.zeroValue5
  t9 := Tryz.underlying9
  a9 := Tryz.isAgg9
  z9 := Tryz.sizeOf9
  v9 := Tryz.zeroValue9
  t46 := Tryz.underlying77
  a46 := Tryz.isAgg77
  z46 := Tryz.sizeOf77
  v46 := Tryz.zeroValue77
  t53 := Tryz.underlying44
  a53 := Tryz.isAgg44
  z53 := Tryz.sizeOf44
  v53 := Tryz.zeroValue44 }
/-- bits.Len64: "Len64 returns the minimum number of bits required to represent x; the result is 0 for x == 0.": IT RETURNS 'Lib.bitLen x'; the world is as it was. ('h0', 'h1': x is a uint64.) (LAID: no walk: one application.) -/
theorem Tryz.bits_Len64 (x : Int) (w : World) (h0 : 0 ≤ x) (h1 : x ≤ 18446744073709551615) :
    Calls Tryz.prog 67 #[.int .u64 x] w fun e w' => e = .returned (.int .i64 (Lib.bitLen x.toNat)) ∧ w' = w := Any.bits_Len64 Tryz.lays129 x w h0 h1
def Tryz.lays190_ren : Go.Shelf.Ren := ⟨fun | 190 => 34 | 125 => 42 | 258 => 52 | 128 => 66 | 129 => 67 | 302 => 77 | 303 => 78 | 304 => 79 | 305 => 80 | 306 => 81 | 307 => 82 | 308 => 83 | 309 => 84 | 310 => 85 | 333 => 98 | 329 => 90 | 330 => 91 | 334 => 99 | 335 => 100 | 336 => 87 | 344 => 110 | n => n, fun | 31 => 49 | 9 => 9 | 3 => 3 | 46 => 77 | 0 => 0 | 51 => 101 | 53 => 44 | 4 => 4 | 183 => 94 | 182 => 93 | 131 => 98 | 5 => 5 | 218 => 125 | 222 => 129 | 228 => 140 | 229 => 141 | n => n, fun | n => n⟩
theorem Tryz.lays190 : Go.Proofs.Lays.n190 Tryz.prog Tryz.lays190_ren := {
  mixed := by kernel_rfl
  f125 := Tryz.func42.trans (congrArg some (by kernel_rfl))
  f128 := Tryz.func66.trans (congrArg some (by kernel_rfl))
  f129 := Tryz.func67.trans (congrArg some (by kernel_rfl))
  f190 := Tryz.func34.trans (congrArg some (by kernel_rfl))
  f258 := Tryz.func52.trans (congrArg some (by kernel_rfl))
  f302 := Tryz.func77.trans (congrArg some (by kernel_rfl))
  f303 := Tryz.func78.trans (congrArg some (by kernel_rfl))
  f304 := Tryz.func79.trans (congrArg some (by kernel_rfl))
  f305 := Tryz.func80.trans (congrArg some (by kernel_rfl))
  f306 := Tryz.func81.trans (congrArg some (by kernel_rfl))
  f307 := Tryz.func82.trans (congrArg some (by kernel_rfl))
  f308 := Tryz.func83.trans (congrArg some (by kernel_rfl))
  f309 := Tryz.func84.trans (congrArg some (by kernel_rfl))
  f310 := Tryz.func85.trans (congrArg some (by kernel_rfl))
  f329 := Tryz.func90.trans (congrArg some (by kernel_rfl))
  f330 := Tryz.func91.trans (congrArg some (by kernel_rfl))
  f333 := Tryz.func98.trans (congrArg some (by kernel_rfl))
  f334 := Tryz.func99.trans (congrArg some (by kernel_rfl))
  f335 := Tryz.func100.trans (congrArg some (by kernel_rfl))
  f336 := Tryz.func87.trans (congrArg some (by kernel_rfl))
  f344 := Tryz.func110.trans (congrArg some (by kernel_rfl))
  t0 := Tryz.underlying0
  a0 := Tryz.isAgg0
  z0 := Tryz.sizeOf0
  v0 := Tryz.zeroValue0
  t3 := Tryz.underlying3
  a3 := Tryz.isAgg3
  z3 := Tryz.sizeOf3
  v3 := Tryz.zeroValue3
  t4 := Tryz.underlying4
  a4 := Tryz.isAgg4
  z4 := Tryz.sizeOf4
  v4 := Tryz.zeroValue4
  t5 := Tryz.underlying5
  a5 := Tryz.isAgg5
  z5 := Tryz.sizeOf5
  v5 := Tryz.zeroValue5
  t9 := Tryz.underlying9
  a9 := Tryz.isAgg9
  z9 := Tryz.sizeOf9
  v9 := Tryz.zeroValue9
  t31 := Tryz.underlying49
  a31 := Tryz.isAgg49
  z31 := Tryz.sizeOf49
  v31 := Tryz.zeroValue49
  t46 := Tryz.underlying77
  a46 := Tryz.isAgg77
  z46 := Tryz.sizeOf77
  v46 := Tryz.zeroValue77
  t51 := Tryz.underlying101
  a51 := Tryz.isAgg101
  z51 := Tryz.sizeOf101
  v51 := Tryz.zeroValue101
  t53 := Tryz.underlying44
  a53 := Tryz.isAgg44
  z53 := Tryz.sizeOf44
  v53 := Tryz.zeroValue44
  t131 := Tryz.underlying98
  a131 := Tryz.isAgg98
  z131 := Tryz.sizeOf98
  v131 := Tryz.zeroValue98
  t182 := Tryz.underlying93
  a182 := Tryz.isAgg93
  z182 := Tryz.sizeOf93
  v182 := Tryz.zeroValue93
  t183 := Tryz.underlying94
  a183 := Tryz.isAgg94
  z183 := Tryz.sizeOf94
  v183 := Tryz.zeroValue94
  t218 := Tryz.underlying125
  a218 := Tryz.isAgg125
  z218 := Tryz.sizeOf125
  v218 := Tryz.zeroValue125
  t222 := Tryz.underlying129
  a222 := Tryz.isAgg129
  z222 := Tryz.sizeOf129
  v222 := Tryz.zeroValue129
  t228 := Tryz.underlying140
  a228 := Tryz.isAgg140
  z228 := Tryz.sizeOf140
  v228 := Tryz.zeroValue140
  t229 := Tryz.underlying141
  a229 := Tryz.isAgg141
  z229 := Tryz.sizeOf141
  v229 := Tryz.zeroValue141 }
open Go.Sort Go.RowKit in
theorem Tryz.slices_Sort_string (blk off cap : Nat) (ss : List (List UInt8)) (w : World) (hH : Holds encStr w blk off ss.toArray) (hblk : blk < w.heap.size) (hsz : ss.length < 4611686018427387904) :
    Calls Tryz.prog 34 #[.slice (some ⟨blk, off, none⟩) ss.length cap] w fun e w' =>
      e = .returned (.tuple #[]) ∧ ∃ n os, w' = grow (putRow encStr (Sort.ahead w n) blk off (ss.mergeSort fun x y => decide (x ≤ y)).toArray) os := Any.slices_Sort_string Tryz.lays190 blk off cap ss w hH hblk hsz
def Tryz.lays194_ren : Go.Shelf.Ren := ⟨fun | 194 => 35 | n => n, fun | 31 => 49 | 9 => 9 | 3 => 3 | 4 => 4 | 0 => 0 | n => n, fun | n => n⟩
theorem Tryz.lays194 : Go.Proofs.Lays.n194 Tryz.prog Tryz.lays194_ren := {
  mixed := by kernel_rfl
  f194 := Tryz.func35.trans (congrArg some (by kernel_rfl))
  t0 := Tryz.underlying0
  a0 := Tryz.isAgg0
  z0 := Tryz.sizeOf0
  v0 := Tryz.zeroValue0
  t3 := Tryz.underlying3
  a3 := Tryz.isAgg3
  z3 := Tryz.sizeOf3
  v3 := Tryz.zeroValue3
  t4 := Tryz.underlying4
  a4 := Tryz.isAgg4
  z4 := Tryz.sizeOf4
  v4 := Tryz.zeroValue4
  t9 := Tryz.underlying9
  a9 := Tryz.isAgg9
  z9 := Tryz.sizeOf9
  v9 := Tryz.zeroValue9
  t31 := Tryz.underlying49
  a31 := Tryz.isAgg49
  z31 := Tryz.sizeOf49
  v31 := Tryz.zeroValue49 }
open Go.RowKit Go.Lib Go.Sort in
/-- slices.Compact at []string, over an array: the library's two loops are walked. (LAID: no walk: one application.) -/
theorem Tryz.slices_Compact_string_arr (blk off cap : Nat) (d : Array (List UInt8)) (w : World) (hH : Holds encStr w blk off d) (hsz : d.size ≤ 9223372036854775807) (hcap : d.size ≤ cap) :
    Calls Tryz.prog 35 #[.slice (some ⟨blk, off, none⟩) d.size cap] w fun e w' => e = .returned (.slice (some ⟨blk, off, none⟩) (compactUpTo d d.size).length cap) ∧ ∃ q, w' = putRow encStr (Sort.ahead w q) blk off (compactUpTo d d.size ++ List.replicate (d.size - (compactUpTo d d.size).length) []).toArray := Any.slices_Compact_string_arr Tryz.lays194 blk off cap d w hH hsz hcap
open Go.RowKit Go.Lib Go.Sort in
/-- slices.Compact at []string: "Compact replaces consecutive runs of equal elements with a single copy. This is like the uniq command found on Unix. Compact modifies the contents of the slice s and returns the modified slice, which may have a smaller length. Compact zeroes the elements between the new length and the original length. The result preserves the nilness of s.": IT RETURNS THE SLICE CUT TO 'Lib.compact zs'; ITS CELLS HOLD 'Lib.compact zs', THEN ZERO VALUES up to the old length; all else is as it was, but for the count of draws. IN THE WORDS OF slices.Sort's CONTRACT ('Holds', 'putRow'): so the everyday 'slices.Sort(xs); xs = slices.Compact(xs)' goes from the one contract to the other. It asks 'zs.length ≤ cap' (every slice's: the reslicing 's[:k]' looks at it). Length 0, nil: '.._empty'. (LAID: no walk: one application.) -/
theorem Tryz.slices_Compact_string (blk off cap : Nat) (zs : List (List UInt8)) (w : World) (hH : Holds encStr w blk off zs.toArray) (hsz : zs.length ≤ 9223372036854775807) (hcap : zs.length ≤ cap) :
    Calls Tryz.prog 35 #[.slice (some ⟨blk, off, none⟩) zs.length cap] w fun e w' => e = .returned (.slice (some ⟨blk, off, none⟩) (Lib.compact zs).length cap) ∧ ∃ q, w' = putRow encStr (Sort.ahead w q) blk off (Lib.compact zs ++ List.replicate (zs.length - (Lib.compact zs).length) []).toArray := Any.slices_Compact_string Tryz.lays194 blk off cap zs w hH hsz hcap
open Go.RowKit Go.Lib Go.Sort in
/-- The same at a slice of length 0, a nil one too: it comes back as it is. (LAID: no walk: one application.) -/
theorem Tryz.slices_Compact_string_empty (a : Option Addr) (cap : Nat) (w : World) :
    Calls Tryz.prog 35 #[.slice a 0 cap] w fun e w' => e = .returned (.slice a 0 cap) ∧ w' = w := Any.slices_Compact_string_empty Tryz.lays194 a cap w
open Go.RowKit Go.Lib Go.Sort in
/-- slices.Compact at []string, of an argument. (LAID: no walk: one application.) -/
theorem Tryz.slices_Compact_string_cells (b off n c : Nat) (Sx : Nat → ByteArray) (w : World) (hbig : n ≤ 9223372036854775807) (hcap : n ≤ c) (hc : ∀ i, i < n → w.cell? ⟨b, off + i, none⟩ = some (.string (Sx i))) (hf : ∀ j, j < n → w.frozen? ⟨b, off + j, none⟩ = false) :
    Calls Tryz.prog 35 #[.slice (some ⟨b, off, none⟩) n c] w fun e w' => e = .returned (.slice (some ⟨b, off, none⟩) (Lib.compact (Lib.strsOf Sx n)).length c) ∧ ∃ q, w' = (w.drewN q).setCells b off ((Lib.compact (Lib.strsOf Sx n) ++ List.replicate (n - (Lib.compact (Lib.strsOf Sx n)).length) []).map encStr) := Any.slices_Compact_string_cells Tryz.lays194 b off n c Sx w hbig hcap hc hf
open Go.RowKit Go.Sort in
/-- .. and plain. (LAID: no walk: one application.) -/
theorem Tryz.slices_Sort_string_none (p : Option Addr) (cap : Nat) (w : World) :
    Calls Tryz.prog 34 #[.slice p 0 cap] w fun e w' => e = .returned (.tuple #[]) ∧ w' = w := Any.slices_Sort_string_none Tryz.lays190 p cap w
def Tryz.laysSlE041_f31_ren : Go.Shelf.Ren := ⟨fun | 41 => 31 | n => n, fun | 22 => 39 | 23 => 44 | 4 => 4 | n => n, fun | n => n⟩
theorem Tryz.laysSlE041_f31 : Go.Proofs.SlLaysE0.n41 Tryz.prog Tryz.laysSlE041_f31_ren := {
  mixed := by kernel_rfl
  f41 := ⟨Tryz.f31.name, by decide, Tryz.func31.trans (congrArg some (by kernel_rfl))⟩
  t4 := Tryz.underlying4
  a4 := Tryz.isAgg4
  z4 := Tryz.sizeOf4
  v4 := Tryz.zeroValue4
  t22 := Tryz.underlying39
  a22 := Tryz.isAgg39
  z22 := Tryz.sizeOf39
  v22 := Tryz.zeroValue39 }
open Go.RowKit Go.Lib in
/-- slices.Clone: "Clone returns a copy of the slice. The elements are copied using assignment, so this is a shallow clone. The result may have additional unused capacity. The result preserves the nilness of s.": OF A SLICE THAT IS NOT nil IT RETURNS A SLICE THAT IS NOT nil, OF THE SAME CELLS, IN MEMORY OF THE CALL's OWN ('ownsRow': the how-to's 6f); below the heap's size at the call all is as it was. (LAID AT THE INSTANCE 'slices.Clone[[]uint64,uint64]': no walk: one application.) -/
theorem Tryz.slices_Clone (i0 : TypeInfo) (z : Value) (size bytes : Nat) (hi : Tryz.prog.info? 44 = some i0) (hz0 : i0.zero = some z) (hz1 : i0.size = size) (hz2 : i0.bytes = bytes) (hzs : z.cells.size = size) (hsz : 0 < size) (z23 : ∀ w, (Go.sizeOf 44).run Tryz.prog w = .ok size w) (b off n c : Nat) (news : List Value) (w : World) (hl : news.length = n * size) (hn : n ≤ maxLen) (hbig : n * bytes ≤ 140737488355328) (hc : ∀ j u, news[j]? = some u → w.cell? ⟨b, off + j, none⟩ = some u) (h1 : ∀ u ∈ news, u.oneCell' = true) :
    Calls Tryz.prog 31 #[.slice (some ⟨b, off, none⟩) n c] w fun e w' => ∃ v', e = .returned v' ∧ w'.ownsRow w.heap.size 44 size v' n news ∧ v' ≠ .slice none 0 0 ∧ Below w.heap.size w w' := AnyE.slices_Clone Tryz.laysSlE041_f31 i0 z size bytes hi hz0 hz1 hz2 hzs hsz z23 b off n c news w hl hn hbig hc h1
open Go.RowKit Go.Lib in
/-- The same at nil: nil comes back; the world is as it was; nothing is asked of the element's type. (LAID AT THE INSTANCE 'slices.Clone[[]uint64,uint64]': no walk: one application.) -/
theorem Tryz.slices_Clone_nil (n c : Nat) (w : World) :
    Calls Tryz.prog 31 #[.slice none n c] w fun e w' => e = .returned (.slice none 0 0) ∧ w' = w := AnyE.slices_Clone_nil Tryz.laysSlE041_f31 n c w
end Go.Proofs
