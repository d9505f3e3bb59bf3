/-
  Plain: numbers by sevens of bits.
-/
import Derived.Test.YtljnbbdhmlfhjaaGreatDoorKit
import Derived.Test.YtljnbbdhmlfhjaaGreatDoorLabAll
import Derived.Lib.Zigzag
import Derived.OwnWalk
import Derived.Lib.Varint
namespace Go.Proofs.YtljnbbdhmlfhjaaGreatDoor

/-- A number's shortest form. -/
def vi (n : Nat) : List UInt8 := if n < 128 then [UInt8.ofNat n] else UInt8.ofNat (128 + n % 128) :: vi (n / 128)
termination_by n
decreasing_by omega
/-- Reading: the fault, or 0, the number and how many bytes; k bytes have been read, they gave acc. -/
def vgGo : Nat → Nat → List UInt8 → Int × Nat × Nat
  | _, _, [] => (5, 0, 0)
  | k, acc, c :: t =>
    if k = 9 ∧ 1 < c.toNat then (6, 0, 0)
    else if 128 ≤ c.toNat then vgGo (k + 1) (acc + c.toNat % 128 * 128 ^ k) t
    else if c.toNat = 0 ∧ 0 < k then (6, 0, 0)
    else (0, acc + c.toNat % 128 * 128 ^ k, k + 1)
theorem ofNat_toNat {n : Nat} (h : n < 256) : (UInt8.ofNat n).toNat = n := by simp; omega
end Go.Proofs.YtljnbbdhmlfhjaaGreatDoor
/-
  varint.Zig and Zag, and the reference's.
-/
namespace Go.Proofs.YtljnbbdhmlfhjaaGreatDoor
open Go.RowKit
end Go.Proofs.YtljnbbdhmlfhjaaGreatDoor
/-
  The reference's One and Put.
-/
namespace Go.Proofs.YtljnbbdhmlfhjaaGreatDoor
open Go.RowKit
end Go.Proofs.YtljnbbdhmlfhjaaGreatDoor
/-
  The reference's Get of a number.
-/
namespace Go.Proofs.YtljnbbdhmlfhjaaGreatDoor
open Go.RowKit
end Go.Proofs.YtljnbbdhmlfhjaaGreatDoor
/-
  varint.Get.
-/
namespace Go.Proofs.YtljnbbdhmlfhjaaGreatDoor
open Go.RowKit
end Go.Proofs.YtljnbbdhmlfhjaaGreatDoor
/-
  varint.Put.
-/
namespace Go.Proofs.YtljnbbdhmlfhjaaGreatDoor
open Go.RowKit
end Go.Proofs.YtljnbbdhmlfhjaaGreatDoor
/-
  Plain: readers of bytes that are the way back of writers: numbers, texts, rows, each with its faults.
-/
namespace Go.Proofs.YtljnbbdhmlfhjaaGreatDoor

/-- What reading comes to: a fault, or what was read and how many bytes. -/
abbrev Rdr (α : Type) := List UInt8 → Except Int (α × Nat)
structure Reads {α : Type} (p : Rdr α) (wr : α → List UInt8) (ok : α → Prop) : Prop where
  back : ∀ T x c, p T = .ok (x, c) → ok x ∧ c = (wr x).length ∧ T.take c = wr x
  forth : ∀ x S, ok x → p (wr x ++ S) = .ok (x, (wr x).length)
  short : ∀ x j, ok x → j < (wr x).length → p ((wr x).take j) = .error 5
theorem Reads.len {α : Type} {p : Rdr α} {wr : α → List UInt8} {ok : α → Prop} (h : Reads p wr ok) {T : List UInt8} {x : α} {c : Nat} (e : p T = .ok (x, c)) : c ≤ T.length := by
  obtain ⟨_, h1, h2⟩ := h.back T x c e
  have := congrArg List.length h2
  rw [List.length_take] at this
  omega
theorem Reads.split {α : Type} {p : Rdr α} {wr : α → List UInt8} {ok : α → Prop} (h : Reads p wr ok) {T : List UInt8} {x : α} {c : Nat} (e : p T = .ok (x, c)) : T = wr x ++ T.drop c := by
  obtain ⟨_, _, h2⟩ := h.back T x c e
  rw [← h2, List.take_append_drop]

/-! ### A number -/
def num : Rdr Nat := fun T => if (vgGo 0 0 T).1 = 0 then .ok ((vgGo 0 0 T).2.1, (vgGo 0 0 T).2.2) else .error (vgGo 0 0 T).1
/-! ### One behind the other, as many as are told, with a check behind -/
end Go.Proofs.YtljnbbdhmlfhjaaGreatDoor
/-
  Plain: records, their check, their bytes, what is read of bytes.
-/
namespace Go.Proofs.YtljnbbdhmlfhjaaGreatDoor

structure Rec where
  time : Int
  seq : Nat
  labs : List Lab
  line : ByteArray
def chkRec (r : Rec) : Int := if canonE r.labs ≠ 0 then canonE r.labs else if canonL r.labs ≠ r.labs then 6 else if 1024 < r.line.size then 4 else if Lib.validD r.line.data.toList = false then 8 else 0
def okStr (s : ByteArray) : Prop := s.size < 18446744073709551616
/-- What the machine's arguments are: a record's fields in their bounds. -/
def inRec (r : Rec) : Prop := -9223372036854775808 ≤ r.time ∧ r.time ≤ 9223372036854775807 ∧ r.seq < 18446744073709551616 ∧ (∀ x ∈ r.labs, okStr x.1 ∧ okStr x.2) ∧ okStr r.line
end Go.Proofs.YtljnbbdhmlfhjaaGreatDoor
/-
  Records as values; their order: record.Compare and the reference's.
-/
namespace Go.Proofs.YtljnbbdhmlfhjaaGreatDoor
open Go.RowKit
def recV (r : Rec) (lv : Value) : Value := .agg #[.int .i64 r.time, .int .u64 (r.seq : Int), lv, .string r.line]
theorem one_new (W : World) (c : Array Value) (t : TypeId) : ∀ w', Below (W.alloc (.cells c t)).heap.size (W.alloc (.cells c t)) w' → ∀ j, w'.cell? ⟨W.heap.size, j, none⟩ = c[j]? := by
  intro w' hb j
  have s1 : (W.alloc (.cells c t)).heap.size = W.heap.size + 1 := by simp
  rw [hb.cell (p := ⟨W.heap.size, j, none⟩) (show W.heap.size < _ by omega), cell_of_row _ W.heap.size j c t (0, 0) (heap_alloc_new _ _)]
end Go.Proofs.YtljnbbdhmlfhjaaGreatDoor
/-
  A text's bytes: record.text, the reference's Text; the reference's Put of numbers.
-/
namespace Go.Proofs.YtljnbbdhmlfhjaaGreatDoor
open Go.RowKit
/-- Bytes in memory of the call's own. -/
def OB (w : World) (B : Nat) (v : Value) (l : List UInt8) : Prop := w.ownsRow B 5 1 v l.length (Lib.byteCells l)
theorem E8 : ElemT Tryz.prog 22 5 (.int .u8 0) 1 1 := ⟨Tryz.underlying22, by kernel_rfl, rfl, by decide⟩
theorem OB.src {w : World} {B : Nat} {v : Value} {l : List UInt8} (h : OB w B v l) : Src Tryz.prog 1 22 v l.length (Lib.byteCells l) w :=
  src_arg Tryz.underlying22 (argRow_owns h) (byteCells_one l)
end Go.Proofs.YtljnbbdhmlfhjaaGreatDoor
