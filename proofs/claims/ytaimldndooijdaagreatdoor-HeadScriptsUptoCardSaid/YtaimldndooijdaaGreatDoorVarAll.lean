/-
  Plain: numbers by sevens of bits.
-/
import Derived.Test.YtaimldndooijdaaGreatDoorKit
import Derived.Test.YtaimldndooijdaaGreatDoorLabE
import Derived.Lib.Zigzag
import Derived.OwnWalk
import Derived.Lib.Varint
import Derived.Test.YtaimldndooijdaaGreatDoorLabH
namespace Go.Proofs.YtaimldndooijdaaGreatDoor

end Go.Proofs.YtaimldndooijdaaGreatDoor
/-
  varint.Zig and Zag, and the reference's.
-/
namespace Go.Proofs.YtaimldndooijdaaGreatDoor
open Go.RowKit
end Go.Proofs.YtaimldndooijdaaGreatDoor
/-
  The reference's One and Put.
-/
namespace Go.Proofs.YtaimldndooijdaaGreatDoor
open Go.RowKit
end Go.Proofs.YtaimldndooijdaaGreatDoor
/-
  The reference's Get of a number.
-/
namespace Go.Proofs.YtaimldndooijdaaGreatDoor
open Go.RowKit
end Go.Proofs.YtaimldndooijdaaGreatDoor
/-
  varint.Get.
-/
namespace Go.Proofs.YtaimldndooijdaaGreatDoor
open Go.RowKit
end Go.Proofs.YtaimldndooijdaaGreatDoor
/-
  varint.Put.
-/
namespace Go.Proofs.YtaimldndooijdaaGreatDoor
open Go.RowKit
end Go.Proofs.YtaimldndooijdaaGreatDoor
/-
  Plain: readers of bytes that are the way back of writers: numbers, texts, rows, each with its faults.
-/
namespace Go.Proofs.YtaimldndooijdaaGreatDoor

/-- What reading comes to: a fault, or what was read and how many bytes. -/
abbrev Rdr (α : Type) := List UInt8 → Except Int (α × Nat)
structure Reads {α : Type} (p : Rdr α) (wr : α → List UInt8) (ok : α → Prop) : Prop where
  back : ∀ T x c, p T = .ok (x, c) → ok x ∧ c = (wr x).length ∧ T.take c = wr x
  forth : ∀ x S, ok x → p (wr x ++ S) = .ok (x, (wr x).length)
  short : ∀ x j, ok x → j < (wr x).length → p ((wr x).take j) = .error 5
theorem Reads.len {α : Type} {p : Rdr α} {wr : α → List UInt8} {ok : α → Prop} (h : Reads p wr ok) {T : List UInt8} {x : α} {c : Nat} (e : p T = .ok (x, c)) : c ≤ T.length := by
  obtain ⟨_, h1, h2⟩ := h.back T x c e
  have := congrArg List.length h2
  rw [List.length_take] at this
  omega
theorem Reads.split {α : Type} {p : Rdr α} {wr : α → List UInt8} {ok : α → Prop} (h : Reads p wr ok) {T : List UInt8} {x : α} {c : Nat} (e : p T = .ok (x, c)) : T = wr x ++ T.drop c := by
  obtain ⟨_, _, h2⟩ := h.back T x c e
  rw [← h2, List.take_append_drop]

/-! ### A number -/
/-! ### One behind the other, as many as are told, with a check behind -/
end Go.Proofs.YtaimldndooijdaaGreatDoor
/-
  Plain: records, their check, their bytes, what is read of bytes.
-/
namespace Go.Proofs.YtaimldndooijdaaGreatDoor

structure Rec where
  time : Int
  seq : Nat
  labs : List Lab
  line : ByteArray
def chkRec (r : Rec) : Int := if canonE r.labs ≠ 0 then canonE r.labs else if canonL r.labs ≠ r.labs then 6 else if 1024 < r.line.size then 4 else if Lib.validD r.line.data.toList = false then 8 else 0
def okStr (s : ByteArray) : Prop := s.size < 18446744073709551616
def putBad : List Rec → Int
  | [] => 0
  | r :: l => if chkRec r ≠ 0 then chkRec r else putBad l
/-- What the machine's arguments are: a record's fields in their bounds. -/
def inRec (r : Rec) : Prop := -9223372036854775808 ≤ r.time ∧ r.time ≤ 9223372036854775807 ∧ r.seq < 18446744073709551616 ∧ (∀ x ∈ r.labs, okStr x.1 ∧ okStr x.2) ∧ okStr r.line
theorem canonE_16 {L : List Lab} (h : canonE L = 0) : L.length ≤ 16 := by
  unfold canonE at h
  split at h
  · omega
  · omega
theorem putBad_zero {l : List Rec} (h : putBad l = 0) : ∀ r ∈ l, chkRec r = 0 := by
  induction l with
  | nil => intro r hr; simp at hr
  | cons x l ih =>
    unfold putBad at h
    split at h
    · rename_i h1
      exact absurd h h1
    · rename_i h1
      intro r hr
      rcases List.mem_cons.1 hr with rfl | hr
      · exact Classical.byContradiction h1
      · exact ih h r hr
theorem putBad_all {l : List Rec} (h : ∀ r ∈ l, chkRec r = 0) : putBad l = 0 := by
  induction l with
  | nil => rfl
  | cons x l ih =>
    unfold putBad
    rw [if_neg (by simp [h x (by simp)])]
    exact ih fun r hr => h r (by simp [hr])
end Go.Proofs.YtaimldndooijdaaGreatDoor
/-
  Records as values; their order: record.Compare and the reference's.
-/
namespace Go.Proofs.YtaimldndooijdaaGreatDoor
open Go.RowKit
def recV (r : Rec) (lv : Value) : Value := .agg #[.int .i64 r.time, .int .u64 (r.seq : Int), lv, .string r.line]
def cmpI (a b : Int) : Int := if a < b then -1 else if a = b then 0 else 1
def cmpRec (a b : Rec) : Int := orI (cmpI a.time b.time) (cmpI a.seq b.seq)
set_option maxRecDepth 100000 in
set_option maxHeartbeats 4000000 in
theorem cmp_i64 (x y : Int) (w : World) :
    Calls Tryz.prog 44 #[.int .i64 x, .int .i64 y] w fun e w' => e = .returned (.int .i64 (cmpI x y)) ∧ w = w' := by
  have cN : ∀ (s : Int) W, Calls Tryz.prog 68 #[.int .i64 s] W fun e w' => e = .returned (.bool false) ∧ W = w' := fun s W => by
    go_enter Tryz.func68, Tryz.ntmps68
    go_wp2
    go_ret
    exact ⟨by simp, rfl⟩
  unfold cmpI
  by_cases h1 : x < y
  · rw [if_pos h1]
    go_enter Tryz.func44, Tryz.ntmps44
    go_wp2_with (go_at_call 68; refine (cN _ _).mono ?_; rintro e w1 ⟨rfl, rfl⟩)
    go_ret
    exact ⟨rfl, rfl⟩
  · rw [if_neg h1]
    by_cases h2 : x = y
    · have h3 : ¬ y < x := by omega
      rw [if_pos h2]
      clear h2
      go_enter Tryz.func44, Tryz.ntmps44
      go_wp2_with (go_at_call 68; refine (cN _ _).mono ?_; rintro e w1 ⟨rfl, rfl⟩)
      go_ret
      exact ⟨rfl, rfl⟩
    · have h3 : y < x := by omega
      rw [if_neg h2]
      clear h2
      go_enter Tryz.func44, Tryz.ntmps44
      go_wp2_with (go_at_call 68; refine (cN _ _).mono ?_; rintro e w1 ⟨rfl, rfl⟩)
      go_ret
      exact ⟨rfl, rfl⟩
set_option maxRecDepth 100000 in
set_option maxHeartbeats 4000000 in
theorem cmp_u64 (x y : Int) (w : World) :
    Calls Tryz.prog 45 #[.int .u64 x, .int .u64 y] w fun e w' => e = .returned (.int .i64 (cmpI x y)) ∧ w = w' := by
  have cN : ∀ (s : Int) W, Calls Tryz.prog 69 #[.int .u64 s] W fun e w' => e = .returned (.bool false) ∧ W = w' := fun s W => by
    go_enter Tryz.func69, Tryz.ntmps69
    go_wp2
    go_ret
    exact ⟨by simp, rfl⟩
  unfold cmpI
  by_cases h1 : x < y
  · rw [if_pos h1]
    go_enter Tryz.func45, Tryz.ntmps45
    go_wp2_with (go_at_call 69; refine (cN _ _).mono ?_; rintro e w1 ⟨rfl, rfl⟩)
    go_ret
    exact ⟨rfl, rfl⟩
  · rw [if_neg h1]
    by_cases h2 : x = y
    · have h3 : ¬ y < x := by omega
      rw [if_pos h2]
      clear h2
      go_enter Tryz.func45, Tryz.ntmps45
      go_wp2_with (go_at_call 69; refine (cN _ _).mono ?_; rintro e w1 ⟨rfl, rfl⟩)
      go_ret
      exact ⟨rfl, rfl⟩
    · have h3 : y < x := by omega
      rw [if_neg h2]
      clear h2
      go_enter Tryz.func45, Tryz.ntmps45
      go_wp2_with (go_at_call 69; refine (cN _ _).mono ?_; rintro e w1 ⟨rfl, rfl⟩)
      go_ret
      exact ⟨rfl, rfl⟩
/-- Two blocks, one behind the other, in every later world. -/
theorem two_new (W : World) (c d : Array Value) (t u : TypeId) : ∀ w', Below ((W.alloc (.cells c t)).alloc (.cells d u)).heap.size ((W.alloc (.cells c t)).alloc (.cells d u)) w' →
    ∀ j, w'.cell? ⟨W.heap.size, j, none⟩ = c[j]? ∧ w'.cell? ⟨W.heap.size + 1, j, none⟩ = d[j]? := by
  intro w' hb j
  have s1 : (W.alloc (.cells c t)).heap.size = W.heap.size + 1 := by simp
  have s2 : ((W.alloc (.cells c t)).alloc (.cells d u)).heap.size = W.heap.size + 2 := by simp
  have k1 := fun j => cell_of_row ((W.alloc (.cells c t)).alloc (.cells d u)) W.heap.size j c t (0, 0) (by rw [heap_alloc_old _ _ (by omega)]; exact heap_alloc_new _ _)
  have k2 := fun j => cell_of_row ((W.alloc (.cells c t)).alloc (.cells d u)) (W.heap.size + 1) j d u (0, 0) (by rw [← s1]; exact heap_alloc_new _ _)
  refine ⟨?_, ?_⟩
  · rw [hb.cell (p := ⟨W.heap.size, j, none⟩) (show W.heap.size < _ by omega), k1]
  · rw [hb.cell (p := ⟨W.heap.size + 1, j, none⟩) (show W.heap.size + 1 < _ by omega), k2]
theorem one_new (W : World) (c : Array Value) (t : TypeId) : ∀ w', Below (W.alloc (.cells c t)).heap.size (W.alloc (.cells c t)) w' → ∀ j, w'.cell? ⟨W.heap.size, j, none⟩ = c[j]? := by
  intro w' hb j
  have s1 : (W.alloc (.cells c t)).heap.size = W.heap.size + 1 := by simp
  rw [hb.cell (p := ⟨W.heap.size, j, none⟩) (show W.heap.size < _ by omega), cell_of_row _ W.heap.size j c t (0, 0) (heap_alloc_new _ _)]
def cmpZ (x y s t : Int) : Int := if x < y ∨ x = y ∧ s < t then -1 else if x = y ∧ s = t then 0 else 1
theorem cmpRec_eq (a b : Rec) : cmpZ a.time b.time a.seq b.seq = cmpRec a b := by
  unfold cmpZ cmpRec orI cmpI
  repeat' split
  all_goals omega
set_option maxRecDepth 100000 in
set_option maxHeartbeats 4000000 in
theorem rrec_Compare (a b : Rec) (la lb : Value) (W : World) : Calls Tryz.prog 49 #[recV a la, recV b lb] W fun e w' =>
    e = .returned (.int .i64 (cmpRec a b)) ∧ Below W.heap.size W w' := by
  rw [← cmpRec_eq]
  unfold recV
  generalize a.time = ta
  generalize b.time = tb
  generalize (a.seq : Int) = sa
  generalize (b.seq : Int) = sb
  generalize a.line = na
  generalize b.line = nb
  obtain ⟨R, hR⟩ : ∃ R, cmpZ ta tb sa sb = R := ⟨_, rfl⟩
  rw [hR]
  have HR := Lib.hid hR
  clear hR
  have hB := two_new W #[.int .i64 ta, .int .u64 sa, la, .string na] #[.int .i64 tb, .int .u64 sb, lb, .string nb] 47 47 _ (Below.refl _ _)
  have hbw : Below W.heap.size W ((W.alloc (.cells #[.int .i64 ta, .int .u64 sa, la, .string na] 47)).alloc (.cells #[.int .i64 tb, .int .u64 sb, lb, .string nb] 47)) := belowA (belowA (Below.refl _ _))
  go_enter Tryz.func49, Tryz.ntmps49
  go_upto_region 1 with fail
  generalize (W.alloc (.cells #[.int .i64 ta, .int .u64 sa, la, .string na] 47)).alloc (.cells #[.int .i64 tb, .int .u64 sb, lb, .string nb] 47) = w1 at *
  have g1 : w1.cell? ⟨W.heap.size, 0, none⟩ = some (.int .i64 ta) := (hB 0).1
  have g2 : w1.cell? ⟨W.heap.size, 1, none⟩ = some (.int .u64 sa) := (hB 1).1
  have g3 : w1.cell? ⟨W.heap.size + 1, 0, none⟩ = some (.int .i64 tb) := (hB 0).2
  have g4 : w1.cell? ⟨W.heap.size + 1, 1, none⟩ = some (.int .u64 sb) := (hB 1).2
  clear hB
  by_cases h1 : ta < tb
  · obtain rfl : R = -1 := by rw [← HR.out]; unfold cmpZ; rw [if_pos (Or.inl h1)]
    clear HR
    go_wp2
    go_ret
    exact ⟨rfl, hbw⟩
  · by_cases h2 : ta = tb
    · have h3 : (ta == tb) = true := by simpa using h2
      by_cases h4 : sa < sb
      · obtain rfl : R = -1 := by rw [← HR.out]; unfold cmpZ; rw [if_pos (Or.inr ⟨h2, h4⟩)]
        clear HR h2
        go_wp2
        go_ret
        exact ⟨rfl, hbw⟩
      · by_cases h5 : sa = sb
        · have h6 : (sa == sb) = true := by simpa using h5
          obtain rfl : R = 0 := by rw [← HR.out]; unfold cmpZ; rw [if_neg (by omega), if_pos ⟨h2, h5⟩]
          clear HR h2 h5
          go_wp2
          go_ret
          exact ⟨rfl, hbw⟩
        · have h6 : (sa == sb) = false := by simpa using h5
          obtain rfl : R = 1 := by rw [← HR.out]; unfold cmpZ; rw [if_neg (by omega), if_neg (by omega)]
          clear HR h2 h5
          go_wp2
          go_ret
          exact ⟨rfl, hbw⟩
    · have h3 : (ta == tb) = false := by simpa using h2
      obtain rfl : R = 1 := by rw [← HR.out]; unfold cmpZ; rw [if_neg (by omega), if_neg (by omega)]
      clear HR h2
      go_wp2
      go_ret
      exact ⟨rfl, hbw⟩
end Go.Proofs.YtaimldndooijdaaGreatDoor
/-
  A text's bytes: record.text, the reference's Text; the reference's Put of numbers.
-/
namespace Go.Proofs.YtaimldndooijdaaGreatDoor
open Go.RowKit
/-- Bytes in memory of the call's own. -/
def OB (w : World) (B : Nat) (v : Value) (l : List UInt8) : Prop := w.ownsRow B 5 1 v l.length (Lib.byteCells l)
theorem OB.src {w : World} {B : Nat} {v : Value} {l : List UInt8} (h : OB w B v l) : Src Tryz.prog 1 131 v l.length (Lib.byteCells l) w :=
  src_arg Tryz.underlying131 (argRow_owns h) (byteCells_one l)
end Go.Proofs.YtaimldndooijdaaGreatDoor
