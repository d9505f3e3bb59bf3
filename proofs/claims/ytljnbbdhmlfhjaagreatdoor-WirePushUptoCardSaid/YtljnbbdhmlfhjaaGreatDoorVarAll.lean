/-
  Plain: numbers by sevens of bits.
-/
import Derived.Test.YtljnbbdhmlfhjaaGreatDoorKit
import Derived.Test.YtljnbbdhmlfhjaaGreatDoorLabAll
import Derived.Lib.Zigzag
import Derived.OwnWalk
import Derived.Lib.Varint
namespace Go.Proofs.YtljnbbdhmlfhjaaGreatDoor

/-- A number's shortest form. -/
def vi (n : Nat) : List UInt8 := if n < 128 then [UInt8.ofNat n] else UInt8.ofNat (128 + n % 128) :: vi (n / 128)
termination_by n
decreasing_by omega
theorem vi_small {n : Nat} (h : n < 128) : vi n = [UInt8.ofNat n] := by rw [vi, if_pos h]
theorem vi_big {n : Nat} (h : ¬ n < 128) : vi n = UInt8.ofNat (128 + n % 128) :: vi (n / 128) := by rw [vi, if_neg h]
/-- Reading: the fault, or 0, the number and how many bytes; k bytes have been read, they gave acc. -/
def vgGo : Nat → Nat → List UInt8 → Int × Nat × Nat
  | _, _, [] => (5, 0, 0)
  | k, acc, c :: t =>
    if k = 9 ∧ 1 < c.toNat then (6, 0, 0)
    else if 128 ≤ c.toNat then vgGo (k + 1) (acc + c.toNat % 128 * 128 ^ k) t
    else if c.toNat = 0 ∧ 0 < k then (6, 0, 0)
    else (0, acc + c.toNat % 128 * 128 ^ k, k + 1)
theorem vi_len_pos (n : Nat) : 1 ≤ (vi n).length := by
  by_cases h : n < 128
  · rw [vi_small h]; simp
  · rw [vi_big h]; simp
theorem ofNat_toNat {n : Nat} (h : n < 256) : (UInt8.ofNat n).toNat = n := by simp; omega
theorem pow_le9 {k : Nat} (h : 128 ^ k * 128 < 18446744073709551616) : k ≤ 8 := by
  refine Classical.byContradiction fun hk => ?_
  have h9 : (128 : Nat) ^ 9 ≤ 128 ^ k := Nat.pow_le_pow_right (by decide) (by omega)
  have : (128 : Nat) ^ 9 = 9223372036854775808 := rfl
  omega
/-- What was written is read. -/
theorem vg_vi (n k acc : Nat) (T : List UInt8) (hb : n * 128 ^ k < 18446744073709551616) (hp : 0 < k → 0 < n) :
    vgGo k acc (vi n ++ T) = (0, acc + n * 128 ^ k, k + (vi n).length) := by
  induction n using Nat.strongRecOn generalizing k acc with
  | ind n ih =>
    by_cases h : n < 128
    · rw [vi_small h]
      show vgGo k acc (UInt8.ofNat n :: T) = _
      unfold vgGo
      rw [ofNat_toNat (by omega), if_neg, if_neg (by omega), if_neg (by omega), Nat.mod_eq_of_lt h]
      · rfl
      · rintro ⟨rfl, h1⟩
        have : (128 : Nat) ^ 9 = 9223372036854775808 := rfl
        omega
    · rw [vi_big h]
      have h1 : 128 ^ k * 128 < 18446744073709551616 := by
        have : 128 * 128 ^ k ≤ n * 128 ^ k := Nat.mul_le_mul_right _ (by omega)
        omega
      have hk := pow_le9 h1
      have e1 : n / 128 * 128 ^ (k + 1) + n % 128 * 128 ^ k = n * 128 ^ k := by
        have : n = n / 128 * 128 + n % 128 := by omega
        conv => rhs; rw [this]
        rw [Nat.add_mul, Nat.pow_succ, Nat.mul_assoc, Nat.mul_comm (128 ^ k) 128]
      show vgGo k acc (UInt8.ofNat (128 + n % 128) :: (vi (n / 128) ++ T)) = _
      conv => lhs; unfold vgGo
      rw [ofNat_toNat (by omega), if_neg (by omega), if_pos (by omega)]
      rw [ih (n / 128) (by omega) (k + 1) _ (by omega) (by omega)]
      have e2 : (128 + n % 128) % 128 = n % 128 := by omega
      rw [e2, List.length_cons]
      refine Prod.ext rfl (Prod.ext ?_ ?_)
      · simp only
        omega
      · simp only
        omega
end Go.Proofs.YtljnbbdhmlfhjaaGreatDoor
/-
  varint.Zig and Zag, and the reference's.
-/
namespace Go.Proofs.YtljnbbdhmlfhjaaGreatDoor
open Go.RowKit
def zig (n : Int) : Int := if 0 ≤ n then 2 * n else -2 * n - 1
def zag (u : Int) : Int := if u % 2 = 0 then u / 2 else -(u / 2) - 1
theorem xor_comm64 (a b : Int) : bits .xor .i64 a b = bits .xor .i64 b a := by
  show IntKind.i64.wrap ((BitVec.ofInt 64 a ^^^ BitVec.ofInt 64 b).toNat : Int) = IntKind.i64.wrap ((BitVec.ofInt 64 b ^^^ BitVec.ofInt 64 a).toNat : Int)
  rw [BitVec.xor_comm]
theorem xor_zero64 (x : Nat) (hx : x < 9223372036854775808) : bits .xor .i64 (x : Int) 0 = (x : Int) := by
  show IntKind.i64.wrap ((BitVec.ofInt 64 (x : Int) ^^^ BitVec.ofInt 64 0).toNat : Int) = _
  have h2 : (BitVec.ofInt 64 (x : Int)).toNat = x := by
    rw [BitVec.ofInt_natCast, BitVec.toNat_ofNat]; exact Nat.mod_eq_of_lt (by omega)
  have h3 : (BitVec.ofInt 64 0) = 0#64 := by decide
  rw [h3, BitVec.xor_zero, h2, IntKind.wrap_i64]
  omega
theorem zig_eq {n : Int} (h1 : -9223372036854775808 ≤ n) (h2 : n ≤ 9223372036854775807) : bits .xor .u64 (IntKind.u64.wrap (wrap64 (n * 2))) (IntKind.u64.wrap (n / 9223372036854775808)) = zig n := by
  have e0 : IntKind.u64.wrap (wrap64 (n * 2)) = n * 2 % 18446744073709551616 := by
    rw [IntKind.wrap_u64]
    unfold wrap64
    omega
  unfold zig
  by_cases h : 0 ≤ n
  · rw [if_pos h, e0, show n / 9223372036854775808 = 0 by omega]
    have := bits_xor_u64_nat (n * 2 % 18446744073709551616).toNat 0 (by omega) (by omega)
    have e : (((n * 2 % 18446744073709551616).toNat : Nat) : Int) = n * 2 % 18446744073709551616 := by omega
    rw [e] at this
    rw [show IntKind.u64.wrap 0 = ((0 : Nat) : Int) from by decide, this]
    simp
    omega
  · rw [if_neg h, e0, show n / 9223372036854775808 = -1 by omega]
    have h3 := bits_xor_u64_nat (n * 2 % 18446744073709551616).toNat (2 ^ 64 - 1) (by omega) (by omega)
    have e : (((n * 2 % 18446744073709551616).toNat : Nat) : Int) = n * 2 % 18446744073709551616 := by omega
    rw [e] at h3
    rw [show IntKind.u64.wrap (-1) = ((2 ^ 64 - 1 : Nat) : Int) from by decide, h3, Nat.xor_comm, Lib.xor_ones64 _ (by omega)]
    omega
theorem zag_eq {n : Int} (h1 : 0 ≤ n) (h2 : n ≤ 18446744073709551615) : bits .xor .i64 (n / 2) (wrap64 (-wrap64 (bits .and .u64 n 1))) = zag n := by
  rw [Lib.u64_and1 n h1 (by omega)]
  have e : (((n / 2).toNat : Nat) : Int) = n / 2 := by omega
  unfold zag
  by_cases h : n % 2 = 0
  · rw [if_pos h, h, show wrap64 (-wrap64 0) = 0 from by unfold wrap64; omega, ← e, xor_zero64 _ (by omega)]
  · rw [if_neg h, show n % 2 = 1 by omega, show wrap64 (-wrap64 1) = -1 from by unfold wrap64; omega, ← e, xor_comm64, Lib.i64_not _ (by omega)]
end Go.Proofs.YtljnbbdhmlfhjaaGreatDoor
/-
  The reference's One and Put.
-/
namespace Go.Proofs.YtljnbbdhmlfhjaaGreatDoor
open Go.RowKit
theorem vi_len : ∀ n : Nat, n < 18446744073709551616 → (vi n).length ≤ 10 := by
  have h : ∀ d n : Nat, n < 128 ^ (d + 1) → (vi n).length ≤ d + 1 := by
    intro d
    induction d with
    | zero => intro n hn; rw [vi_small (by simpa using hn)]; simp
    | succ d ih =>
      intro n hn
      by_cases hs : n < 128
      · rw [vi_small hs]; simp
      · rw [vi_big hs, List.length_cons]
        have : n / 128 < 128 ^ (d + 1) := Nat.div_lt_of_lt_mul (by rw [Nat.pow_succ] at hn; omega)
        have := ih _ this
        omega
  intro n hn
  exact h 9 n (Nat.lt_of_lt_of_le hn (by decide))
end Go.Proofs.YtljnbbdhmlfhjaaGreatDoor
/-
  The reference's Get of a number.
-/
namespace Go.Proofs.YtljnbbdhmlfhjaaGreatDoor
open Go.RowKit
/-- What reading a number at a place comes to: the fault, the number, the place behind it. -/
def vget (b : List UInt8) (at' : Int) : Int × Nat × Nat :=
  if at' < 0 ∨ (b.length : Int) < at' then (1, 0, 0)
  else if (vgGo 0 0 (b.drop at'.toNat)).1 = 0 then (0, (vgGo 0 0 (b.drop at'.toNat)).2.1, at'.toNat + (vgGo 0 0 (b.drop at'.toNat)).2.2) else ((vgGo 0 0 (b.drop at'.toNat)).1, 0, 0)
theorem vg_step {b : List UInt8} {j : Nat} (h : j < b.length) (k acc : Nat) : vgGo k acc (b.drop j) = if k = 9 ∧ 1 < b[j].toNat then (6, 0, 0)
    else if 128 ≤ b[j].toNat then vgGo (k + 1) (acc + b[j].toNat % 128 * 128 ^ k) (b.drop (j + 1))
    else if b[j].toNat = 0 ∧ 0 < k then (6, 0, 0) else (0, acc + b[j].toNat % 128 * 128 ^ k, k + 1) := by
  rw [List.drop_eq_getElem_cons h]
  conv => lhs; unfold vgGo
theorem vg_end {b : List UInt8} {j : Nat} (h : b.length ≤ j) (k acc : Nat) : vgGo k acc (b.drop j) = (5, 0, 0) := by
  rw [List.drop_of_length_le h]
  unfold vgGo
  rfl
theorem pow_lt {k : Nat} (h : k ≤ 9) : (128 : Nat) ^ k ≤ 9223372036854775808 := Nat.le_trans (Nat.pow_le_pow_right (by decide) h) (by decide)
end Go.Proofs.YtljnbbdhmlfhjaaGreatDoor
/-
  varint.Get.
-/
namespace Go.Proofs.YtljnbbdhmlfhjaaGreatDoor
open Go.RowKit
theorem get_step {c acc k : Nat} (hc : c < 256) (hk : k ≤ 9) (hacc : acc < 128 ^ k) (h9 : ¬ (k = 9 ∧ 1 < c)) :
    bits .or .u64 (acc : Int) (IntKind.u64.wrap (IntKind.u64.wrap (bits .and .u8 (c : Int) 127) * 2 ^ (7 * k))) = ((acc + c % 128 * 128 ^ k : Nat) : Int) := by
  have hm : c % 128 * 128 ^ k + 128 ^ k ≤ 18446744073709551616 := by
    by_cases h : k = 9
    · subst h
      have h1 : c % 128 ≤ 1 := by omega
      have h2 : c % 128 = 0 ∨ c % 128 = 1 := by omega
      rcases h2 with e | e <;> rw [e] <;> decide
    · have h8 : (128 : Nat) ^ k ≤ 128 ^ 8 := Nat.pow_le_pow_right (by decide) (by omega)
      have h3 : (128 : Nat) ^ 8 = 72057594037927936 := rfl
      have h4 : c % 128 * 128 ^ k ≤ 127 * 128 ^ k := Nat.mul_le_mul_right _ (by omega)
      omega
  have hp : (128 : Nat) ^ k = 2 ^ (7 * k) := by rw [Nat.pow_mul]
  have hpos : 0 < 128 ^ k := Nat.pow_pos (by decide)
  rw [show (127 : Int) = 2 ^ 7 - 1 from rfl, bits_mask .u8 8 (by decide) wraps_u8 7 (by decide) c (by omega) (by omega)]
  have e1 : IntKind.u64.wrap ((c : Int) % 2 ^ 7) = ((c % 128 : Nat) : Int) := by rw [IntKind.wrap_u64]; omega
  rw [e1]
  have e2 : ((c % 128 : Nat) : Int) * 2 ^ (7 * k) = ((c % 128 * 128 ^ k : Nat) : Int) := by
    rw [hp]
    simp
  rw [e2]
  have e3 : IntKind.u64.wrap ((c % 128 * 128 ^ k : Nat) : Int) = ((c % 128 * 128 ^ k : Nat) : Int) := by rw [IntKind.wrap_u64]; omega
  rw [e3]
  rw [(bits_nat .u64 64 (by decide) (fun n h1 h2 => by rw [IntKind.wrap_u64]; omega) acc (c % 128 * 128 ^ k) (by omega) (by omega)).2]
  rw [hp] at hacc ⊢
  have := Nat.two_pow_add_eq_or_of_lt hacc (c % 128)
  rw [Nat.or_comm, Nat.mul_comm (c % 128), ← this, Nat.add_comm]
end Go.Proofs.YtljnbbdhmlfhjaaGreatDoor
/-
  varint.Put.
-/
namespace Go.Proofs.YtljnbbdhmlfhjaaGreatDoor
open Go.RowKit
def u64Cells (ns : List Nat) : List Value := ns.map fun (n : Nat) => .int .u64 (n : Int)
theorem or128 {n : Nat} (_h : ¬ n < 128) : bits .or .u8 ((n : Int) % 256) 128 = ((UInt8.ofNat (128 + n % 128)).toNat : Int) := by
  rw [Lib.u8_or128_any _ (by omega) (by omega), ofNat_toNat (by omega)]
  omega
theorem cell_big {n : Nat} (h : ¬ n < 128) : [Value.int .u8 (bits .or .u8 ((n : Int) % 256) 128)] = Lib.byteCells [UInt8.ofNat (128 + n % 128)] := by
  rw [or128 h]
  rfl
theorem cell_small {n : Nat} (h : n < 128) : [Value.int .u8 (n : Int)] = Lib.byteCells [UInt8.ofNat n] := by
  show _ = [Value.int .u8 ((UInt8.ofNat n).toNat : Int)]
  rw [ofNat_toNat (by omega)]
theorem vis_len (ns : List Nat) (h : ∀ n ∈ ns, n < 18446744073709551616) : (ns.flatMap vi).length ≤ 10 * ns.length := by
  induction ns with
  | nil => simp
  | cons n ns ih =>
    have h1 := vi_len n (h n (by simp))
    have h2 := ih fun m hm => h m (by simp [hm])
    simp only [List.flatMap_cons, List.length_append, List.length_cons]
    omega
end Go.Proofs.YtljnbbdhmlfhjaaGreatDoor
/-
  Plain: readers of bytes that are the way back of writers: numbers, texts, rows, each with its faults.
-/
namespace Go.Proofs.YtljnbbdhmlfhjaaGreatDoor

/-- What reading comes to: a fault, or what was read and how many bytes. -/
abbrev Rdr (α : Type) := List UInt8 → Except Int (α × Nat)
structure Reads {α : Type} (p : Rdr α) (wr : α → List UInt8) (ok : α → Prop) : Prop where
  back : ∀ T x c, p T = .ok (x, c) → ok x ∧ c = (wr x).length ∧ T.take c = wr x
  forth : ∀ x S, ok x → p (wr x ++ S) = .ok (x, (wr x).length)
  short : ∀ x j, ok x → j < (wr x).length → p ((wr x).take j) = .error 5
theorem Reads.len {α : Type} {p : Rdr α} {wr : α → List UInt8} {ok : α → Prop} (h : Reads p wr ok) {T : List UInt8} {x : α} {c : Nat} (e : p T = .ok (x, c)) : c ≤ T.length := by
  obtain ⟨_, h1, h2⟩ := h.back T x c e
  have := congrArg List.length h2
  rw [List.length_take] at this
  omega
theorem Reads.split {α : Type} {p : Rdr α} {wr : α → List UInt8} {ok : α → Prop} (h : Reads p wr ok) {T : List UInt8} {x : α} {c : Nat} (e : p T = .ok (x, c)) : T = wr x ++ T.drop c := by
  obtain ⟨_, _, h2⟩ := h.back T x c e
  rw [← h2, List.take_append_drop]

/-! ### A number -/
def num : Rdr Nat := fun T => if (vgGo 0 0 T).1 = 0 then .ok ((vgGo 0 0 T).2.1, (vgGo 0 0 T).2.2) else .error (vgGo 0 0 T).1
theorem vg_back : ∀ (T : List UInt8) (k acc N c : Nat), k ≤ 9 → vgGo k acc T = (0, N, c) → ∃ m, N = acc + m * 128 ^ k ∧ c = k + (vi m).length ∧ T.take (vi m).length = vi m ∧ (0 < k → 0 < m) ∧ (m + 1) * 128 ^ k ≤ 18446744073709551616
  | [], k, acc, N, c, _, h => by unfold vgGo at h; cases h
  | x :: t, k, acc, N, c, hk, h => by
    unfold vgGo at h
    have hx := UInt8.toNat_lt x
    have h9 : (128 : Nat) ^ 9 = 9223372036854775808 := rfl
    split at h
    · cases h
    · rename_i h1
      split at h
      · rename_i h2
        have hk8 : k ≤ 8 := by
          refine Classical.byContradiction fun hh => h1 ⟨by omega, by omega⟩
        obtain ⟨m', e1, e2, e3, e4, e5⟩ := vg_back t (k + 1) _ N c (by omega) h
        have hm := e4 (by omega)
        have em : (x.toNat % 128 + 128 * m') / 128 = m' := by omega
        have em2 : (x.toNat % 128 + 128 * m') % 128 = x.toNat % 128 := by omega
        have ev : vi (x.toNat % 128 + 128 * m') = x :: vi m' := by
          rw [vi_big (by omega), em, em2, show 128 + x.toNat % 128 = x.toNat by omega, UInt8.ofNat_toNat]
        refine ⟨x.toNat % 128 + 128 * m', ?_, ?_, ?_, fun _ => by omega, ?_⟩
        · rw [e1, Nat.add_mul, Nat.pow_succ, Nat.add_assoc]
          congr 2
          rw [Nat.mul_comm (128 ^ k) 128, ← Nat.mul_assoc, Nat.mul_comm m' 128]
        · rw [ev, List.length_cons, e2]
          omega
        · rw [ev, List.length_cons, List.take_succ_cons, e3]
        · rw [Nat.pow_succ] at e5
          have : x.toNat % 128 + 128 * m' + 1 ≤ 128 * (m' + 1) := by omega
          have := Nat.mul_le_mul_right (128 ^ k) this
          have e6 : (m' + 1) * (128 ^ k * 128) = 128 * (m' + 1) * 128 ^ k := by
            rw [Nat.mul_comm (128 ^ k) 128, ← Nat.mul_assoc, Nat.mul_comm (m' + 1) 128]
          omega
      · rename_i h2
        split at h
        · cases h
        · rename_i h3
          cases h
          have hs : x.toNat % 128 = x.toNat := by omega
          have ev : vi x.toNat = [x] := by rw [vi_small (by omega), UInt8.ofNat_toNat]
          refine ⟨x.toNat, by rw [hs], by rw [ev]; rfl, by rw [ev]; rfl, fun hk0 => ?_, ?_⟩
          · refine Classical.byContradiction fun hh => h3 ⟨by omega, hk0⟩
          · by_cases hk9 : k = 9
            · subst hk9
              have : x.toNat + 1 ≤ 2 := by
                refine Classical.byContradiction fun hh => h1 ⟨rfl, by omega⟩
              rw [h9]
              omega
            · have h8 : (128 : Nat) ^ k ≤ 128 ^ 8 := Nat.pow_le_pow_right (by decide) (by omega)
              have h8' : (128 : Nat) ^ 8 = 72057594037927936 := rfl
              have := Nat.mul_le_mul (show x.toNat + 1 ≤ 128 by omega) h8
              omega
theorem vg_short : ∀ (T : List UInt8) (k acc N c j : Nat), vgGo k acc T = (0, N, c) → k + j < c → vgGo k acc (T.take j) = (5, 0, 0)
  | [], k, acc, N, c, j, h, _ => by unfold vgGo at h; cases h
  | x :: t, k, acc, N, c, 0, h, _ => by simp; rfl
  | x :: t, k, acc, N, c, j + 1, h, hj => by
    rw [List.take_succ_cons]
    unfold vgGo at h ⊢
    split at h
    · cases h
    · rename_i h1
      rw [if_neg h1]
      split at h
      · rename_i h2
        rw [if_pos h2]
        exact vg_short t (k + 1) _ N c j h (by omega)
      · split at h
        · cases h
        · cases h
          omega
theorem num_reads : Reads num vi (· < 18446744073709551616) := by
  have forth : ∀ (x : Nat) (S : List UInt8), x < 18446744073709551616 → num (vi x ++ S) = .ok (x, (vi x).length) := fun x S hx => by
    unfold num
    rw [vg_vi x 0 0 S (by simpa using hx) (fun h => by omega)]
    simp
  refine ⟨fun T x c h => ?_, forth, fun x j hx hj => ?_⟩
  · unfold num at h
    split at h
    · rename_i h0
      obtain ⟨hx, rfl⟩ := Prod.mk.inj (Except.ok.inj h)
      have hv : vgGo 0 0 T = (0, x, (vgGo 0 0 T).2.2) := Prod.ext h0 (Prod.ext hx rfl)
      obtain ⟨m, e1, e2, e3, _, e5⟩ := vg_back T 0 0 _ _ (by omega) hv
      simp at e1 e2 e5
      subst e1
      rw [e2]
      exact ⟨by omega, rfl, e3⟩
    · cases h
  · have h := forth x [] hx
    rw [List.append_nil] at h
    unfold num at h ⊢
    split at h
    · rename_i h0
      obtain ⟨h1, h2⟩ := Prod.mk.inj (Except.ok.inj h)
      have hv : vgGo 0 0 (vi x) = (0, x, (vi x).length) := Prod.ext h0 (Prod.ext h1 h2)
      rw [vg_short (vi x) 0 0 _ _ j hv (by omega)]
      rfl
    · cases h

/-! ### One behind the other, as many as are told, with a check behind -/
def seqP {α β : Type} (p : Rdr α) (q : Rdr β) : Rdr (α × β) := fun T => match p T with
  | .error e => .error e
  | .ok (x, c) => match q (T.drop c) with
    | .error e => .error e
    | .ok (y, d) => .ok ((x, y), c + d)
theorem seq_reads {α β : Type} {p : Rdr α} {q : Rdr β} {wp : α → List UInt8} {wq : β → List UInt8} {okp : α → Prop} {okq : β → Prop} (hp : Reads p wp okp) (hq : Reads q wq okq) :
    Reads (seqP p q) (fun z => wp z.1 ++ wq z.2) (fun z => okp z.1 ∧ okq z.2) := by
  refine ⟨fun T z c h => ?_, fun z S hz => ?_, fun z j hz hj => ?_⟩
  · unfold seqP at h
    split at h
    · cases h
    · rename_i x c1 h1
      split at h
      · cases h
      · rename_i y d h2
        cases h
        obtain ⟨a1, a2, a3⟩ := hp.back T x c1 h1
        obtain ⟨b1, b2, b3⟩ := hq.back _ y d h2
        refine ⟨⟨a1, b1⟩, by rw [List.length_append, a2, b2], ?_⟩
        rw [List.take_add, a3, b3]
  · unfold seqP
    rw [List.append_assoc, hp.forth z.1 _ hz.1]
    simp only
    rw [List.drop_left, hq.forth z.2 S hz.2]
    simp
  · unfold seqP
    by_cases h : j < (wp z.1).length
    · rw [List.take_append_of_le_length (by omega), hp.short z.1 j hz.1 h]
    · have e : (wp z.1 ++ wq z.2).take j = wp z.1 ++ (wq z.2).take (j - (wp z.1).length) := by
        rw [List.take_append, List.take_of_length_le (by omega)]
      rw [e, hp.forth z.1 _ hz.1]
      simp only
      rw [List.drop_left, hq.short z.2 _ hz.2 (by rw [List.length_append] at hj; omega)]
def mapP {α β : Type} (f : α → β) (p : Rdr α) : Rdr β := fun T => match p T with
  | .error e => .error e
  | .ok (x, c) => .ok (f x, c)
theorem map_reads {α β : Type} {p : Rdr α} {wp : α → List UInt8} {okp : α → Prop} (f : α → β) (g : β → α) (okb : β → Prop) (h1 : ∀ x, okp x → g (f x) = x ∧ okb (f x)) (h2 : ∀ y, okb y → f (g y) = y ∧ okp (g y)) (hp : Reads p wp okp) :
    Reads (mapP f p) (fun y => wp (g y)) okb := by
  refine ⟨fun T z c h => ?_, fun z S hz => ?_, fun z j hz hj => ?_⟩
  · unfold mapP at h
    split at h
    · cases h
    · rename_i x c1 h3
      cases h
      obtain ⟨a1, a2, a3⟩ := hp.back T x c h3
      rw [(h1 x a1).1]
      exact ⟨(h1 x a1).2, a2, a3⟩
  · unfold mapP
    rw [hp.forth _ _ (h2 z hz).2]
    simp [(h2 z hz).1]
  · unfold mapP
    rw [hp.short _ _ (h2 z hz).2 hj]
def repP {α : Type} (q : Rdr α) : Nat → Rdr (List α)
  | 0 => fun _ => .ok ([], 0)
  | k + 1 => fun T => match q T with
    | .error e => .error e
    | .ok (x, c) => match repP q k (T.drop c) with
      | .error e => .error e
      | .ok (l, d) => .ok (x :: l, c + d)
theorem rep_reads {α : Type} {q : Rdr α} {wq : α → List UInt8} {okq : α → Prop} (hq : Reads q wq okq) : ∀ k, Reads (repP q k) (fun l => l.flatMap wq) (fun l => l.length = k ∧ ∀ x ∈ l, okq x)
  | 0 => by
    refine ⟨fun T z c h => ?_, fun z S hz => ?_, fun z j hz hj => ?_⟩
    · unfold repP at h
      cases h
      exact ⟨⟨rfl, fun x hx => by simp at hx⟩, rfl, rfl⟩
    · obtain rfl := List.eq_nil_of_length_eq_zero hz.1
      rfl
    · obtain rfl := List.eq_nil_of_length_eq_zero hz.1
      simp at hj
  | k + 1 => by
    have hs := seq_reads hq (rep_reads hq k)
    have he : repP q (k + 1) = mapP (fun z : α × List α => z.1 :: z.2) (seqP q (repP q k)) := by
      funext T
      conv => lhs; unfold repP
      unfold mapP seqP
      cases q T with
      | error e => rfl
      | ok v =>
        simp only
        cases repP q k (T.drop v.2) with
        | error e => rfl
        | ok v2 => rfl
    rw [he]
    refine ⟨fun T z c h => ?_, fun z S hz => ?_, fun z j hz hj => ?_⟩
    · unfold mapP at h
      split at h
      · cases h
      · rename_i x c1 h3
        cases h
        obtain ⟨⟨a0, a1, a1'⟩, a2, a3⟩ := hs.back T x c h3
        refine ⟨⟨by simp; omega, fun y hy => ?_⟩, a2, a3⟩
        rcases List.mem_cons.1 hy with rfl | hy
        · exact a0
        · exact a1' y hy
    · obtain ⟨hl, hz⟩ := hz
      cases z with
      | nil => simp at hl
      | cons x l =>
        unfold mapP
        have := hs.forth (x, l) S ⟨hz x (by simp), by simpa using hl, fun y hy => hz y (by simp [hy])⟩
        simp only [List.flatMap_cons] at this ⊢
        rw [this]
    · obtain ⟨hl, hz⟩ := hz
      cases z with
      | nil => simp at hl
      | cons x l =>
        unfold mapP
        have := hs.short (x, l) j ⟨hz x (by simp), by simpa using hl, fun y hy => hz y (by simp [hy])⟩ (by simpa using hj)
        simp only [List.flatMap_cons] at this ⊢
        rw [this]
def cntP {α : Type} (most : Nat) (q : Rdr α) : Rdr (List α) := fun T => match num T with
  | .error e => .error e
  | .ok (n, c) => if most < n then .error 3 else match repP q n (T.drop c) with
    | .error e => .error e
    | .ok (l, d) => .ok (l, c + d)
theorem cnt_reads {α : Type} {q : Rdr α} {wq : α → List UInt8} {okq : α → Prop} (hq : Reads q wq okq) (most : Nat) (hm : most < 18446744073709551616) :
    Reads (cntP most q) (fun l => vi l.length ++ l.flatMap wq) (fun l => l.length ≤ most ∧ ∀ x ∈ l, okq x) := by
  refine ⟨fun T z c h => ?_, fun z S hz => ?_, fun z j hz hj => ?_⟩
  · unfold cntP at h
    split at h
    · cases h
    · rename_i n c1 h1
      split at h
      · cases h
      · rename_i hn
        split at h
        · cases h
        · rename_i l d h2
          cases h
          obtain ⟨a1, a2, a3⟩ := num_reads.back T n c1 h1
          obtain ⟨b1, b2, b3⟩ := (rep_reads hq n).back _ z d h2
          obtain ⟨b0, b1⟩ := b1
          subst b0
          refine ⟨⟨by omega, b1⟩, by rw [List.length_append, a2, b2], ?_⟩
          rw [List.take_add, a3, b3]
  · unfold cntP
    rw [List.append_assoc, num_reads.forth z.length _ (by omega)]
    simp only
    rw [if_neg (by omega), List.drop_left, (rep_reads hq z.length).forth z S ⟨rfl, hz.2⟩]
    simp
  · unfold cntP
    by_cases h : j < (vi z.length).length
    · rw [List.take_append_of_le_length (by omega), num_reads.short z.length j (by omega) h]
    · have e : (vi z.length ++ z.flatMap wq).take j = vi z.length ++ (z.flatMap wq).take (j - (vi z.length).length) := by
        rw [List.take_append, List.take_of_length_le (by omega)]
      rw [e, num_reads.forth z.length _ (by omega)]
      simp only
      rw [if_neg (by omega), List.drop_left, (rep_reads hq z.length).short z _ ⟨rfl, hz.2⟩ (by rw [List.length_append] at hj; omega)]
def chkP {α : Type} (chk : α → Int) (p : Rdr α) : Rdr α := fun T => match p T with
  | .error e => .error e
  | .ok (x, c) => if chk x = 0 then .ok (x, c) else .error (chk x)
theorem chk_reads {α : Type} {p : Rdr α} {wp : α → List UInt8} {okp : α → Prop} (chk : α → Int) (hp : Reads p wp okp) : Reads (chkP chk p) wp (fun x => okp x ∧ chk x = 0) := by
  refine ⟨fun T z c h => ?_, fun z S hz => ?_, fun z j hz hj => ?_⟩
  · unfold chkP at h
    split at h
    · cases h
    · rename_i x c1 h1
      split at h
      · rename_i h2
        cases h
        obtain ⟨a1, a2, a3⟩ := hp.back T z c h1
        exact ⟨⟨a1, h2⟩, a2, a3⟩
      · cases h
  · unfold chkP
    rw [hp.forth z S hz.1]
    simp [hz.2]
  · unfold chkP
    rw [hp.short z j hz.1 hj]
/-- A text: its length, its bytes. -/
def txtP : Rdr (List UInt8) := fun T => match num T with
  | .error e => .error e
  | .ok (n, c) => if T.length - c < n then .error 5 else .ok ((T.drop c).take n, c + n)
def wTxt (s : List UInt8) : List UInt8 := vi s.length ++ s
theorem txt_reads : Reads txtP wTxt (fun s => s.length < 18446744073709551616) := by
  refine ⟨fun T z c h => ?_, fun z S hz => ?_, fun z j hz hj => ?_⟩
  · unfold txtP at h
    split at h
    · cases h
    · rename_i n c1 h1
      split at h
      · cases h
      · rename_i hn
        have hT := num_reads.len h1
        obtain ⟨rfl, rfl⟩ := Prod.mk.inj (Except.ok.inj h)
        obtain ⟨a1, a2, a3⟩ := num_reads.back T n c1 h1
        have hl : ((T.drop c1).take n).length = n := by rw [List.length_take, List.length_drop]; omega
        refine ⟨by rw [hl]; exact a1, by unfold wTxt; rw [List.length_append, hl, a2], ?_⟩
        unfold wTxt
        rw [List.take_add, a3, hl]
  · unfold txtP wTxt
    rw [List.append_assoc, num_reads.forth z.length _ hz]
    simp only
    rw [if_neg (by simp), List.drop_left, List.take_left, List.length_append]
  · unfold txtP wTxt
    unfold wTxt at hj
    by_cases h : j < (vi z.length).length
    · rw [List.take_append_of_le_length (by omega), num_reads.short z.length j hz h]
    · have e : (vi z.length ++ z).take j = vi z.length ++ z.take (j - (vi z.length).length) := by
        rw [List.take_append, List.take_of_length_le (by omega)]
      rw [e, num_reads.forth z.length _ hz]
      simp only
      rw [if_pos]
      rw [List.length_append] at hj ⊢
      rw [List.length_take]
      omega
end Go.Proofs.YtljnbbdhmlfhjaaGreatDoor
/-
  Plain: records, their check, their bytes, what is read of bytes.
-/
namespace Go.Proofs.YtljnbbdhmlfhjaaGreatDoor

structure Rec where
  time : Int
  seq : Nat
  labs : List Lab
  line : ByteArray
def chkRec (r : Rec) : Int := if canonE r.labs ≠ 0 then canonE r.labs else if canonL r.labs ≠ r.labs then 6 else if 1024 < r.line.size then 4 else if Lib.validD r.line.data.toList = false then 8 else 0
def strP : Rdr ByteArray := mapP (fun l => ⟨l.toArray⟩) txtP
def wStr (s : ByteArray) : List UInt8 := wTxt s.data.toList
def labP : Rdr Lab := seqP strP strP
def wLab (x : Lab) : List UInt8 := wStr x.1 ++ wStr x.2
def mkRec (z : (Nat × Nat) × (List Lab × ByteArray)) : Rec := ⟨zag z.1.1, z.1.2, z.2.1, z.2.2⟩
def unRec (r : Rec) : (Nat × Nat) × (List Lab × ByteArray) := (((zig r.time).toNat, r.seq), (r.labs, r.line))
def recP : Rdr Rec := chkP chkRec (mapP mkRec (seqP (seqP num num) (seqP (cntP 16 labP) strP)))
def wRec (r : Rec) : List UInt8 := (vi (zig r.time).toNat ++ vi r.seq) ++ ((vi r.labs.length ++ r.labs.flatMap wLab) ++ wStr r.line)
def okStr (s : ByteArray) : Prop := s.size < 18446744073709551616
def okRec (r : Rec) : Prop := (-9223372036854775808 ≤ r.time ∧ r.time ≤ 9223372036854775807 ∧ r.seq < 18446744073709551616 ∧ (r.labs.length ≤ 16 ∧ ∀ x ∈ r.labs, okStr x.1 ∧ okStr x.2) ∧ okStr r.line) ∧ chkRec r = 0
theorem zag_zig (n : Int) : zag (zig n) = n := by
  unfold zig zag
  split <;> split <;> omega
theorem zig_zag {u : Int} (h : 0 ≤ u) : zig (zag u) = u := by
  unfold zig zag
  split <;> split <;> omega
theorem zig_range {n : Int} (h1 : -9223372036854775808 ≤ n) (h2 : n ≤ 9223372036854775807) : 0 ≤ zig n ∧ zig n < 18446744073709551616 := by
  unfold zig
  split <;> omega
theorem zag_range {u : Int} (h1 : 0 ≤ u) (h2 : u < 18446744073709551616) : -9223372036854775808 ≤ zag u ∧ zag u ≤ 9223372036854775807 := by
  unfold zag
  split <;> omega
theorem str_reads : Reads strP wStr okStr :=
  map_reads (fun l : List UInt8 => (⟨l.toArray⟩ : ByteArray)) (fun s : ByteArray => s.data.toList) okStr (fun x hx => ⟨rfl, by unfold okStr; show (x.toArray).size < _; simpa using hx⟩) (fun y hy => ⟨rfl, by unfold okStr at hy; simpa using hy⟩) txt_reads
theorem lab_reads : Reads labP wLab (fun x => okStr x.1 ∧ okStr x.2) := seq_reads str_reads str_reads
theorem rec_reads : Reads recP wRec okRec :=
  chk_reads chkRec (map_reads mkRec unRec (fun r => -9223372036854775808 ≤ r.time ∧ r.time ≤ 9223372036854775807 ∧ r.seq < 18446744073709551616 ∧ (r.labs.length ≤ 16 ∧ ∀ x ∈ r.labs, okStr x.1 ∧ okStr x.2) ∧ okStr r.line)
    (fun x hx => by
      obtain ⟨⟨h1, h2⟩, h3, h4⟩ := hx
      have hz := zig_zag (u := (x.1.1 : Int)) (by omega)
      have hr := zag_range (u := (x.1.1 : Int)) (by omega) (by omega)
      refine ⟨?_, hr.1, hr.2, h2, h3, h4⟩
      show (((zig (zag (x.1.1 : Int))).toNat, x.1.2), (x.2.1, x.2.2)) = x
      rw [hz]
      rfl)
    (fun y hy => by
      obtain ⟨h1, h2, h3, h4, h5⟩ := hy
      have hr := zig_range h1 h2
      refine ⟨?_, ⟨?_, h3⟩, h4, h5⟩
      · show (⟨zag ((zig y.time).toNat : Int), y.seq, y.labs, y.line⟩ : Rec) = y
        rw [show (((zig y.time).toNat : Nat) : Int) = zig y.time by omega, zag_zig]
      · show (zig y.time).toNat < _
        omega)
    (seq_reads (seq_reads num_reads num_reads) (seq_reads (cnt_reads lab_reads 16 (by decide)) str_reads)))
def batP : Rdr (List Rec) := cntP 65536 recP
def wBat (l : List Rec) : List UInt8 := vi l.length ++ l.flatMap wRec
theorem bat_reads : Reads batP wBat (fun l => l.length ≤ 65536 ∧ ∀ r ∈ l, okRec r) := cnt_reads rec_reads 65536 (by decide)
/-- All of the bytes, as records. -/
def getAll (b : List UInt8) : Except Int (List Rec) := match batP b with
  | .error e => .error e
  | .ok (l, c) => if c < b.length then .error 6 else .ok l
def putBad : List Rec → Int
  | [] => 0
  | r :: l => if chkRec r ≠ 0 then chkRec r else putBad l
def putAll (l : List Rec) : Except Int (List UInt8) := if 65536 < l.length then .error 3 else if putBad l ≠ 0 then .error (putBad l) else .ok (wBat l)
/-- What the machine's arguments are: a record's fields in their bounds. -/
def inRec (r : Rec) : Prop := -9223372036854775808 ≤ r.time ∧ r.time ≤ 9223372036854775807 ∧ r.seq < 18446744073709551616 ∧ (∀ x ∈ r.labs, okStr x.1 ∧ okStr x.2) ∧ okStr r.line
theorem canonE_16 {L : List Lab} (h : canonE L = 0) : L.length ≤ 16 := by
  unfold canonE at h
  split at h
  · omega
  · omega
theorem ok_of {r : Rec} (h : inRec r) (hc : chkRec r = 0) : okRec r := by
  refine ⟨⟨h.1, h.2.1, h.2.2.1, ⟨?_, h.2.2.2.1⟩, h.2.2.2.2⟩, hc⟩
  unfold chkRec at hc
  split at hc
  · rename_i h1
    exact absurd hc h1
  · rename_i h1
    exact canonE_16 (Classical.byContradiction h1)
theorem putBad_zero {l : List Rec} (h : putBad l = 0) : ∀ r ∈ l, chkRec r = 0 := by
  induction l with
  | nil => intro r hr; simp at hr
  | cons x l ih =>
    unfold putBad at h
    split at h
    · rename_i h1
      exact absurd h h1
    · rename_i h1
      intro r hr
      rcases List.mem_cons.1 hr with rfl | hr
      · exact Classical.byContradiction h1
      · exact ih h r hr
theorem putBad_all {l : List Rec} (h : ∀ r ∈ l, chkRec r = 0) : putBad l = 0 := by
  induction l with
  | nil => rfl
  | cons x l ih =>
    unfold putBad
    rw [if_neg (by simp [h x (by simp)])]
    exact ih fun r hr => h r (by simp [hr])
theorem putAll_ok {l : List Rec} {c : List UInt8} (hl : ∀ r ∈ l, inRec r) (h : putAll l = .ok c) : c = wBat l ∧ l.length ≤ 65536 ∧ ∀ r ∈ l, okRec r := by
  unfold putAll at h
  split at h
  · cases h
  · split at h
    · cases h
    · rename_i h1 h2
      cases h
      exact ⟨rfl, by omega, fun r hr => ok_of (hl r hr) (putBad_zero (Classical.byContradiction h2) r hr)⟩
/-- What was written is read as it was. -/
theorem get_put {l : List Rec} {c : List UInt8} (hl : ∀ r ∈ l, inRec r) (h : putAll l = .ok c) : getAll c = .ok l := by
  obtain ⟨rfl, h1, h2⟩ := putAll_ok hl h
  have := bat_reads.forth l [] ⟨h1, h2⟩
  rw [List.append_nil] at this
  unfold getAll
  rw [this]
  simp
theorem get_short {l : List Rec} {c : List UInt8} (hl : ∀ r ∈ l, inRec r) (h : putAll l = .ok c) {k : Nat} (hk : k < c.length) : getAll (c.take k) = .error 5 := by
  obtain ⟨rfl, h1, h2⟩ := putAll_ok hl h
  unfold getAll
  rw [bat_reads.short l k ⟨h1, h2⟩ hk]
theorem get_more {l : List Rec} {c : List UInt8} (hl : ∀ r ∈ l, inRec r) (h : putAll l = .ok c) (x : UInt8) : getAll (c ++ [x]) = .error 6 := by
  obtain ⟨rfl, h1, h2⟩ := putAll_ok hl h
  unfold getAll
  rw [bat_reads.forth l [x] ⟨h1, h2⟩]
  simp
/-- What is read is written as it was. -/
theorem put_get {b : List UInt8} {l : List Rec} (h : getAll b = .ok l) : putAll l = .ok b ∧ ∀ r ∈ l, okRec r := by
  unfold getAll at h
  split at h
  · cases h
  · rename_i l' c h1
    split at h
    · cases h
    · rename_i h2
      cases h
      obtain ⟨⟨a1, a1'⟩, a2, a3⟩ := bat_reads.back b l c h1
      have hc := bat_reads.len h1
      unfold putAll
      rw [if_neg (by omega), if_neg (by simp [putBad_all fun r hr => (a1' r hr).2]), ← a3, List.take_of_length_le (by omega)]
      exact ⟨rfl, a1'⟩
theorem wStr_len (s : ByteArray) (h : s.size < 18446744073709551616) : (wStr s).length ≤ 10 + s.size := by
  unfold wStr wTxt
  have := vi_len s.data.toList.length (by simpa using h)
  rw [List.length_append]
  simp only [Array.length_toList, ByteArray.size_data] at this ⊢
  omega
end Go.Proofs.YtljnbbdhmlfhjaaGreatDoor
/-
  Records as values; their order: record.Compare and the reference's.
-/
namespace Go.Proofs.YtljnbbdhmlfhjaaGreatDoor
open Go.RowKit
def recV (r : Rec) (lv : Value) : Value := .agg #[.int .i64 r.time, .int .u64 (r.seq : Int), lv, .string r.line]
def cmpI (a b : Int) : Int := if a < b then -1 else if a = b then 0 else 1
def cmpRec (a b : Rec) : Int := orI (cmpI a.time b.time) (cmpI a.seq b.seq)
/-- Two blocks, one behind the other, in every later world. -/
theorem two_new (W : World) (c d : Array Value) (t u : TypeId) : ∀ w', Below ((W.alloc (.cells c t)).alloc (.cells d u)).heap.size ((W.alloc (.cells c t)).alloc (.cells d u)) w' →
    ∀ j, w'.cell? ⟨W.heap.size, j, none⟩ = c[j]? ∧ w'.cell? ⟨W.heap.size + 1, j, none⟩ = d[j]? := by
  intro w' hb j
  have s1 : (W.alloc (.cells c t)).heap.size = W.heap.size + 1 := by simp
  have s2 : ((W.alloc (.cells c t)).alloc (.cells d u)).heap.size = W.heap.size + 2 := by simp
  have k1 := fun j => cell_of_row ((W.alloc (.cells c t)).alloc (.cells d u)) W.heap.size j c t (0, 0) (by rw [heap_alloc_old _ _ (by omega)]; exact heap_alloc_new _ _)
  have k2 := fun j => cell_of_row ((W.alloc (.cells c t)).alloc (.cells d u)) (W.heap.size + 1) j d u (0, 0) (by rw [← s1]; exact heap_alloc_new _ _)
  refine ⟨?_, ?_⟩
  · rw [hb.cell (p := ⟨W.heap.size, j, none⟩) (show W.heap.size < _ by omega), k1]
  · rw [hb.cell (p := ⟨W.heap.size + 1, j, none⟩) (show W.heap.size + 1 < _ by omega), k2]
theorem one_new (W : World) (c : Array Value) (t : TypeId) : ∀ w', Below (W.alloc (.cells c t)).heap.size (W.alloc (.cells c t)) w' → ∀ j, w'.cell? ⟨W.heap.size, j, none⟩ = c[j]? := by
  intro w' hb j
  have s1 : (W.alloc (.cells c t)).heap.size = W.heap.size + 1 := by simp
  rw [hb.cell (p := ⟨W.heap.size, j, none⟩) (show W.heap.size < _ by omega), cell_of_row _ W.heap.size j c t (0, 0) (heap_alloc_new _ _)]
def cmpZ (x y s t : Int) : Int := if x < y ∨ x = y ∧ s < t then -1 else if x = y ∧ s = t then 0 else 1
theorem cmpRec_eq (a b : Rec) : cmpZ a.time b.time a.seq b.seq = cmpRec a b := by
  unfold cmpZ cmpRec orI cmpI
  repeat' split
  all_goals omega
end Go.Proofs.YtljnbbdhmlfhjaaGreatDoor
/-
  A text's bytes: record.text, the reference's Text; the reference's Put of numbers.
-/
namespace Go.Proofs.YtljnbbdhmlfhjaaGreatDoor
open Go.RowKit
/-- Bytes in memory of the call's own. -/
def OB (w : World) (B : Nat) (v : Value) (l : List UInt8) : Prop := w.ownsRow B 5 1 v l.length (Lib.byteCells l)
theorem E8 : ElemT Tryz.prog 22 5 (.int .u8 0) 1 1 := ⟨Tryz.underlying22, by kernel_rfl, rfl, by decide⟩
theorem src_bstr {P : Program} {tx : TypeId} (hk : P.underlying tx = some .string) (s : ByteArray) (w : World) : Src P 1 tx (.string s) s.size (Lib.byteCells s.data.toList) w := Src.ofString (w := w) hk s
theorem OB.src {w : World} {B : Nat} {v : Value} {l : List UInt8} (h : OB w B v l) : Src Tryz.prog 1 22 v l.length (Lib.byteCells l) w :=
  src_arg Tryz.underlying22 (argRow_owns h) (byteCells_one l)
theorem arg_lit (w : World) (cs : Array Value) (t : TypeId) (n : Nat) (hn : cs.size = n) (hm : n ≤ maxLen) : argRow (w.alloc (.cells cs t)) (.slice (some ⟨w.heap.size, 0, none⟩) n n) n 1 cs.toList :=
  argRow_owns (owns_new w cs t n hn hm)
theorem wStr_len' (s : ByteArray) (h : s.size ≤ 1099511627776) : (wStr s).length ≤ 10 + s.size ∧ (vi s.size).length ≤ 10 :=
  ⟨wStr_len s (by omega), vi_len _ (by omega)⟩
theorem wStr_eq (s : ByteArray) : wStr s = vi s.size ++ s.data.toList := by
  unfold wStr wTxt
  simp [ByteArray.size_data]
end Go.Proofs.YtljnbbdhmlfhjaaGreatDoor
