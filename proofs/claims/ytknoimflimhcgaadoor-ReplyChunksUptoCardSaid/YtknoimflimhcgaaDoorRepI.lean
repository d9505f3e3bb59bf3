/-
  The contracts of the reference's Digits and Chunk, and of reply.Chunk.
-/
import Derived.Test.YtknoimflimhcgaaDoorRepH
import Derived.Lib.ItoaNum
import Derived.Lib.ItoaMem
import Derived.Lib.ItoaLen
namespace Go.Proofs.YtknoimflimhcgaaDoor
open Go.RowKit

theorem bap (a b : Byt) : (⟨(a ++ b).toArray⟩ : ByteArray) = (⟨a.toArray⟩ : ByteArray) ++ (⟨b.toArray⟩ : ByteArray) := by
  apply ByteArray.ext
  rw [ByteArray.data_append]
  simp
theorem bap2 (a b : Byt) : (⟨a.toArray⟩ : ByteArray) ++ (⟨b.toArray⟩ : ByteArray) = ⟨(a ++ b).toArray⟩ := (bap a b).symm
theorem decDigits_step {u : Nat} (h : 10 ≤ u) : Lib.decDigits u = Lib.decDigits (u / 10) ++ [UInt8.ofNat (48 + u % 10)] := by
  rw [Lib.decDigits, dif_neg (by omega)]
theorem decDigits_len {u : Nat} (h : u < 9223372036854775808) : (Lib.decDigits u).length ≤ 21 := by
  rw [← Lib.itoa_nonneg]
  exact Lib.itoa_length_le _ (by omega) (by omega)
/-- string([]byte{c}). -/
theorem conv_one (W : World) (c : UInt8) (z : Int) (hz : z = (c.toNat : Int)) : (convert 22 9 (.slice (some ⟨W.heap.size, 0, none⟩) 1 1)).run Tryd.prog (W.alloc (.cells #[.int .u8 z] 5)) = .ok (.string ⟨#[c]⟩) (W.alloc (.cells #[.int .u8 z] 5)) := by
  subst hz
  exact conv_cells (P := Tryd.prog) (w := W.alloc (.cells #[.int .u8 (c.toNat : Int)] 5)) (src := 22) (dst := 9) (g := W.heap.size) (off := 0) (cap := 1) (l := [c]) Tryd.underlying22 Tryd.underlying5 Tryd.underlying9 (fun j hj => by
    obtain rfl : j = 0 := by simpa using hj
    rw [cell_of_row _ W.heap.size _ _ _ _ (heap_alloc_new _ _)]
    rfl)
theorem dig_nat {d : Nat} (h : d < 10) : (48 : Int) + (d : Int) = ((UInt8.ofNat (48 + d)).toNat : Int) := by
  rw [UInt8.toNat_ofNat']
  omega

set_option maxRecDepth 100000 in
set_option maxHeartbeats 4000000 in
theorem ref_Digits (N : Nat) (w : World) (hN : N < 9223372036854775808) :
    Calls Tryd.prog 23 #[.int .u64 (N : Int)] w fun e w' => e = .returned (.string ⟨(Lib.decDigits N).toArray⟩) ∧ Below w.heap.size w w' := by
  obtain ⟨R, hR⟩ : ∃ R, Lib.decDigits N = R := ⟨_, rfl⟩
  rw [hR]
  have HR := Lib.hid hR
  clear hR
  go_enter Tryd.func23, Tryd.ntmps23
  go_wp2
  go_loopw [0, 3] (fun nv sv wr => ∃ (m : Nat) (S : Byt), nv = .int .u64 m ∧ sv = .string ⟨S.toArray⟩ ∧ m ≤ N ∧ Lib.decDigits m ++ S = R ∧ Below w.heap.size w wr) (fun nv _ _ => (intOf nv).toNat)
  case atStart => exact ⟨N, [], rfl, rfl, Nat.le_refl _, by rw [List.append_nil]; exact HR.out, Below.refl _ _⟩
  case round =>
    obtain ⟨m, S, rfl, rfl, hm, hS, hbr⟩ := hrel
    have HS := Lib.hid hS
    have hSl : S.length ≤ 21 := by
      have h1 := congrArg List.length hS
      rw [List.length_append, ← HR.out] at h1
      have := decDigits_len hN
      omega
    clear hS
    have hszr := hbr.size
    by_cases h10 : 10 ≤ m
    · have t1 : ((m : Int)).tmod 10 = ((m % 10 : Nat) : Int) := by rw [Int.tmod_eq_emod_of_nonneg (by omega)]; omega
      have t2 : ((m : Int)).tdiv 10 = ((m / 10 : Nat) : Int) := by rw [Int.tdiv_eq_ediv_of_nonneg (by omega)]; omega
      have hst := decDigits_step h10
      have hd : m % 10 < 10 := Nat.mod_lt _ (by decide)
      have hq : m / 10 < m := by omega
      generalize m % 10 = d at *
      generalize m / 10 = q at *
      have HST := Lib.hid hst
      have kc := fun W => conv_one W (UInt8.ofNat (48 + d)) _ (dig_nat hd)
      have h10' : (10 : Int) ≤ (m : Int) := by omega
      clear hst
      generalize UInt8.ofNat (48 + d) = c at *
      go_wp2
      go_roundw
      case rel => exact ⟨q, c :: S, by go_num, by rw [bap2]; rfl, by omega, by have := HS.out; rw [HST.out, List.append_assoc] at this; exact this, hbr.alloc hszr _⟩
      case measure => simp [intOf]; omega
    · have hd : m < 10 := by omega
      have hone := Lib.decDigits_one hd
      have HONE := Lib.hid hone
      have kc := fun W => conv_one W (UInt8.ofNat (48 + m)) _ (dig_nat hd)
      have h10' : ¬ (10 : Int) ≤ (m : Int) := by omega
      clear hone
      generalize UInt8.ofNat (48 + m) = c at *
      go_wp2
      go_ret
      exact ⟨by rw [← HS.out, HONE.out, bap]; rfl, hbr.alloc hszr _⟩

/-- A chunk as the document writes it. -/
def chunkOf (b : Byt) : Byt := if b = [] then [] else hexD b.length ++ [13, 10] ++ b ++ [13, 10]
theorem dig_slice (d : Nat) (hd : d < 16) : (⟨#[48, 49, 50, 51, 52, 53, 54, 55, 56, 57, 97, 98, 99, 100, 101, 102]⟩ : ByteArray).extract d (d + 1) = ⟨#[dig d]⟩ := by
  have : ∀ d : Fin 16, (⟨#[48, 49, 50, 51, 52, 53, 54, 55, 56, 57, 97, 98, 99, 100, 101, 102]⟩ : ByteArray).extract d.val (d.val + 1) = ⟨#[dig d.val]⟩ := by decide +kernel
  exact this ⟨d, hd⟩

theorem hexGo_len : ∀ f n, (hexGo f n).length ≤ f + 1
  | 0, n => by simp [hexGo]
  | f + 1, n => by
    simp only [hexGo]
    split
    · simp
    · have := hexGo_len f (n / 16)
      simp only [List.length_append, List.length_singleton]
      omega
theorem hexD_len (n : Nat) : (hexD n).length ≤ 17 := hexGo_len 16 n

set_option maxRecDepth 100000 in
set_option maxHeartbeats 4000000 in
theorem ref_Chunk (b : Byt) (w : World) (hb : b.length ≤ 1000000000) :
    Calls Tryd.prog 16 #[.string ⟨b.toArray⟩] w fun e w' => e = .returned (.string ⟨(chunkOf b).toArray⟩) ∧ w = w' := by
  obtain ⟨R, hR⟩ : ∃ R, chunkOf b = R := ⟨_, rfl⟩
  rw [hR]
  have HR := Lib.hid hR
  clear hR
  have hem := str_ne b
  by_cases hb0 : b = []
  · subst hb0
    have hfin : R = [] := by rw [← HR.out]; rfl
    rw [hfin]
    go_enter Tryd.func16, Tryd.ntmps16
    go_wp2
    go_ret
    exact ⟨rfl, rfl⟩
  · rw [decide_eq_false hb0] at hem
    have hfin : hexD b.length ++ [13, 10] ++ b ++ [13, 10] = R := by rw [← HR.out, chunkOf, if_neg hb0]
    have HFIN := Lib.hid hfin
    have hl0 : 0 < b.length := List.length_pos_iff.2 hb0
    clear hfin hb0
    have hsz : (⟨b.toArray⟩ : ByteArray).size = b.length := by simp [ByteArray.size]
    go_enter Tryd.func16, Tryd.ntmps16
    go_wp2
    go_loop [3, 4] (fun sv nv => ∃ (m : Nat) (S : Byt), nv = .int .i64 m ∧ sv = .string ⟨S.toArray⟩ ∧ m ≤ b.length ∧ (0 < m → hexD m ++ S = hexD b.length) ∧ (m = 0 → S = hexD b.length)) (fun _ nv => (intOf nv).toNat)
    case atStart => exact ⟨b.length, [], by rfl, rfl, Nat.le_refl _, (fun _ => List.append_nil _), (fun h => by omega)⟩
    case round =>
      obtain ⟨m, S, rfl, rfl, hm, hS, hS0⟩ := hrel
      have HS := Lib.hid hS
      have HS0 := Lib.hid hS0
      have hSl : S.length ≤ 17 := by
        have := hexD_len b.length
        rcases Nat.eq_zero_or_pos m with h | h
        · rw [hS0 h]; exact this
        · have h1 := congrArg List.length (hS h)
          rw [List.length_append] at h1
          omega
      clear hS hS0
      by_cases h0 : 0 < m
      · have t1 : ((m : Int)).tmod 16 = ((m % 16 : Nat) : Int) := by rw [Int.tmod_eq_emod_of_nonneg (by omega)]; omega
        have t2 : ((m : Int)).tdiv 16 = ((m / 16 : Nat) : Int) := by rw [Int.tdiv_eq_ediv_of_nonneg (by omega)]; omega
        have hd : m % 16 < 16 := Nat.mod_lt _ (by decide)
        have hq : m / 16 < m := by omega
        have hsm : m / 16 = 0 → hexD m = [dig (m % 16)] := fun h => by rw [hexD_small (by omega), Nat.mod_eq_of_lt (by omega)]
        have hbg : 0 < m / 16 → hexD m = hexD (m / 16) ++ [dig (m % 16)] := fun h => hexD_big (by omega) (by omega)
        have ks := dig_slice (m % 16) hd
        generalize m % 16 = d at *
        generalize m / 16 = q at *
        have HSM := Lib.hid hsm
        have HBG := Lib.hid hbg
        have h0' : (0 : Int) < (m : Int) := by omega
        clear hsm hbg
        generalize dig d = c at *
        have i1 : (0 : Int) ≤ (d : Int) := by omega
        have i2 : (d : Int) ≤ (d : Int) + 1 := by omega
        have i3 : (d : Int) + 1 ≤ 16 := by omega
        go_wp2
        go_round
        case rel => exact ⟨q, c :: S, by go_num, by rw [bap2]; rfl, by omega, (fun h => by have := HS.out h0; rw [HBG.out h, List.append_assoc] at this; exact this), (fun h => by have := HS.out h0; rw [HSM.out h] at this; exact this)⟩
        case measure => simp [intOf]; omega
      · obtain rfl : m = 0 := by omega
        have hq1 : ¬ (0 : Int) < ((0 : Nat) : Int) := by omega
        have hS := HS0.out rfl
        subst hS
        go_wp2
        go_ret
        exact ⟨by rw [← HFIN.out, bap, bap, bap]; rfl, rfl⟩
end Go.Proofs.YtknoimflimhcgaaDoor
