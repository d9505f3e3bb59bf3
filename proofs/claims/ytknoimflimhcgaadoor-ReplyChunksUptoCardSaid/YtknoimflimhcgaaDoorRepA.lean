/-
  strconv.ParseInt at base 16, of one to eight small hexadecimal digits.
-/
import Derived.Test.YtknoimflimhcgaaDoorRepP
import Derived.Test.YtknoimflimhcgaaDoorKitB
import Derived.Lib.ConvBytes
import Derived.Lib.SmallJoins
import Derived.Lib.AtoiAllMem
import Derived.Laws.Strings3
import Derived.Laws.Closers25
import Derived.Laws.Closers25b
import Derived.BigCall
import Derived.BigGuard
namespace Go.Proofs.YtknoimflimhcgaaDoor
open Go.RowKit

/-- The number of hexadecimal digits. -/
def hexN (l : Byt) : Nat := l.foldl (fun n c => 16 * n + hexV c) 0
theorem hexN_snoc (l : Byt) (c : UInt8) : hexN (l ++ [c]) = 16 * hexN l + hexV c := by
  unfold hexN
  rw [List.foldl_append]; rfl
theorem hexN_lt : ∀ (l : Byt), (∀ c ∈ l, isHex c = true) → hexN l < 16 ^ l.length := by
  have : ∀ n (l : Byt), l.length = n → (∀ c ∈ l, isHex c = true) → hexN l < 16 ^ l.length := by
    intro n
    induction n with
    | zero =>
      intro l hl _
      have : l = [] := List.eq_nil_of_length_eq_zero hl
      subst this
      decide
    | succ n ih =>
      intro l hl h
      have hne : l ≠ [] := by intro e; subst e; cases hl
      have e := List.dropLast_concat_getLast hne
      have h1 := ih l.dropLast (by rw [List.length_dropLast]; omega) (fun c hc => h c (List.dropLast_subset _ hc))
      have h2 := hexV_lt (h _ (List.getLast_mem hne))
      rw [← e, hexN_snoc, List.length_append, List.length_singleton, Nat.pow_succ]
      omega
  exact fun l => this l.length l rfl

set_option maxHeartbeats 1000000 in
theorem lower_hex (c : Nat) (h : 97 ≤ c ∧ c ≤ 102) (w : World) : Calls Tryd.prog 40 #[.int .u8 (c : Int)] w fun e w' => e = .returned (.int .u8 (c : Int)) ∧ w = w' := by
  obtain ⟨h1, h2⟩ := h
  rcases (by omega : c = 97 ∨ c = 98 ∨ c = 99 ∨ c = 100 ∨ c = 101 ∨ c = 102) with rfl | rfl | rfl | rfl | rfl | rfl
  all_goals
    go_enter Tryd.func40, Tryd.ntmps40
    go_wp2
    go_ret
    exact ⟨rfl, rfl⟩

theorem ret_two {k : IntKind} {a b : Int} {v : Value} (h : a = b) : Ending.returned (.tuple #[.int k a, v]) = .returned (.tuple #[.int k b, v]) := by rw [h]

set_option maxRecDepth 100000 in
set_option maxHeartbeats 8000000 in
theorem parse_uint (t : ByteArray) (w : World) (h1 : 1 ≤ t.size) (h8 : t.size ≤ 8) (hx : ∀ c ∈ t.data.toList, isHex c = true) :
    Calls Tryd.prog 31 #[.string t, .int .i64 16, .int .i64 64] w fun e w' => e = .returned (.tuple #[.int .u64 (hexN t.data.toList), .nilIface]) ∧ Below w.heap.size w w' := by
  have hemp : t.toList.isEmpty = false := by
    rw [← decide_eq_emptyBytes]
    exact decide_eq_false (fun h => by rw [h] at h1; cases h1)
  have hcv := Lib.run_convert_string_bytes (P := Tryd.prog) w 9 22 5 t (u := .string) Tryd.underlying9 Tryd.underlying22 Tryd.underlying5
  have hB : ∀ j, j < t.size → (Lib.bytesWorld w 5 t).cell? ⟨w.heap.size, j, none⟩ = some (.int .u8 (t.data.toList.getD j 0).toNat) := fun j hj => Lib.bytesWorld_cell w 5 t j hj
  have hbw : Below w.heap.size w (Lib.bytesWorld w 5 t) := Joins.below_bytesWorld _ _ _ _ (Nat.le_refl _)
  generalize Lib.bytesWorld w 5 t = W1 at *
  have hLn : t.data.toList.length = t.size := by simp [ByteArray.size_data]
  obtain ⟨bs, hL⟩ : ∃ bs, bs = t.data.toList := ⟨_, rfl⟩
  rw [← hL] at hLn hB hx ⊢
  clear hL
  have HLN := Lib.hid hLn
  have HX := Lib.hid hx
  have HB := Lib.hid hB
  have HBW := Lib.hid hbw
  clear hLn hx hB hbw
  obtain ⟨R, hR⟩ : ∃ R : Nat, hexN bs = R := ⟨_, rfl⟩
  rw [hR]
  have HR := Lib.hid hR
  clear hR
  have hmv : IntKind.u64.wrap (IntKind.u64.wrap 18446744073709551616 - 1) = 18446744073709551615 := by
    rw [IntKind.wrap_u64, IntKind.wrap_u64]
    decide
  go_enter Tryd.func31, Tryd.ntmps31
  go_wp2
  go_loop [12, 13, 101] (fun vu vn vi => ∃ (k : Nat) (a : Int), vu = .bool false ∧ vn = .int .u64 a ∧ vi = .int .i64 k ∧ k ≤ t.size ∧ 0 ≤ a ∧ a < 4294967296 ∧ Hid (a = (hexN (bs.take k) : Int))) (fun _ _ vi => t.size - (intOf vi).toNat)
  case atStart => exact ⟨0, 0, rfl, rfl, rfl, by omega, by omega, by omega, rfl⟩
  case round =>
    obtain ⟨k, a, rfl, rfl, rfl, hk, a0, a1, hh⟩ := hrel
    by_cases hkn : k < t.size
    · have hkl : k < bs.length := by rw [HLN.out]; exact hkn
      have hc := HB.out k hkn
      have hget : bs.getD k 0 = bs[k] := by simp [List.getD, List.getElem?_eq_getElem hkl]
      rw [hget] at hc
      have hxk := HX.out bs[k] (List.getElem_mem _)
      have hsn : hexN (bs.take (k + 1)) = 16 * hexN (bs.take k) + hexV bs[k] := by rw [List.take_succ_eq_append_getElem hkl, hexN_snoc]
      have hlt := hexN_lt (bs.take (k + 1)) (fun c hc => HX.out c (List.mem_of_mem_take hc))
      have hlt8 : hexN (bs.take (k + 1)) < 4294967296 := by
        refine Nat.lt_of_lt_of_le hlt ?_
        rw [List.length_take]
        have : min (k + 1) bs.length ≤ 8 := by omega
        exact Nat.le_trans (Nat.pow_le_pow_right (by decide) this) (by decide)
      clear hlt hget
      generalize bs[k] = c at *
      have hc256 : c.toNat < 256 := c.toNat_lt
      have hhc := of_decide_eq_true hxk
      have hv : hexV c = if c.toNat ≤ 57 then c.toNat - 48 else c.toNat - 87 := rfl
      rcases hhc with ⟨hd0, hd1⟩ | ⟨hd0, hd1⟩
      · rw [if_pos hd1] at hv
        have HN : Hid (a * 16 + ((c.toNat : Int) - 48) = (hexN (bs.take (k + 1)) : Int)) := Lib.hid (by have := hh.out; rw [hsn, hv]; omega)
        have hb1 : a * 16 + ((c.toNat : Int) - 48) < 4294967296 := by have := HN.out; omega
        clear hsn hlt8 hv hxk hh
        go_wp2
        go_round
        case rel => exact ⟨k + 1, a * 16 + ((c.toNat : Int) - 48), rfl, by first | rfl | (congr 1; omega), by go_num, by omega, by omega, by omega, HN⟩
        case measure => simp [intOf]; omega
      · rw [if_neg (by omega)] at hv
        have HN : Hid (a * 16 + ((c.toNat : Int) - 97 + 10) = (hexN (bs.take (k + 1)) : Int)) := Lib.hid (by have := hh.out; rw [hsn, hv]; omega)
        have hb1 : a * 16 + ((c.toNat : Int) - 97 + 10) < 4294967296 := by have := HN.out; omega
        have cL := fun W => lower_hex c.toNat ⟨hd0, hd1⟩ W
        clear hsn hlt8 hv hxk hh
        go_wp2_with (go_at_call 40; refine (cL _).mono ?_; rintro e w' ⟨rfl, rfl⟩)
        go_round
        case rel => exact ⟨k + 1, a * 16 + ((c.toNat : Int) - 97 + 10), rfl, by first | rfl | (congr 1; omega), by go_num, by omega, by omega, by omega, HN⟩
        case measure => simp [intOf]; omega
    · obtain rfl : k = t.size := by omega
      have hfin : a = (R : Int) := by
        have := hh.out
        rw [List.take_of_length_le (by rw [HLN.out]; exact Nat.le_refl _), HR.out] at this
        exact this
      have HF := Lib.hid hfin
      clear hfin hh
      go_wp2
      go_ret2
      exact ⟨ret_two HF.out, HBW.out⟩

set_option maxRecDepth 100000 in
set_option maxHeartbeats 4000000 in
theorem parse_int (t : ByteArray) (w : World) (h1 : 1 ≤ t.size) (h8 : t.size ≤ 8) (hx : ∀ c ∈ t.data.toList, isHex c = true) :
    Calls Tryd.prog 27 #[.string t, .int .i64 16, .int .i64 64] w fun e w' => e = .returned (.tuple #[.int .i64 (hexN t.data.toList), .nilIface]) ∧ Below w.heap.size w w' := by
  have hemp : t.toList.isEmpty = false := by
    rw [← decide_eq_emptyBytes]
    exact decide_eq_false (fun h => by rw [h] at h1; cases h1)
  have cU := parse_uint t w h1 h8 hx
  have hLn : t.data.toList.length = t.size := by simp [ByteArray.size_data]
  have hlt : hexN t.data.toList < 4294967296 := by
    have h := hexN_lt _ hx
    rw [hLn] at h
    exact Nat.lt_of_lt_of_le h (Nat.le_trans (Nat.pow_le_pow_right (by decide) h8) (by decide))
  have hp0 : 0 < t.size := h1
  have hfirst := hx t[0] (by rw [show t[0] = t.data.toList[0]'(by rw [hLn]; exact hp0) from rfl]; exact List.getElem_mem _)
  have hhc := of_decide_eq_true hfirst
  have e1 : ((t[0].toNat : Int) == 43) = false := by simp; omega
  have e2 : ((t[0].toNat : Int) == 45) = false := by simp; omega
  have i0 : (0 : Int) < (t.size : Int) := by omega
  obtain ⟨a, ha⟩ : ∃ a : Int, a = (hexN t.data.toList : Int) := ⟨_, rfl⟩
  rw [← ha] at cU ⊢
  have a0 : 0 ≤ a := by omega
  have a1 : a < 4294967296 := by omega
  clear hlt hLn hx hfirst hhc ha
  go_enter Tryd.func27, Tryd.ntmps27
  go_wp2_with (go_at_call 31; refine cU.mono ?_; rintro e w1 ⟨rfl, hb1⟩)
  go_ret2
  exact ⟨rfl, hb1⟩
set_option maxRecDepth 100000 in
set_option maxHeartbeats 4000000 in
theorem strconv_parse (t : ByteArray) (w : World) (h1 : 1 ≤ t.size) (h8 : t.size ≤ 8) (hx : ∀ c ∈ t.data.toList, isHex c = true) :
    Calls Tryd.prog 24 #[.string t, .int .i64 16, .int .i64 64] w fun e w' => e = .returned (.tuple #[.int .i64 (hexN t.data.toList), .nilIface]) ∧ Below w.heap.size w w' := by
  have cU := parse_int t w h1 h8 hx
  generalize (hexN t.data.toList : Int) = R at *
  go_enter Tryd.func24, Tryd.ntmps24
  go_wp2_with (go_at_call 27; refine cU.mono ?_; rintro e w1 ⟨rfl, hb1⟩)
  go_ret2
  exact ⟨rfl, hb1⟩
end Go.Proofs.YtknoimflimhcgaaDoor
