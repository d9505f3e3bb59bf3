/-
  strconv.ParseUint at base 16, of one to eight hexadecimal digits, great or small.
-/
import Derived.Test.YtljnbbdhmlfhjaaDoorJsAb
import Derived.Lib.ConvBytes
import Derived.Lib.SmallJoins
import Derived.Lib.AtoiAllMem
import Derived.Laws.Strings3
import Derived.Laws.Closers25
import Derived.Laws.Closers25b
import Derived.BigCall
import Derived.BigGuard
namespace Go.Proofs.YtljnbbdhmlfhjaaDoor
open Go.RowKit
def hexW (c : UInt8) : Nat := (hexV' c).getD 0
def isH (c : UInt8) : Bool := (hexV' c).isSome
/-- The number of hexadecimal digits. -/
def hexQ (l : Bs) : Nat := l.foldl (fun n c => 16 * n + hexW c) 0
theorem hexQ_snoc (l : Bs) (c : UInt8) : hexQ (l ++ [c]) = 16 * hexQ l + hexW c := by
  unfold hexQ
  rw [List.foldl_append]; rfl
theorem hexW_lt (c : UInt8) : hexW c < 16 := by
  unfold hexW
  cases h : hexV' c with
  | none => decide
  | some n => exact (hexV_low h).2
theorem hexQ_lt : ∀ (l : Bs), hexQ l < 16 ^ l.length := by
  have : ∀ n (l : Bs), l.length = n → hexQ l < 16 ^ l.length := by
    intro n
    induction n with
    | zero =>
      intro l hl
      have : l = [] := List.eq_nil_of_length_eq_zero hl
      subst this
      decide
    | succ n ih =>
      intro l hl
      have hne : l ≠ [] := by intro e; subst e; cases hl
      have e := List.dropLast_concat_getLast hne
      have h1 := ih l.dropLast (by rw [List.length_dropLast]; omega)
      have h2 := hexW_lt (l.getLast hne)
      rw [← e, hexQ_snoc, List.length_append, List.length_singleton, Nat.pow_succ]
      omega
  exact fun l => this l.length l rfl
theorem isH_cases {c : UInt8} (h : isH c = true) : (48 ≤ c.toNat ∧ c.toNat ≤ 57 ∧ hexW c = c.toNat - 48) ∨ (97 ≤ c.toNat ∧ c.toNat ≤ 102 ∧ hexW c = c.toNat - 87) ∨ (65 ≤ c.toNat ∧ c.toNat ≤ 70 ∧ hexW c = c.toNat - 55) := by
  unfold isH at h
  unfold hexW
  unfold hexV' at h ⊢
  split at h
  · rename_i h1
    left
    rw [if_pos h1]
    exact ⟨h1.1, h1.2, rfl⟩
  · rename_i h1
    rw [if_neg h1]
    split at h
    · rename_i h2
      right; left
      rw [if_pos h2]
      exact ⟨h2.1, h2.2, rfl⟩
    · rename_i h2
      rw [if_neg h2]
      split at h
      · rename_i h3
        right; right
        rw [if_pos h3]
        exact ⟨h3.1, h3.2, rfl⟩
      · cases h
set_option maxHeartbeats 1000000 in
theorem lower_hexJ (c : Nat) (h : 97 ≤ c ∧ c ≤ 102 ∨ 65 ≤ c ∧ c ≤ 70) (w : World) : Calls Tryd.prog 74 #[.int .u8 (c : Int)] w fun e w' => e = .returned (.int .u8 ((if c ≤ 70 then c + 32 else c : Nat) : Int)) ∧ w = w' := by
  rcases (by omega : c = 97 ∨ c = 98 ∨ c = 99 ∨ c = 100 ∨ c = 101 ∨ c = 102 ∨ c = 65 ∨ c = 66 ∨ c = 67 ∨ c = 68 ∨ c = 69 ∨ c = 70) with rfl | rfl | rfl | rfl | rfl | rfl | rfl | rfl | rfl | rfl | rfl | rfl
  all_goals
    go_enter Tryd.func74, Tryd.ntmps74
    go_wp2
    go_ret
    exact ⟨rfl, rfl⟩
theorem ret_twoJ {k : IntKind} {a b : Int} {v : Value} (h : a = b) : Ending.returned (.tuple #[.int k a, v]) = .returned (.tuple #[.int k b, v]) := by rw [h]
set_option maxRecDepth 100000 in
set_option maxHeartbeats 8000000 in
theorem parse_uintJ (t : ByteArray) (w : World) (h1 : 1 ≤ t.size) (h8 : t.size ≤ 7) (hx : ∀ c ∈ t.data.toList, isH c = true) :
    Calls Tryd.prog 65 #[.string t, .int .i64 16, .int .i64 32] w fun e w' => e = .returned (.tuple #[.int .u64 (hexQ t.data.toList), .nilIface]) ∧ Below w.heap.size w w' := by
  have hemp : t.toList.isEmpty = false := by
    rw [← decide_eq_emptyBytes]
    exact decide_eq_false (fun h => by rw [h] at h1; cases h1)
  have hcv := Lib.run_convert_string_bytes (P := Tryd.prog) w 9 22 5 t (u := .string) Tryd.underlying9 Tryd.underlying22 Tryd.underlying5
  have hB : ∀ j, j < t.size → (Lib.bytesWorld w 5 t).cell? ⟨w.heap.size, j, none⟩ = some (.int .u8 (t.data.toList.getD j 0).toNat) := fun j hj => Lib.bytesWorld_cell w 5 t j hj
  have hbw : Below w.heap.size w (Lib.bytesWorld w 5 t) := Joins.below_bytesWorld _ _ _ _ (Nat.le_refl _)
  generalize Lib.bytesWorld w 5 t = W1 at *
  have hLn : t.data.toList.length = t.size := by simp [ByteArray.size_data]
  obtain ⟨bs, hL⟩ : ∃ bs, bs = t.data.toList := ⟨_, rfl⟩
  rw [← hL] at hLn hB hx ⊢
  clear hL
  have HLN := Lib.hid hLn
  have HX := Lib.hid hx
  have HB := Lib.hid hB
  have HBW := Lib.hid hbw
  clear hLn hx hB hbw
  obtain ⟨R, hR⟩ : ∃ R : Nat, hexQ bs = R := ⟨_, rfl⟩
  rw [hR]
  have HR := Lib.hid hR
  clear hR
  have hmv : IntKind.u64.wrap (IntKind.u64.wrap 4294967296 - 1) = 4294967295 := by
    rw [IntKind.wrap_u64, IntKind.wrap_u64]
    decide
  go_enter Tryd.func65, Tryd.ntmps65
  go_wp2
  go_loop [12, 13, 101] (fun vu vn vi => ∃ (k : Nat) (a : Int), vu = .bool false ∧ vn = .int .u64 a ∧ vi = .int .i64 k ∧ k ≤ t.size ∧ 0 ≤ a ∧ a < 268435456 ∧ Hid (a = (hexQ (bs.take k) : Int))) (fun _ _ vi => t.size - (intOf vi).toNat)
  case atStart => exact ⟨0, 0, rfl, rfl, rfl, by omega, by omega, by omega, rfl⟩
  case round =>
    obtain ⟨k, a, rfl, rfl, rfl, hk, a0, a1, hh⟩ := hrel
    by_cases hkn : k < t.size
    · have hkl : k < bs.length := by rw [HLN.out]; exact hkn
      have hc := HB.out k hkn
      have hget : bs.getD k 0 = bs[k] := by simp [List.getD, List.getElem?_eq_getElem hkl]
      rw [hget] at hc
      have hxk := HX.out bs[k] (List.getElem_mem _)
      have hsn : hexQ (bs.take (k + 1)) = 16 * hexQ (bs.take k) + hexW bs[k] := by rw [List.take_succ_eq_append_getElem hkl, hexQ_snoc]
      have hlt := hexQ_lt (bs.take (k + 1))
      have hlt8 : hexQ (bs.take (k + 1)) < 268435456 := by
        refine Nat.lt_of_lt_of_le hlt ?_
        rw [List.length_take]
        have : min (k + 1) bs.length ≤ 7 := by omega
        exact Nat.le_trans (Nat.pow_le_pow_right (by decide) this) (by decide)
      clear hlt hget
      generalize bs[k] = c at *
      have hc256 : c.toNat < 256 := c.toNat_lt
      rcases isH_cases hxk with ⟨hd0, hd1, hv⟩ | ⟨hd0, hd1, hv⟩ | ⟨hd0, hd1, hv⟩
      · have HN : Hid (a * 16 + ((c.toNat : Int) - 48) = (hexQ (bs.take (k + 1)) : Int)) := Lib.hid (by have := hh.out; rw [hsn, hv]; omega)
        have hb1 : a * 16 + ((c.toNat : Int) - 48) < 268435456 := by have := HN.out; omega
        clear hsn hlt8 hv hxk hh
        go_wp2
        go_round
        case rel => exact ⟨k + 1, a * 16 + ((c.toNat : Int) - 48), rfl, by first | rfl | (congr 1; omega), by go_num, by omega, by omega, by omega, HN⟩
        case measure => simp [intOf]; omega
      · have HN : Hid (a * 16 + ((c.toNat : Int) - 97 + 10) = (hexQ (bs.take (k + 1)) : Int)) := Lib.hid (by have := hh.out; rw [hsn, hv]; omega)
        have hb1 : a * 16 + ((c.toNat : Int) - 97 + 10) < 268435456 := by have := HN.out; omega
        have cL := fun W => lower_hexJ c.toNat (.inl ⟨hd0, hd1⟩) W
        simp only [if_neg (show ¬ c.toNat ≤ 70 by omega)] at cL
        clear hsn hlt8 hv hxk hh
        go_wp2_with (go_at_call 74; refine (cL _).mono ?_; rintro e w' ⟨rfl, rfl⟩)
        go_round
        case rel => exact ⟨k + 1, a * 16 + ((c.toNat : Int) - 97 + 10), rfl, by first | rfl | (congr 1; omega), by go_num, by omega, by omega, by omega, HN⟩
        case measure => simp [intOf]; omega
      · have HN : Hid (a * 16 + ((c.toNat : Int) + 32 - 97 + 10) = (hexQ (bs.take (k + 1)) : Int)) := Lib.hid (by have := hh.out; rw [hsn, hv]; omega)
        have hb1 : a * 16 + ((c.toNat : Int) + 32 - 97 + 10) < 268435456 := by have := HN.out; omega
        have cL := fun W => lower_hexJ c.toNat (.inr ⟨hd0, hd1⟩) W
        simp only [if_pos (show c.toNat ≤ 70 by omega), Int.natCast_add, Int.cast_ofNat_Int] at cL
        clear hsn hlt8 hv hxk hh
        go_wp2_with (go_at_call 74; refine (cL _).mono ?_; rintro e w' ⟨rfl, rfl⟩)
        go_round
        case rel => exact ⟨k + 1, a * 16 + ((c.toNat : Int) + 32 - 97 + 10), rfl, by first | rfl | (congr 1; omega), by go_num, by omega, by omega, by omega, HN⟩
        case measure => simp [intOf]; omega
    · obtain rfl : k = t.size := by omega
      have hfin : a = (R : Int) := by
        have := hh.out
        rw [List.take_of_length_le (by rw [HLN.out]; exact Nat.le_refl _), HR.out] at this
        exact this
      have HF := Lib.hid hfin
      clear hfin hh
      go_wp2
      go_ret2
      exact ⟨ret_twoJ HF.out, HBW.out⟩
set_option maxRecDepth 100000 in
set_option maxHeartbeats 4000000 in
theorem strconv_parseJ (t : ByteArray) (w : World) (h1 : 1 ≤ t.size) (h8 : t.size ≤ 7) (hx : ∀ c ∈ t.data.toList, isH c = true) :
    Calls Tryd.prog 79 #[.string t, .int .i64 16, .int .i64 32] w fun e w' => e = .returned (.tuple #[.int .u64 (hexQ t.data.toList), .nilIface]) ∧ Below w.heap.size w w' := by
  have cU := parse_uintJ t w h1 h8 hx
  generalize (hexQ t.data.toList : Int) = R at *
  go_enter Tryd.func79, Tryd.ntmps79
  go_wp2_with (go_at_call 65; refine cU.mono ?_; rintro e w1 ⟨rfl, hb1⟩)
  go_ret2
  exact ⟨rfl, hb1⟩
end Go.Proofs.YtljnbbdhmlfhjaaDoor
