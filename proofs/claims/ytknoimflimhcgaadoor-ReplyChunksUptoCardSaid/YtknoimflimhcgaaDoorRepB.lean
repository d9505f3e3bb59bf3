/-
  strconv.AppendInt at base 16.
-/
import Derived.Test.YtknoimflimhcgaaDoorRepA
import Derived.Test.YtknoimflimhcgaaDoorKitC
import Derived.Laws.OwnMore
import Derived.Laws.Bits64b
import Derived.Outline
namespace Go.Proofs.YtknoimflimhcgaaDoor
open Go.RowKit

/-- What the table of math/bits says at the one place that is looked at. -/
def Tab16 (w : World) : Prop := w.cell? ⟨4, 15, none⟩ = some (.int .u8 4)
theorem ix16 : IntKind.u64.wrap (bits BinOp.and IntKind.u64 16 (IntKind.u64.wrap (-16)) * 285870213051353865) / 288230376151711744 = 15 := by decide +kernel
set_option maxRecDepth 100000 in
set_option maxHeartbeats 1000000 in
theorem tz64 (w : World) (hT : Tab16 w) : Calls Tryd.prog 50 #[.int .u64 16] w fun e w' => e = .returned (.int .i64 4) ∧ w = w' := by
  unfold Tab16 at hT
  have hix := ix16
  go_enter Tryd.func50, Tryd.ntmps50
  go_wp2
  go_ret
  exact ⟨rfl, rfl⟩
set_option maxRecDepth 100000 in
set_option maxHeartbeats 1000000 in
theorem tz (w : World) (hT : Tab16 w) : Calls Tryd.prog 48 #[.int .u64 16] w fun e w' => e = .returned (.int .i64 4) ∧ w = w' := by
  have c := tz64 w hT
  go_enter Tryd.func48, Tryd.ntmps48
  go_wp2_with (go_at_call 50; refine c.mono ?_; rintro e w' ⟨rfl, rfl⟩)
  go_ret
  exact ⟨rfl, rfl⟩
set_option maxRecDepth 100000 in
set_option maxHeartbeats 1000000 in
theorem pow16 (w : World) : Calls Tryd.prog 47 #[.int .i64 16] w fun e w' => e = .returned (.bool true) ∧ w = w' := by
  have h : bits BinOp.and IntKind.i64 16 15 = 0 := by decide +kernel
  go_enter Tryd.func47, Tryd.ntmps47
  go_wp2
  go_ret
  exact ⟨rfl, rfl⟩

/-- A hexadecimal digit; a number's. -/
def dig (d : Nat) : UInt8 := if d < 10 then UInt8.ofNat (48 + d) else UInt8.ofNat (87 + d)
def hexGo : Nat → Nat → Byt
  | 0, n => [dig (n % 16)]
  | f + 1, n => if n < 16 then [dig n] else hexGo f (n / 16) ++ [dig (n % 16)]
def hexD (n : Nat) : Byt := hexGo 16 n
theorem hexGo_fuel : ∀ (f g n : Nat), n < 16 ^ (f + 1) → n < 16 ^ (g + 1) → hexGo f n = hexGo g n
  | 0, 0, _, _, _ => rfl
  | 0, g + 1, n, h, _ => by
    have hn : n < 16 := by simpa using h
    simp only [hexGo, if_pos hn, Nat.mod_eq_of_lt hn]
  | f + 1, 0, n, _, h => by
    have hn : n < 16 := by simpa using h
    simp only [hexGo, if_pos hn, Nat.mod_eq_of_lt hn]
  | f + 1, g + 1, n, h1, h2 => by
    simp only [hexGo]
    split
    · rfl
    · rw [hexGo_fuel f g (n / 16) (by rw [Nat.pow_succ] at h1; omega) (by rw [Nat.pow_succ] at h2; omega)]
theorem hexD_small {n : Nat} (h : n < 16) : hexD n = [dig n] := by
  unfold hexD
  simp only [hexGo, if_pos h]
theorem hexD_big {n : Nat} (h : 16 ≤ n) (hb : n < 16 ^ 16) : hexD n = hexD (n / 16) ++ [dig (n % 16)] := by
  unfold hexD
  conv => lhs; unfold hexGo
  rw [if_neg (by omega), hexGo_fuel 15 16 (n / 16) (by omega) (by omega)]
theorem dig_get (d : Nat) (hd : d < 16) (h : d < (⟨#[48, 49, 50, 51, 52, 53, 54, 55, 56, 57, 97, 98, 99, 100, 101, 102, 103, 104, 105, 106, 107, 108, 109, 110, 111, 112, 113, 114, 115, 116, 117, 118, 119, 120, 121, 122]⟩ : ByteArray).size) : (⟨#[48, 49, 50, 51, 52, 53, 54, 55, 56, 57, 97, 98, 99, 100, 101, 102, 103, 104, 105, 106, 107, 108, 109, 110, 111, 112, 113, 114, 115, 116, 117, 118, 119, 120, 121, 122]⟩ : ByteArray)[d]'h = dig d := by
  rcases (by omega : d = 0 ∨ d = 1 ∨ d = 2 ∨ d = 3 ∨ d = 4 ∨ d = 5 ∨ d = 6 ∨ d = 7 ∨ d = 8 ∨ d = 9 ∨ d = 10 ∨ d = 11 ∨ d = 12 ∨ d = 13 ∨ d = 14 ∨ d = 15) with rfl | rfl | rfl | rfl | rfl | rfl | rfl | rfl | rfl | rfl | rfl | rfl | rfl | rfl | rfl | rfl
  all_goals rfl
theorem and15 (u : Nat) (h : u < 18446744073709551616) : bits BinOp.and IntKind.u64 (u : Int) 15 = ((u % 16 : Nat) : Int) := by
  have := bits_and_u64_nat u 15 h (by decide)
  rw [show ((15 : Nat) : Int) = (15 : Int) from rfl] at this
  rw [this, show (15 : Nat) = 2 ^ 4 - 1 from rfl, Nat.and_two_pow_sub_one_eq_mod]
theorem info_u8' : (Tryd.prog.info? 5).map (fun i => (i.zero, i.size, i.bytes)) = some (some (.int .u8 0), 1, 1) := by kernel_rfl

def zeros65 : Array Value := Array.replicate 65 (.int .u8 0)
theorem zero65 (W : World) : (zeroValue 81).run Tryd.prog W = .ok (.agg zeros65) W := by kernel_rfl
theorem zeros65_size : zeros65.size = 65 := by simp [zeros65]
/-- The array with the digits that are there at its end. -/
def Digs (w : World) (B : Nat) (ds : Byt) : Prop := ∃ cs : List Value, w.ownsRow B 81 1 (.slice (some ⟨B, 0, none⟩) 65 65) 65 cs ∧ cs.drop (65 - ds.length) = Lib.byteCells ds
theorem digs_start (w : World) : Digs (w.alloc (.cells zeros65 81)) w.heap.size [] := by
  refine ⟨zeros65.toList, owns_new w zeros65 81 65 zeros65_size (by unfold maxLen; omega), ?_⟩
  rw [List.drop_of_length_le (by rw [Array.length_toList, zeros65_size]; simp)]
  rfl
theorem digs_cell {w : World} {B : Nat} {ds : Byt} (h : Digs w B ds) (j : Nat) (hj : j < 65) : (∃ v, w.cell? ⟨B, j, none⟩ = some v) ∧ w.frozen? ⟨B, j, none⟩ = false := by
  obtain ⟨cs, ho, _⟩ := h
  have hl := ho.1
  exact ⟨⟨cs[j], by rw [ho.cellAt j (by omega), List.getElem?_eq_getElem]⟩, ho.frozenAt j⟩
theorem digs_store {w : World} {B : Nat} {ds : Byt} (h : Digs w B ds) (hl : ds.length < 65) (d : UInt8) : Digs (w.setCell ⟨B, 65 - ds.length - 1, none⟩ (.int .u8 (d.toNat : Int))) B (d :: ds) := by
  obtain ⟨cs, ho, hd⟩ := h
  have hcl := ho.1
  refine ⟨_, (ho.stored (65 - ds.length - 1) (.int .u8 (d.toNat : Int))).1, ?_⟩
  have e : 65 - (d :: ds).length = 65 - ds.length - 1 := by simp only [List.length_cons]; omega
  rw [e, List.drop_set, if_neg (by omega), Nat.sub_self, List.drop_eq_getElem_cons (by omega), show 65 - ds.length - 1 + 1 = 65 - ds.length from by omega, hd]
  rfl
theorem digs_row {w : World} {B : Nat} {ds : Byt} (h : Digs w B ds) (hl : ds.length ≤ 65) (h0 : 0 < ds.length) : argRow w (.slice (some ⟨B, 65 - ds.length, none⟩) ds.length ds.length) ds.length 1 (Lib.byteCells ds) := by
  obtain ⟨cs, ho, hd⟩ := h
  have h1 := argRow_drop (k := 65 - ds.length) (argRow_owns ho) (by omega) (a' := some ⟨B, 65 - ds.length, none⟩) (c' := ds.length) (by omega) (fun b off e _ => by cases e; simp)
  rw [Nat.mul_one, hd, show 65 - (65 - ds.length) = ds.length from by omega] at h1
  exact h1

set_option maxRecDepth 100000 in
set_option maxHeartbeats 8000000 in
theorem format_bits (n : Nat) (w : World) (hn : n < 4294967296) (hT : Tab16 w) :
    Calls Tryd.prog 39 #[.slice none 0 0, .int .u64 (n : Int), .int .i64 16, .bool false, .bool true] w fun e w' => ∃ v, e = .returned (.tuple #[v, .string ⟨#[]⟩]) ∧
      w'.ownsRow w.heap.size 5 1 v (hexD n).length (Lib.byteCells (hexD n)) ∧ Below w.heap.size w w' := by
  have hlt : 4 < w.heap.size := World.block_lt_of_cell? w _ hT
  have cP := fun W => pow16 W
  have cT := fun W hW => tz W hW
  have hTa : ∀ o, Tab16 (w.alloc o) := fun o => by
    unfold Tab16
    rw [((Below.refl w.heap.size w).alloc (Nat.le_refl _) o).cell (p := ⟨_, 15, none⟩) hlt]
    exact hT
  have hz := zero65
  have E8 : ElemT Tryd.prog 22 5 (.int .u8 0) 1 1 := ⟨Tryd.underlying22, info_u8', rfl, by decide⟩
  obtain ⟨R, hR⟩ : ∃ R, hexD n = R := ⟨_, rfl⟩
  rw [hR]
  have HR := Lib.hid hR
  clear hR hlt
  go_enter Tryd.func39, Tryd.ntmps39
  go_wp2_with (first | (go_at_call 47; refine (cP _).mono ?_; rintro e w' ⟨rfl, rfl⟩) | (go_at_call 48; refine (cT _ (hTa _)).mono ?_; rintro e w' ⟨rfl, rfl⟩))
  clear hTa cT cP hz hT
  go_loopw [1, 13] (fun vu vi wr => ∃ (u j : Nat) (ds : Byt), vu = .int .u64 u ∧ vi = .int .i64 ((65 : Int) - j) ∧ ds.length = j ∧ j ≤ 7 ∧ u < 16 ^ (8 - j) ∧ hexD u ++ ds = R ∧ Digs wr w.heap.size ds ∧ Below w.heap.size w wr) (fun vu _ _ => (intOf vu).toNat)
  case atStart => exact ⟨n, 0, [], rfl, rfl, rfl, by omega, by omega, by rw [HR.out]; simp, digs_start w, (Below.refl _ _).alloc (Nat.le_refl _) _⟩
  case round =>
    obtain ⟨u, j, ds, rfl, rfl, hdl, hj, hu, hdR, hdg, hb⟩ := hrel
    have HDR := Lib.hid hdR
    have HDG := Lib.hid hdg
    have HDL := Lib.hid hdl
    obtain ⟨⟨cv, hcv⟩, hfr⟩ := digs_cell hdg (65 - j - 1) (by omega)
    have hst := digs_store hdg (by omega)
    rw [hdl] at hst
    have HST := Lib.hid hst
    have hu8 : u < 4294967296 := Nat.lt_of_lt_of_le hu (Nat.le_trans (Nat.pow_le_pow_right (by decide) (by omega)) (by decide : 16 ^ 8 ≤ 4294967296))
    clear hdR hdg hdl hst
    by_cases hbig : 16 ≤ u
    · have hand := and15 u (by omega)
      have hget := dig_get (u % 16) (by omega)
      have hj6 : j ≤ 6 := by
        rcases Nat.lt_or_ge j 7 with h | h
        · omega
        · obtain rfl : j = 7 := by omega
          omega
      have hu16 : u / 16 < 16 ^ (8 - (j + 1)) := by
        rw [show 8 - j = (8 - (j + 1)) + 1 from by omega, Nat.pow_succ] at hu
        omega
      have HU := Lib.hid hu16
      have HB := Lib.hid (hexD_big hbig (by omega))
      clear hu hu16
      go_wp2
      go_roundw
      case rel => exact ⟨u / 16, j + 1, dig (u % 16) :: ds, by go_num, by go_num, by rw [List.length_cons, HDL.out], by omega, HU.out, by rw [← HDR.out, HB.out]; simp, HST.out _, hb.setCell (p := ⟨_, _, none⟩) (Nat.le_refl _) _⟩
      case measure => simp [intOf]; omega
    · have hget := dig_get u (by omega)
      have hsm := hexD_small (n := u) (by omega)
      have HSM := Lib.hid hsm
      have hrw := fun d => digs_row (HST.out d) (by rw [List.length_cons, HDL.out]; omega) (by simp)
      have hlR : R.length = j + 1 := by rw [← HDR.out, HSM.out, List.length_append, HDL.out]; simp; omega
      have hRe : dig u :: ds = R := by rw [← HDR.out, HSM.out]; rfl
      have hrow := hrw (dig u)
      rw [hRe, hlR, show 65 - (j + 1) = 65 - j - 1 from by omega] at hrow
      have HROW := Lib.hid hrow
      have HLR := Lib.hid hlR
      have hsl : ∀ W, (Instr.sliceAt 81 (.pointer (some ⟨w.heap.size, 0, none⟩)) (some (.int .i64 ((65 : Int) - (j : Int) - 1))) none none).run Tryd.prog W = .ok (.slice (some ⟨w.heap.size, 65 - j - 1, none⟩) (j + 1) (j + 1)) W := fun W => by
        have hal : Tryd.prog.arrayLen 81 = 65 := by kernel_rfl
        have hsz : (sizeOf (Tryd.prog.elem 81)).run Tryd.prog W = .ok 1 W := by kernel_rfl
        rw [run_sliceAt_array_l W 81 ⟨w.heap.size, 0, none⟩ (by kernel_rfl) .i64 _ (by omega) (by rw [hal]; omega), hsz, hal]
        have e1 : ((65 : Int) - (j : Int) - 1).toNat = 65 - j - 1 := by omega
        have e2 : ¬ (65 = 65 - j - 1) := by omega
        simp only [Result.andThen_ok, slicedAt, e1, if_neg e2]
        rw [WideShapes.add_plain, show 65 - (65 - j - 1) = j + 1 from by omega, Nat.zero_add, Nat.mul_one]
      clear hrw hrow hlR hRe hsm hu
      have hbs := hb.size
      have hbb := hb.setCell (p := ⟨w.heap.size, 65 - j - 1, none⟩) (Nat.le_refl _) (.int .u8 ((dig u).toNat : Int))
      go_wp2_with (at_builtin; (refine wpList_append_src rfl _ _ _ _ rfl w.heap.size E8 _ 0 [] rfl (World.ownsRow_nil _ _ _ _) _ (j + 1) (Lib.byteCells R) rfl (by exact src_arg Tryd.underlying22 HROW.out (byteCells_one R)) (by unfold maxLen; omega) (by omega) (by simp; omega) ?_); intro v1 w1 hown1 hgr1 _ _)
      simp only [Nat.zero_add, List.nil_append] at hown1
      rw [← HLR.out] at hown1
      go_ret2
      exact ⟨_, rfl, hown1, hbb.grown hgr1 (by simp; omega) (fun k hk => by cases hk)⟩

set_option maxRecDepth 100000 in
set_option maxHeartbeats 2000000 in
theorem append_uint (n : Nat) (w : World) (hn : n < 4294967296) (hT : Tab16 w) :
    Calls Tryd.prog 30 #[.slice none 0 0, .int .u64 (n : Int), .int .i64 16] w fun e w' => ∃ v, e = .returned v ∧
      w'.ownsRow w.heap.size 5 1 v (hexD n).length (Lib.byteCells (hexD n)) ∧ Below w.heap.size w w' := by
  have c := format_bits n w hn hT
  generalize hexD n = R at *
  go_enter Tryd.func30, Tryd.ntmps30
  go_wp2_with (go_at_call 39; refine c.mono ?_; rintro e w1 ⟨v, rfl, ho, hb⟩)
  go_ret
  exact ⟨_, rfl, ho, hb⟩
set_option maxRecDepth 100000 in
set_option maxHeartbeats 2000000 in
theorem append_int' (n : Nat) (w : World) (hn : n < 4294967296) (hT : Tab16 w) :
    Calls Tryd.prog 26 #[.slice none 0 0, .int .i64 (n : Int), .int .i64 16] w fun e w' => ∃ v, e = .returned v ∧
      w'.ownsRow w.heap.size 5 1 v (hexD n).length (Lib.byteCells (hexD n)) ∧ Below w.heap.size w w' := by
  have c := append_uint n w hn hT
  generalize hexD n = R at *
  have hw : IntKind.u64.wrap (n : Int) = (n : Int) := by rw [IntKind.wrap_u64]; omega
  go_enter Tryd.func26, Tryd.ntmps26
  go_wp2_with (go_at_call 30; refine c.mono ?_; rintro e w1 ⟨v, rfl, ho, hb⟩)
  go_ret
  exact ⟨_, rfl, ho, hb⟩
set_option maxRecDepth 100000 in
set_option maxHeartbeats 2000000 in
theorem append_int (n : Nat) (w : World) (hn : n < 4294967296) (hT : Tab16 w) :
    Calls Tryd.prog 22 #[.slice none 0 0, .int .i64 (n : Int), .int .i64 16] w fun e w' => ∃ v, e = .returned v ∧
      w'.ownsRow w.heap.size 5 1 v (hexD n).length (Lib.byteCells (hexD n)) ∧ Below w.heap.size w w' := by
  have c := append_int' n w hn hT
  generalize hexD n = R at *
  go_enter Tryd.func22, Tryd.ntmps22
  go_wp2_with (go_at_call 26; refine c.mono ?_; rintro e w1 ⟨v, rfl, ho, hb⟩)
  go_ret
  exact ⟨_, rfl, ho, hb⟩
end Go.Proofs.YtknoimflimhcgaaDoor
