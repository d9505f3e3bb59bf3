/-
  The document's push: is, number.
-/
import Derived.Test.YtljnbbdhmlfhjaaGreatDoorWirR
import Derived.Test.YtljnbbdhmlfhjaaGreatDoorKitC
import Derived.Test.YtljnbbdhmlfhjaaGreatDoorWirOne
namespace Go.Proofs.YtljnbbdhmlfhjaaGreatDoor
open Go.RowKit
def headIs (s : Bs) (c : UInt8) : Bool := decide (s.head? = some c)
set_option maxRecDepth 100000 in
set_option maxHeartbeats 10000000 in
theorem ref_is (s : Bs) (c : UInt8) (w : World) (hl : s.length ≤ 1099511627776) :
    Calls Tryz.prog 31 #[.string (toB s), .int .u8 (c.toNat : Int)] w fun e w' => e = .returned (.bool (headIs s c)) ∧ w' = w := by
  have hz : (toB s).size = s.length := by simp [toB, ByteArray.size]
  cases s with
  | nil =>
    have e0 : toB ([] : Bs) = ⟨#[]⟩ := rfl
    rw [e0]
    go_enter Tryz.func31, Tryz.ntmps31
    go_wp2
    go_ret
    exact ⟨rfl, rfl⟩
  | cons d r =>
    have hR : headIs (d :: r) c = decide (d = c) := by unfold headIs; simp
    rw [hR]
    have hget : (toB (d :: r)).data[0]? = some d := by simp [toB]
    obtain ⟨n, hn⟩ : ∃ n, (d :: r).length = n := ⟨_, rfl⟩
    have hpos : 0 < n := by rw [← hn]; simp
    rw [hn] at hz hl
    obtain ⟨B, hB⟩ : ∃ B, toB (d :: r) = B := ⟨_, rfl⟩
    rw [hB] at hz hget ⊢
    have d1 : decide ((0 : Int) < (B.size : Int)) = true := decide_eq_true (by rw [hz]; omega)
    have d2 : ((d.toNat : Int) == (c.toNat : Int)) = decide (d = c) := by
      rw [Bool.eq_iff_iff, beq_iff_eq, decide_eq_true_eq]
      constructor
      · intro h
        exact UInt8.toNat_inj.1 (by omega)
      · rintro rfl
        rfl
    have i1 : (0 : Int) < (B.size : Int) := by rw [hz]; omega
    clear hn hB hR
    go_enter Tryz.func31, Tryz.ntmps31
    go_wp2
    go_ret
    refine ⟨?_, rfl⟩
    have hb0 : ∀ h : 0 < B.size, B[0]'h = d := fun h => by
      have e : B.data[0]? = some (B[0]'h) := Array.getElem?_eq_getElem _
      rw [hget] at e
      exact (Option.some.inj e).symm
    rw [hb0]
    exact congrArg (fun x => Ending.returned (Value.bool x)) d2
end Go.Proofs.YtljnbbdhmlfhjaaGreatDoor
/-
  The document's push: number.
-/
namespace Go.Proofs.YtljnbbdhmlfhjaaGreatDoor
open Go.RowKit
theorem toB_size (s : Bs) : (toB s).size = s.length := by simp [toB, ByteArray.size]
theorem toB_get (s : Bs) (i : Nat) (h : i < (toB s).size) : (toB s)[i]'h = s[i]'(by rw [← toB_size]; exact h) := by
  show (toB s).data[i] = _
  simp [toB]
def NumR (o : Option Int) (w : World) (e : Ending) (w' : World) : Prop :=
  (match o with
    | some m => e = .returned (.tuple #[.int .i64 m, .bool true])
    | none => ∃ n, e = .returned (.tuple #[.int .i64 n, .bool false])) ∧ w' = w
def endN (a : Nat) : Option Nat → Option Int
  | none => none
  | some u => if a = 1 then (if u ≤ 9223372036854775808 then some (-(u : Int)) else none) else if u ≤ 9223372036854775807 then some u else none
theorem refNum_at (s : Bs) (h : s.length ≠ minusN s) : refNum s = endN (minusN s) (refN 0 (s.drop (minusN s))) := by
  unfold refNum endN
  rw [if_neg h]
  rfl
theorem drop_at {s : Bs} {i : Nat} (h : i < s.length) : s.drop i = s[i] :: s.drop (i + 1) := List.drop_eq_getElem_cons h
set_option maxRecDepth 100000 in
set_option maxHeartbeats 20000000 in
theorem ref_number_loop (s : Bs) (a : Nat) (B : ByteArray) (w : World) (hl : s.length ≤ 1099511627776) (hB : toB s = B) (ha : minusN s = a) (hne : s.length ≠ a) (hc : (a = 0 ∧ ∃ c r, s = c :: r ∧ c ≠ 45) ∨ (a = 1 ∧ ∃ r, s = 45 :: r)) :
    Calls Tryz.prog 68 #[.string B] w (NumR (endN a (refN 0 (s.drop a))) w) := by
  have hsz : B.size = s.length := by rw [← hB]; exact toB_size s
  have hget : ∀ i (h : i < B.size), B[i]'h = s[i]'(by rw [← hsz]; exact h) := fun i h => by
    subst hB
    exact toB_get s i h
  have HGET := Lib.hid hget
  obtain ⟨n, hn⟩ : ∃ n, s.length = n := ⟨_, rfl⟩
  rw [hn] at hsz hl hne
  have HN := Lib.hid hn
  obtain ⟨R, hR⟩ : ∃ R, refN 0 (s.drop a) = R := ⟨_, rfl⟩
  rw [hR]
  have HR := Lib.hid hR
  have han : a ≤ n := by
    rcases hc with ⟨rfl, -⟩ | ⟨rfl, r, rfl⟩
    · omega
    · rw [← hn]; simp
  have hpos : 0 < n := by
    rcases hc with ⟨-, c, r, rfl, -⟩ | ⟨-, r, rfl⟩ <;> rw [← hn] <;> simp
  have dl : decide ((0 : Int) < (B.size : Int)) = true := decide_eq_true (by rw [hsz]; omega)
  have hb0 : 0 < B.size := by rw [hsz]; exact hpos
  have h0 : (((B[0]'hb0).toNat : Int) == 45) = decide (a = 1) := by
    rw [hget 0 hb0, Bool.eq_iff_iff, beq_iff_eq, decide_eq_true_eq]
    rcases hc with ⟨rfl, c, r, rfl, hcc⟩ | ⟨rfl, r, rfl⟩
    · simp only [List.getElem_cons_zero]
      constructor
      · intro h
        exact absurd (UInt8.toNat_inj.1 (show c.toNat = (45 : UInt8).toNat from by have : (45 : UInt8).toNat = 45 := rfl; omega)) hcc
      · intro h; cases h
    · simp
  have h01 : a = 0 ∨ a = 1 := by rcases hc with ⟨h, -⟩ | ⟨h, -⟩ <;> omega
  have hne2 : ((a : Int) == (n : Int)) = false := by simp; omega
  clear hR hn hB ha hc hget
  rcases h01 with rfl | rfl
  · have HH := Lib.hid h0
    go_enter Tryz.func68, Tryz.ntmps68
    go_wp2
    go_loopw [5, 6] (fun uv iv wr => ∃ (z : Int) (i : Nat), uv = .int .u64 z ∧ iv = .int .i64 i ∧ i ≤ n ∧ 0 ≤ z ∧ z < 18446744073709551616 ∧ refN z.toNat (s.drop i) = R ∧ wr = w) (fun _ iv _ => n - (intOf iv).toNat)
    case atStart => exact ⟨0, _, rfl, rfl, by omega, by omega, by omega, HR.out, rfl⟩
    case round =>
      obtain ⟨z, i, rfl, rfl, hi, hz0, hz1, hx, rfl⟩ := hrel
      by_cases hin : i < n
      · have d1 : decide ((i : Int) < (n : Int)) = true := decide_eq_true (by omega)
        have his : i < s.length := by rw [HN.out]; exact hin
        have hib : i < B.size := by rw [hsz]; exact hin
        rw [drop_at his] at hx
        have hg := HGET.out i hib
        obtain ⟨c, hc⟩ : ∃ c, s[i] = c := ⟨_, rfl⟩
        rw [hc] at hx hg
        simp only [refN] at hx
        by_cases hlo : c.toNat < 48
        · have q1 : decide (((B[i]'hib).toNat : Int) < 48) = true := decide_eq_true (by rw [hg]; omega)
          rw [if_pos (.inl hlo)] at hx
          obtain rfl := hx
          clear hlo hg hc
          go_wp2
          go_ret2
          exact ⟨⟨_, rfl⟩, rfl⟩
        · have q1 : decide (((B[i]'hib).toNat : Int) < 48) = false := decide_eq_false (by rw [hg]; omega)
          by_cases hhi : 57 < c.toNat
          · have q2 : decide ((57 : Int) < ((B[i]'hib).toNat : Int)) = true := decide_eq_true (by rw [hg]; omega)
            rw [if_pos (.inr (.inl hhi))] at hx
            obtain rfl := hx
            clear hlo hhi hg hc
            go_wp2
            go_ret2
            exact ⟨⟨_, rfl⟩, rfl⟩
          · have q2 : decide ((57 : Int) < ((B[i]'hib).toNat : Int)) = false := decide_eq_false (by rw [hg]; omega)
            by_cases hbig : 922337203685477580 < z
            · have q3 : decide ((922337203685477580 : Int) < z) = true := decide_eq_true hbig
              rw [if_pos (.inr (.inr (by omega)))] at hx
              obtain rfl := hx
              clear hlo hhi hbig hg hc
              go_wp2
              go_ret2
              exact ⟨⟨_, rfl⟩, rfl⟩
            · have q3 : decide ((922337203685477580 : Int) < z) = false := decide_eq_false hbig
              rw [if_neg (by omega)] at hx
              obtain ⟨d, hd⟩ : ∃ d : Int, (c.toNat : Int) - 48 = d := ⟨_, rfl⟩
              have hd0 : 0 ≤ d ∧ d ≤ 9 := by omega
              have hgd : ((B[i]'hib).toNat : Int) = d + 48 := by rw [hg]; omega
              have hx2 : refN (z * 10 + d).toNat (s.drop (i + 1)) = R := by
                rw [← hx]
                congr 1
                omega
              have HX := Lib.hid hx2
              have w1 : IntKind.u64.wrap (z * 10) = z * 10 := by rw [IntKind.wrap_u64]; omega
              have w2 : IntKind.u8.wrap (((B[i]'hib).toNat : Int) - 48) = d := by rw [hgd, IntKind.wrap_u8]; omega
              have w3 : IntKind.u64.wrap d = d := by rw [IntKind.wrap_u64]; omega
              have w4 : IntKind.u64.wrap (z * 10 + d) = z * 10 + d := by rw [IntKind.wrap_u64]; omega
              have hb2 : 0 ≤ z * 10 + d ∧ z * 10 + d < 18446744073709551616 := by omega
              have HB2 := Lib.hid hb2
              clear hx hx2 hg hgd hc hlo hhi hd hb2 hbig hd0
              go_wp2
              go_roundw
              case rel => exact ⟨z * 10 + d, i + 1, by first | rfl | simp [w1, w2, w3, w4], by go_num, by omega, HB2.out.1, HB2.out.2, HX.out, by first | trivial | rfl⟩
              case measure => simp [intOf]; omega
      · have d1 : decide ((i : Int) < (n : Int)) = false := decide_eq_false (by omega)
        have hie : i = n := by omega
        rw [List.drop_of_length_le (by rw [HN.out]; omega)] at hx
        have HX0 := Lib.hid HR.out
        obtain rfl : R = some z.toNat := hx.symm
        by_cases hz : z ≤ 9223372036854775807
        · have q1 : decide (z ≤ 9223372036854775807) = true := decide_eq_true hz
          have w1 : IntKind.i64.wrap z = z := by rw [IntKind.wrap_i64]; omega
          have he : endN 0 (some z.toNat) = some z := by
            simp only [endN]
            rw [if_neg (by decide), if_pos (by omega)]
            congr 1
            omega
          have HE := Lib.hid he
          have HZ0 := Lib.hid hz
          clear hz he hx HX0
          go_wp2
          go_ret2
          refine ⟨?_, by first | trivial | rfl⟩
          have hz9 := HZ0.out
          rw [HE.out]
          first | rfl | (have hw : wrap64 (-wrap64 z) = -z := (by unfold wrap64; omega); rw [hw]; rfl) | (have hw : wrap64 z = z := (by unfold wrap64; omega); rw [hw]; rfl)
        · have q1 : decide (z ≤ 9223372036854775807) = false := decide_eq_false hz
          have he : endN 0 (some z.toNat) = none := by
            simp only [endN]
            rw [if_neg (by decide), if_neg (by omega)]
          have HE := Lib.hid he
          clear hz he hx HX0
          go_wp2
          go_ret2
          refine ⟨?_, by first | trivial | rfl⟩
          rw [HE.out]
          first | trivial | exact ⟨_, rfl⟩ | simp
  · have HH := Lib.hid h0
    go_enter Tryz.func68, Tryz.ntmps68
    go_wp2
    go_loopw [5, 6] (fun uv iv wr => ∃ (z : Int) (i : Nat), uv = .int .u64 z ∧ iv = .int .i64 i ∧ i ≤ n ∧ 0 ≤ z ∧ z < 18446744073709551616 ∧ refN z.toNat (s.drop i) = R ∧ wr = w) (fun _ iv _ => n - (intOf iv).toNat)
    case atStart => exact ⟨0, _, rfl, rfl, by omega, by omega, by omega, HR.out, rfl⟩
    case round =>
      obtain ⟨z, i, rfl, rfl, hi, hz0, hz1, hx, rfl⟩ := hrel
      by_cases hin : i < n
      · have d1 : decide ((i : Int) < (n : Int)) = true := decide_eq_true (by omega)
        have his : i < s.length := by rw [HN.out]; exact hin
        have hib : i < B.size := by rw [hsz]; exact hin
        rw [drop_at his] at hx
        have hg := HGET.out i hib
        obtain ⟨c, hc⟩ : ∃ c, s[i] = c := ⟨_, rfl⟩
        rw [hc] at hx hg
        simp only [refN] at hx
        by_cases hlo : c.toNat < 48
        · have q1 : decide (((B[i]'hib).toNat : Int) < 48) = true := decide_eq_true (by rw [hg]; omega)
          rw [if_pos (.inl hlo)] at hx
          obtain rfl := hx
          clear hlo hg hc
          go_wp2
          go_ret2
          exact ⟨⟨_, rfl⟩, rfl⟩
        · have q1 : decide (((B[i]'hib).toNat : Int) < 48) = false := decide_eq_false (by rw [hg]; omega)
          by_cases hhi : 57 < c.toNat
          · have q2 : decide ((57 : Int) < ((B[i]'hib).toNat : Int)) = true := decide_eq_true (by rw [hg]; omega)
            rw [if_pos (.inr (.inl hhi))] at hx
            obtain rfl := hx
            clear hlo hhi hg hc
            go_wp2
            go_ret2
            exact ⟨⟨_, rfl⟩, rfl⟩
          · have q2 : decide ((57 : Int) < ((B[i]'hib).toNat : Int)) = false := decide_eq_false (by rw [hg]; omega)
            by_cases hbig : 922337203685477580 < z
            · have q3 : decide ((922337203685477580 : Int) < z) = true := decide_eq_true hbig
              rw [if_pos (.inr (.inr (by omega)))] at hx
              obtain rfl := hx
              clear hlo hhi hbig hg hc
              go_wp2
              go_ret2
              exact ⟨⟨_, rfl⟩, rfl⟩
            · have q3 : decide ((922337203685477580 : Int) < z) = false := decide_eq_false hbig
              rw [if_neg (by omega)] at hx
              obtain ⟨d, hd⟩ : ∃ d : Int, (c.toNat : Int) - 48 = d := ⟨_, rfl⟩
              have hd0 : 0 ≤ d ∧ d ≤ 9 := by omega
              have hgd : ((B[i]'hib).toNat : Int) = d + 48 := by rw [hg]; omega
              have hx2 : refN (z * 10 + d).toNat (s.drop (i + 1)) = R := by
                rw [← hx]
                congr 1
                omega
              have HX := Lib.hid hx2
              have w1 : IntKind.u64.wrap (z * 10) = z * 10 := by rw [IntKind.wrap_u64]; omega
              have w2 : IntKind.u8.wrap (((B[i]'hib).toNat : Int) - 48) = d := by rw [hgd, IntKind.wrap_u8]; omega
              have w3 : IntKind.u64.wrap d = d := by rw [IntKind.wrap_u64]; omega
              have w4 : IntKind.u64.wrap (z * 10 + d) = z * 10 + d := by rw [IntKind.wrap_u64]; omega
              have hb2 : 0 ≤ z * 10 + d ∧ z * 10 + d < 18446744073709551616 := by omega
              have HB2 := Lib.hid hb2
              clear hx hx2 hg hgd hc hlo hhi hd hb2 hbig hd0
              go_wp2
              go_roundw
              case rel => exact ⟨z * 10 + d, i + 1, by first | rfl | simp [w1, w2, w3, w4], by go_num, by omega, HB2.out.1, HB2.out.2, HX.out, by first | trivial | rfl⟩
              case measure => simp [intOf]; omega
      · have d1 : decide ((i : Int) < (n : Int)) = false := decide_eq_false (by omega)
        have hie : i = n := by omega
        rw [List.drop_of_length_le (by rw [HN.out]; omega)] at hx
        have HX0 := Lib.hid HR.out
        obtain rfl : R = some z.toNat := hx.symm
        by_cases hz : z ≤ 9223372036854775808
        · have q1 : decide (z ≤ 9223372036854775808) = true := decide_eq_true hz
          have w1 : IntKind.i64.wrap (-(IntKind.i64.wrap z)) = -z := by rw [IntKind.wrap_i64, IntKind.wrap_i64]; omega
          have he : endN 1 (some z.toNat) = some (-z) := by
            simp only [endN]
            rw [if_pos trivial, if_pos (by omega)]
            congr 1
            omega
          have HE := Lib.hid he
          have HZ0 := Lib.hid hz
          clear hz he hx HX0
          go_wp2
          go_ret2
          refine ⟨?_, by first | trivial | rfl⟩
          have hz9 := HZ0.out
          rw [HE.out]
          first | rfl | (have hw : wrap64 (-wrap64 z) = -z := (by unfold wrap64; omega); rw [hw]; rfl) | (have hw : wrap64 z = z := (by unfold wrap64; omega); rw [hw]; rfl)
        · have q1 : decide (z ≤ 9223372036854775808) = false := decide_eq_false hz
          have he : endN 1 (some z.toNat) = none := by
            simp only [endN]
            rw [if_pos trivial, if_neg (by omega)]
          have HE := Lib.hid he
          clear hz he hx HX0
          go_wp2
          go_ret2
          refine ⟨?_, by first | trivial | rfl⟩
          rw [HE.out]
          first | trivial | exact ⟨_, rfl⟩ | simp
theorem ref_number (s : Bs) (w : World) (hl : s.length ≤ 1099511627776) (hs : s ≠ []) (hne : s ≠ [45]) : Calls Tryz.prog 68 #[.string (toB s)] w (NumR (refNum s) w) := by
  obtain ⟨c, r, rfl⟩ : ∃ c r, s = c :: r := by
    cases s with
    | nil => exact absurd rfl hs
    | cons c r => exact ⟨c, r, rfl⟩
  by_cases hc : c = 45
  · subst hc
    have ha : minusN (45 :: r) = 1 := by simp [minusN]
    have hn : (45 :: r : Bs).length ≠ 1 := by
      intro e
      have : r = [] := List.eq_nil_of_length_eq_zero (by simpa using e)
      subst this
      exact hne rfl
    rw [refNum_at _ (by rw [ha]; exact hn), ha]
    exact ref_number_loop _ 1 _ w hl rfl ha hn (.inr ⟨rfl, r, rfl⟩)
  · have ha : minusN (c :: r) = 0 := by
      unfold minusN
      rw [if_neg]
      simpa using hc
    have hn : (c :: r : Bs).length ≠ 0 := by simp
    rw [refNum_at _ (by rw [ha]; exact hn), ha]
    exact ref_number_loop _ 0 _ w hl rfl ha hn (.inl ⟨rfl, c, r, rfl, hc⟩)
end Go.Proofs.YtljnbbdhmlfhjaaGreatDoor
/-
  The document's push: parts.
-/
namespace Go.Proofs.YtljnbbdhmlfhjaaGreatDoor
open Go.RowKit
theorem ESJ : ElemT Tryz.prog 45 9 (.string ⟨#[]⟩) 1 16 := ⟨Tryz.underlying45, by kernel_rfl, rfl, by decide⟩
/-- The text's bytes between two places. -/
def midS (s : Bs) (a b : Nat) : Bs := (s.drop a).take (b - a)
theorem mid_snoc {s : Bs} {a i : Nat} (h : a ≤ i) (hi : i < s.length) : midS s a (i + 1) = midS s a i ++ [s[i]] := by
  unfold midS
  rw [show i + 1 - a = (i - a) + 1 by omega, List.take_succ_eq_append_getElem (by rw [List.length_drop]; omega)]
  congr 2
  rw [List.getElem_drop]
  congr 1
  omega
theorem mid_nil (s : Bs) (a : Nat) : midS s a a = [] := by simp [midS]
/-- What is left to read, from place i on. -/
def restS (s : Bs) (i : Nat) : Bs := (s.drop i).take (s.length - 1 - i)
theorem rest_cons {s : Bs} {i : Nat} (h : i < s.length - 1) : restS s i = s[i]'(by omega) :: restS s (i + 1) := by
  unfold restS
  rw [List.drop_eq_getElem_cons (by omega), show s.length - 1 - i = (s.length - 1 - (i + 1)) + 1 by omega, List.take_succ_cons]
theorem rest_nil {s : Bs} {i : Nat} (h : s.length - 1 ≤ i) : restS s i = [] := by
  unfold restS
  rw [show s.length - 1 - i = 0 by omega]
  simp
theorem inner_rest (s : Bs) : innerS s = restS s 1 := by
  unfold innerS restS
  rw [show s.length - 1 - 1 = s.length - 2 by omega]
/-- The state of the scan: what has been cut off, what stands behind the last cut. -/
def ScanAt (s : Bs) (X : List Bs) (i from_ : Nat) (d : Int) (q : Bool) (out : List Bs) : Prop := from_ ≤ i ∧ i ≤ s.length ∧ from_ ≤ s.length - 1 ∧
  ((i ≤ s.length - 1 ∧ X = out ++ scanP (restS s i) d q false (midS s from_ i)) ∨ (s.length - 1 < i ∧ X = out ++ [midS s from_ (s.length - 1)]))
theorem scan_start (s : Bs) (h : 2 ≤ s.length) : ScanAt s (scanP (innerS s) 0 false false []) 1 1 0 false [] :=
  ⟨Nat.le_refl _, by omega, by omega, .inl ⟨by omega, by rw [inner_rest, mid_nil]; rfl⟩⟩
theorem scan_done {s : Bs} {X : List Bs} {i from_ : Nat} {d : Int} {q : Bool} {out : List Bs} (h : ScanAt s X i from_ d q out) (hi : s.length - 1 ≤ i) : X = out ++ [midS s from_ (s.length - 1)] := by
  obtain ⟨h1, h2, h3, h4⟩ := h
  rcases h4 with ⟨h4, h5⟩ | ⟨h4, h5⟩
  · have : i = s.length - 1 := by omega
    subst this
    rw [h5, rest_nil (Nat.le_refl _)]
    rfl
  · exact h5
section
variable {s : Bs} {X : List Bs} {i from_ : Nat} {d : Int} {q : Bool} {out : List Bs}
theorem ScanAt.now (h : ScanAt s X i from_ d q out) (hi : i < s.length - 1) : X = out ++ scanP (s[i]'(by omega) :: restS s (i + 1)) d q false (midS s from_ i) := by
  obtain ⟨h1, h2, h3, h4⟩ := h
  rcases h4 with ⟨h4, h5⟩ | ⟨h4, h5⟩
  · rw [h5, rest_cons hi]
  · omega
theorem ScanAt.step (h : ScanAt s X i from_ d q out) (hi : i < s.length - 1) {d' : Int} {q' : Bool} (e : scanP (s[i]'(by omega) :: restS s (i + 1)) d q false (midS s from_ i) = scanP (restS s (i + 1)) d' q' false (midS s from_ i ++ [s[i]'(by omega)])) : ScanAt s X (i + 1) from_ d' q' out := by
  refine ⟨by have := h.1; omega, by omega, h.2.2.1, .inl ⟨by omega, ?_⟩⟩
  rw [h.now hi, e, mid_snoc h.1 (by omega)]
theorem ScanAt.skip (h : ScanAt s X i from_ d true out) (hi : i < s.length - 1) (hc : s[i]'(by omega) = 92) : ScanAt s X (i + 1 + 1) from_ d true out := by
  have h0 := h.now hi
  rw [hc] at h0
  have e0 : scanP (92 :: restS s (i + 1)) d true false (midS s from_ i) = scanP (restS s (i + 1)) d true true (midS s from_ i ++ [92]) := by simp [scanP]
  rw [e0] at h0
  by_cases h1 : i + 1 < s.length - 1
  · refine ⟨by have := h.1; omega, by omega, h.2.2.1, .inl ⟨by omega, ?_⟩⟩
    rw [rest_cons h1] at h0
    simp only [scanP] at h0
    rw [h0, mid_snoc (show from_ ≤ i + 1 by have := h.1; omega) (by omega), mid_snoc h.1 (by omega), hc]
  · refine ⟨by have := h.1; omega, by omega, h.2.2.1, .inr ⟨by omega, ?_⟩⟩
    rw [rest_nil (by omega)] at h0
    simp only [scanP] at h0
    rw [h0, show s.length - 1 = i + 1 by omega, mid_snoc h.1 (by omega), hc]
theorem ScanAt.cut (h : ScanAt s X i from_ 0 false out) (hi : i < s.length - 1) (hc : s[i]'(by omega) = 44 ∨ s[i]'(by omega) = 58) : ScanAt s X (i + 1) (i + 1) 0 false (out ++ [midS s from_ i]) := by
  refine ⟨Nat.le_refl _, by omega, by omega, .inl ⟨by omega, ?_⟩⟩
  rw [h.now hi, scan_cut hc, mid_nil]
  simp
end
end Go.Proofs.YtljnbbdhmlfhjaaGreatDoor
/-
  The document's push: parts, its walk.
-/
namespace Go.Proofs.YtljnbbdhmlfhjaaGreatDoor
open Go.RowKit
theorem ext_mid (s : Bs) (a b : Nat) (hab : a ≤ b) (hb : b ≤ s.length) : (toB s).extract a b = toB (midS s a b) := by
  apply ByteArray.ext
  simp only [toB, midS, ByteArray.data_extract]
  apply Array.ext'
  simp
set_option maxRecDepth 100000 in
set_option maxHeartbeats 40000000 in
theorem ref_parts (s : Bs) (w : World) (hl : s.length ≤ 1000000000) (h2 : 2 ≤ s.length) :
    Calls Tryz.prog 32 #[.string (toB s)] w fun e w' => ∃ v, e = .returned v ∧ w'.ownsRow w.heap.size 9 1 v (partsP s).length ((partsP s).map strV) ∧ Below w.heap.size w w' := by
  have hst := scan_start s h2
  obtain ⟨X, hX⟩ : ∃ X, scanP (innerS s) 0 false false [] = X := ⟨_, rfl⟩
  rw [hX] at hst
  have HST := Lib.hid hst
  have hpp : partsP s = if 2 < s.length then X else [] := by unfold partsP; rw [hX]
  have HPP := Lib.hid hpp
  have HEXT := Lib.hid (fun a b (h1 : a ≤ b) (h2 : b ≤ s.length) => ext_mid s a b h1 h2)
  have hsz := toB_size s
  obtain ⟨n, hn⟩ : ∃ n, s.length = n := ⟨_, rfl⟩
  have HN := Lib.hid hn
  rw [hn] at hsz hl h2
  obtain ⟨B, hB⟩ : ∃ B, toB s = B := ⟨_, rfl⟩
  rw [hB] at HEXT hsz ⊢
  have hget : ∀ i (h : i < B.size) (h' : i < s.length), B[i]'h = s[i]'h' := fun i h h' => by
    subst hB
    exact toB_get s i h
  have HGET := Lib.hid hget
  clear hst hX hpp hn hB hget
  go_enter Tryz.func32, Tryz.ntmps32
  go_wp2
  go_loopw [3, 4, 5, 6, 7] (fun ov dv qv fv iv wr => ∃ (out : List Bs) (d : Int) (q : Bool) (f i : Nat), dv = .int .i64 d ∧ qv = .bool q ∧ fv = .int .i64 f ∧ iv = .int .i64 i ∧ -(i : Int) ≤ d ∧ d ≤ i ∧ out.length ≤ i ∧ 1 ≤ i ∧ (n ≤ 2 → out = []) ∧ wr.ownsRow w.heap.size 9 1 ov out.length (out.map strV) ∧ ScanAt s X i f d q out ∧ Below w.heap.size w wr) (fun _ _ _ _ iv _ => n - (intOf iv).toNat)
  case atStart => exact ⟨[], 0, false, 1, 1, rfl, rfl, rfl, rfl, by omega, by omega, by simp, by omega, fun _ => rfl, World.ownsRow_nil _ _ _ _, HST.out, Below.refl _ _⟩
  case round =>
    obtain ⟨out, d, q, f, i, rfl, rfl, rfl, rfl, hd0, hd1, hol, hi0, hn2, ho, hs, hb⟩ := hrel
    have hi1 : i ≤ n := by have := hs.2.1; rw [HN.out] at this; exact this
    have hfi := hs.1
    have hfn : f ≤ n - 1 := by have := hs.2.2.1; rw [HN.out] at this; exact this
    have HS := Lib.hid hs
    have HO := Lib.hid ho
    have hown := fun o => ho.alloc o
    have hbs := hb.size
    obtain ⟨va, vc, hva⟩ := owns_slice ho
    obtain ⟨on, hon⟩ : ∃ on, out.length = on := ⟨_, rfl⟩
    have HON := Lib.hid hon
    rw [hon] at hva hown hol
    subst hva
    have HN2 := Lib.hid hn2
    clear hs ho hon hn2
    by_cases hin : i < n - 1
    · have d1 : decide ((i : Int) < (n : Int) - 1) = true := decide_eq_true (by omega)
      have his : i < s.length - 1 := by rw [HN.out]; exact hin
      have hib : i < B.size := by rw [hsz]; omega
      have hg := HGET.out i hib (by omega)
      go_upto_region 9 with fail
      have hib2 : i < s.length := by omega
      obtain ⟨c, hc⟩ : ∃ c, s[i]'hib2 = c := ⟨_, rfl⟩
      rw [hc]
      have HC := Lib.hid hc
      have HSTEP := Lib.hid (fun (d' : Int) (q' : Bool) (e : ∀ t cur, scanP (c :: t) d q false cur = scanP t d' q' false (cur ++ [c])) => HS.out.step his (d' := d') (q' := q') (by have h := e (restS s (i + 1)) (midS s f i); rw [← hc] at h; exact h))
      have dc : ∀ k : UInt8, ((c.toNat : Int) == (k.toNat : Int)) = decide (c = k) := fun k => by
        rw [Bool.eq_iff_iff, beq_iff_eq, decide_eq_true_eq]
        constructor
        · intro h
          exact UInt8.toNat_inj.1 (by omega)
        · rintro rfl
          rfl
      have HDC := Lib.hid dc
      clear hc hg dc hib
      by_cases h92 : q = true ∧ c = 92
      · obtain ⟨rfl, rfl⟩ := h92
        have hsk := HS.out.skip his HC.out
        have HSK := Lib.hid hsk
        clear hsk HSTEP HDC
        go_wp2
        go_roundw
        case rel => exact ⟨out, d, true, f, i + 1 + 1, rfl, rfl, rfl, by go_num, by omega, by omega, by rw [HON.out]; omega, by omega, fun h => absurd h (by omega), HO.out, HSK.out, hb⟩
        case measure => simp [intOf]; omega
      · cases q with
        | true =>
          have n92 : ¬ c = 92 := fun e => h92 ⟨rfl, e⟩
          have e92 : ((c.toNat : Int) == 92) = false := (HDC.out 92).trans (decide_eq_false n92)
          by_cases h34 : c = 34
          · subst h34
            have HK := Lib.hid (HSTEP.out d false (fun t cur => by simp [scanP]))
            clear HSTEP HDC h92 n92
            go_wp2
            go_roundw
            case rel => exact ⟨out, d, false, f, i + 1, by first | rfl | go_num, by first | rfl | simp, rfl, by go_num, by omega, by omega, by rw [HON.out]; omega, by omega, fun h => absurd h (by omega), HO.out, HK.out, hb⟩
            case measure => simp [intOf]; omega
          · have e34 : ((c.toNat : Int) == 34) = false := (HDC.out 34).trans (decide_eq_false h34)
            have HK := Lib.hid (HSTEP.out d true (fun t cur => scan_in n92 h34 t d cur))
            clear HSTEP HDC h92 n92 h34
            go_wp2
            go_roundw
            case rel => exact ⟨out, d, true, f, i + 1, by first | rfl | go_num, by first | rfl | simp, rfl, by go_num, by omega, by omega, by rw [HON.out]; omega, by omega, fun h => absurd h (by omega), HO.out, HK.out, hb⟩
            case measure => simp [intOf]; omega
        | false =>
          clear h92
          by_cases h34 : c = 34
          · subst h34
            have HK := Lib.hid (HSTEP.out d true (fun t cur => by simp [scanP]))
            clear HSTEP HDC
            go_wp2
            go_roundw
            case rel => exact ⟨out, d, true, f, i + 1, by first | rfl | go_num, by first | rfl | simp, rfl, by go_num, by omega, by omega, by rw [HON.out]; omega, by omega, fun h => absurd h (by omega), HO.out, HK.out, hb⟩
            case measure => simp [intOf]; omega
          · have e34 : ((c.toNat : Int) == 34) = false := (HDC.out 34).trans (decide_eq_false h34)
            by_cases ho1 : c = 91 ∨ c = 123
            · have HK := Lib.hid (HSTEP.out (d + 1) false (fun t cur => scan_open ho1 t d cur))
              clear HSTEP HDC e34
              rcases ho1 with rfl | rfl
              all_goals
                go_wp2
                go_roundw
                case rel => exact ⟨out, d + 1, false, f, i + 1, by first | rfl | go_num, by first | rfl | simp, rfl, by go_num, by omega, by omega, by rw [HON.out]; omega, by omega, fun h => absurd h (by omega), HO.out, HK.out, hb⟩
                case measure => simp [intOf]; omega
            · have n91 : ¬ c = 91 := fun e => ho1 (.inl e)
              have n123 : ¬ c = 123 := fun e => ho1 (.inr e)
              have e91 : ((c.toNat : Int) == 91) = false := (HDC.out 91).trans (decide_eq_false n91)
              have e123 : ((c.toNat : Int) == 123) = false := (HDC.out 123).trans (decide_eq_false n123)
              by_cases ho2 : c = 93 ∨ c = 125
              · have HK := Lib.hid (HSTEP.out (d - 1) false (fun t cur => scan_shut ho2 t d cur))
                clear HSTEP HDC e34 e91 e123 n91 n123 ho1 h34
                rcases ho2 with rfl | rfl
                all_goals
                  go_wp2
                  go_roundw
                  case rel => exact ⟨out, d - 1, false, f, i + 1, by first | rfl | go_num, by first | rfl | simp, rfl, by go_num, by omega, by omega, by rw [HON.out]; omega, by omega, fun h => absurd h (by omega), HO.out, HK.out, hb⟩
                  case measure => simp [intOf]; omega
              · have n93 : ¬ c = 93 := fun e => ho2 (.inl e)
                have n125 : ¬ c = 125 := fun e => ho2 (.inr e)
                have e93 : ((c.toNat : Int) == 93) = false := (HDC.out 93).trans (decide_eq_false n93)
                have e125 : ((c.toNat : Int) == 125) = false := (HDC.out 125).trans (decide_eq_false n125)
                by_cases hd : d = 0
                · by_cases ho3 : c = 44 ∨ c = 58
                  · subst hd
                    have HCUT := Lib.hid (HS.out.cut his (by rw [HC.out]; exact ho3))
                    have HE := Lib.hid (HEXT.out f i hfi (by omega))
                    have j1 : (f : Int) ≤ (i : Int) := by omega
                    have j2 : (i : Int) ≤ (B.size : Int) := by omega
                    clear HSTEP HDC n91 n123 n93 n125 ho1 ho2 h34
                    rcases ho3 with rfl | rfl
                    all_goals
                      go_wp2_with (at_builtin; go_loud (refine wpList_append_src rfl _ _ _ _ rfl w.heap.size ESJ _ on (out.map strV) rfl (hown _) _ 1 [_] rfl (by exact src_last (cs := #[_]) Tryz.underlying45 1 1 1 (by simp) rfl (by simp [Value.oneCell'])) (by unfold maxLen; omega) (by omega) (by simp; omega) ?_); intro v9 w9 hown9 hgr9 _ _; have H9 := Lib.hid (And.intro hown9 hgr9); clear hown9 hgr9)
                      go_roundw
                      case rel =>
                        refine ⟨out ++ [midS s f i], 0, false, i + 1, i + 1, by first | rfl | go_num, rfl, by go_num, by go_num, by omega, by omega, by rw [List.length_append, HON.out]; simp; omega, by omega, fun h => absurd h (by omega), ?_, HCUT.out, ?_⟩
                        · rw [List.length_append, HON.out, List.map_append]
                          have h := H9.out.1
                          rw [HE.out] at h
                          exact h
                        · exact (belowAJ hb hb.size).grown H9.out.2 (by simp; omega) (fun j hj => (HO.out.lt j hj).1)
                      case measure => simp [intOf]; omega
                  · have n44 : ¬ c = 44 := fun e => ho3 (.inl e)
                    have n58 : ¬ c = 58 := fun e => ho3 (.inr e)
                    have e44 : ((c.toNat : Int) == 44) = false := (HDC.out 44).trans (decide_eq_false n44)
                    have e58 : ((c.toNat : Int) == 58) = false := (HDC.out 58).trans (decide_eq_false n58)
                    have dd : (d == 0) = true := by simp [hd]
                    have HK := Lib.hid (HSTEP.out d false (fun t cur => scan_calm ⟨h34, ho1, ho2, ho3⟩ t d cur))
                    clear HSTEP HDC n91 n123 n93 n125 n44 n58 ho1 ho2 ho3 h34 hd
                    go_wp2
                    go_roundw
                    case rel => exact ⟨out, d, false, f, i + 1, by first | rfl | go_num, by first | rfl | simp, rfl, by go_num, by omega, by omega, by rw [HON.out]; omega, by omega, fun h => absurd h (by omega), HO.out, HK.out, hb⟩
                    case measure => simp [intOf]; omega
                · have dd : (d == 0) = false := by simp [hd]
                  have HK := Lib.hid (HSTEP.out d false (fun t cur => by simp only [scanP]; rw [if_neg (by simp), if_neg h34, if_neg (by simp), if_neg ho1, if_neg ho2, if_neg (fun e => hd e.1)]))
                  clear HSTEP HDC n91 n123 n93 n125 ho1 ho2 h34 hd
                  go_wp2
                  go_roundw
                  case rel => exact ⟨out, d, false, f, i + 1, by first | rfl | go_num, by first | rfl | simp, rfl, by go_num, by omega, by omega, by rw [HON.out]; omega, by omega, fun h => absurd h (by omega), HO.out, HK.out, hb⟩
                  case measure => simp [intOf]; omega
    · have d1 : decide ((i : Int) < (n : Int) - 1) = false := decide_eq_false (by omega)
      have hdone := scan_done HS.out (by rw [HN.out]; omega)
      rw [HN.out] at hdone
      by_cases hbig : 2 < n
      · have d2 : decide ((2 : Int) < (n : Int)) = true := decide_eq_true (by omega)
        have hP := HPP.out
        rw [HN.out, if_pos hbig, hdone] at hP
        have HP := Lib.hid hP
        have HE := Lib.hid (HEXT.out f (n - 1) hfn (by rw [HN.out]; omega))
        obtain ⟨m, hm⟩ : ∃ m, n - 1 = m := ⟨_, rfl⟩
        have hmi : (n : Int) - 1 = (m : Int) := by omega
        have j1 : (f : Int) ≤ (m : Int) := by omega
        have j2 : (m : Int) ≤ (B.size : Int) := by omega
        rw [hm] at HE HP
        clear hdone hP hm
        go_wp2_with (at_builtin; go_loud (refine wpList_append_src rfl _ _ _ _ rfl w.heap.size ESJ _ on (out.map strV) rfl (hown _) _ 1 [_] rfl (by exact src_last (cs := #[_]) Tryz.underlying45 1 1 1 (by simp) rfl (by simp [Value.oneCell'])) (by unfold maxLen; omega) (by omega) (by simp; omega) ?_); intro v9 w9 hown9 hgr9 _ _; have H9 := Lib.hid (And.intro hown9 hgr9); clear hown9 hgr9)
        go_ret
        refine ⟨_, rfl, ?_, (belowAJ hb hb.size).grown H9.out.2 (by simp; omega) (fun j hj => (HO.out.lt j hj).1)⟩
        rw [HP.out, List.length_append, HON.out, List.map_append]
        have h := H9.out.1
        rw [HE.out] at h
        exact h
      · have d2 : decide ((2 : Int) < (n : Int)) = false := decide_eq_false (by omega)
        have hout := HN2.out (by omega)
        have hP := HPP.out
        rw [HN.out, if_neg hbig] at hP
        have HP := Lib.hid (And.intro hout hP)
        clear hdone hout hP
        go_wp2
        go_ret
        refine ⟨_, rfl, ?_, hb⟩
        have h := HO.out
        rw [HP.out.2]
        rw [HP.out.1] at h
        have hon0 : on = 0 := by
          have h1 := HON.out
          rw [HP.out.1] at h1
          simpa using h1.symm
        subst hon0
        exact h
end Go.Proofs.YtljnbbdhmlfhjaaGreatDoor
