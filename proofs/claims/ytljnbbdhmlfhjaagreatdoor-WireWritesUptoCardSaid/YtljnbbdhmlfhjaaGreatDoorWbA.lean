/-
  The document's numerals: Digits, Signed.
-/
import Derived.Test.YtljnbbdhmlfhjaaGreatDoorJfOne
import Derived.Test.YtljnbbdhmlfhjaaGreatDoorWirTri
namespace Go.Proofs.YtljnbbdhmlfhjaaGreatDoor
open Go.RowKit
theorem conv_litW (o : UInt8) (z : Int) (hz : z = (o.toNat : Int)) (W : World) (B : Nat) (hB : W.heap.size = B) :
    (convert 22 9 (.slice (some ⟨B, 0, none⟩) 1 1)).run Tryz.prog (W.alloc (.cells #[.int .u8 z] 5)) = .ok (.string ⟨#[o]⟩) (W.alloc (.cells #[.int .u8 z] 5)) := by
  subst hz hB
  exact conv_owned (l := [o]) Tryz.underlying22 Tryz.underlying5 Tryz.underlying9 (owns_new W #[.int .u8 (o.toNat : Int)] 5 1 rfl (by decide))
set_option maxRecDepth 100000 in
set_option maxHeartbeats 20000000 in
theorem ref_Digits (u : Nat) (hu : u < 18446744073709551616) (w : World) :
    Calls Tryz.prog 72 #[.int .u64 (u : Int)] w fun e w' => e = .returned (.string ⟨(Lib.decDigits u).toArray⟩) ∧ Below w.heap.size w w' := by
  obtain ⟨D, hD⟩ : ∃ D, Lib.decDigits u = D := ⟨_, rfl⟩
  have hDl : D.length ≤ 20 := by rw [← hD, Lib.decDigits_length]; exact Lib.nDigits_le20 u hu
  have HD := Lib.hid hD
  rw [hD]
  obtain ⟨z0, hz0⟩ : ∃ z0 : Int, (u : Int) = z0 := ⟨_, rfl⟩
  have hz1 : 0 ≤ z0 ∧ z0 < 18446744073709551616 ∧ z0.toNat = u := by omega
  rw [hz0]
  have HZ := Lib.hid hz1
  clear hD hz0 hu hz1
  go_enter Tryz.func72, Tryz.ntmps72
  go_wp2
  go_loopw [0, 3] (fun nv sv wr => ∃ (z : Int) (S : ByteArray), nv = .int .u64 z ∧ sv = .string S ∧ 0 ≤ z ∧ z < 18446744073709551616 ∧ Lib.decDigits z.toNat ++ S.data.toList = D ∧ Below w.heap.size w wr) (fun nv _ _ => (intOf nv).toNat)
  case atStart => exact ⟨z0, ⟨#[]⟩, rfl, rfl, HZ.out.1, HZ.out.2.1, by rw [HZ.out.2.2, HD.out]; simp, Below.refl _ _⟩
  case round =>
    obtain ⟨z, S, rfl, rfl, h0, h1, hs, hb⟩ := hrel
    have hSl : S.size ≤ 20 := by
      have h := congrArg List.length hs
      rw [List.length_append] at h
      have : S.data.toList.length = S.size := by simp [ByteArray.size_data]
      omega
    have HS := Lib.hid hs
    clear hs
    by_cases hz : 10 ≤ z
    · have d1 : decide ((10 : Int) ≤ z) = true := decide_eq_true hz
      obtain ⟨r, hr⟩ : ∃ r, z.tmod 10 = r := ⟨_, rfl⟩
      obtain ⟨q, hq⟩ : ∃ q, z.tdiv 10 = q := ⟨_, rfl⟩
      have hr0 : 0 ≤ r ∧ r ≤ 9 ∧ r = z % 10 := by rw [← hr, Int.tmod_eq_emod_of_nonneg h0]; omega
      have hq0 : 0 ≤ q ∧ q < z ∧ q = z / 10 := by rw [← hq, Int.tdiv_eq_ediv_of_nonneg h0]; omega
      obtain ⟨rn, rfl⟩ : ∃ rn : Nat, r = rn := ⟨r.toNat, by omega⟩
      have hx1 : IntKind.u64.wrap (48 + (rn : Int)) = 48 + (rn : Int) := by rw [IntKind.wrap_u64]; omega
      have hx2 : IntKind.u8.wrap (48 + (rn : Int)) = 48 + (rn : Int) := by rw [IntKind.wrap_u8]; omega
      have hdg := dec_digit rn (by omega)
      have cv := conv_litW (UInt8.ofNat (48 + rn)) (48 + (rn : Int)) (by rw [hdg]; omega) wr _ rfl
      have hes : (⟨#[UInt8.ofNat (48 + rn)]⟩ : ByteArray).size = 1 := rfl
      obtain ⟨O, hO⟩ : ∃ O : ByteArray, (⟨#[UInt8.ofNat (48 + rn)]⟩ : ByteArray) = O := ⟨_, rfl⟩
      rw [hO] at cv hes
      have HO := Lib.hid hO
      have HQ := Lib.hid (And.intro hq0 hr0)
      have hwq : IntKind.u64.wrap q = q := by rw [IntKind.wrap_u64]; omega
      have hqt : q.toNat < z.toNat := by omega
      have HQT := Lib.hid hqt
      have hbn := belowAJ (o := .cells #[.int .u8 (48 + (rn : Int))] 5) hb hb.size
      have HZ10 := Lib.hid hz
      have H0 := Lib.hid h0
      clear hO hq0 hr0 hqt hdg hz
      go_wp2
      go_roundw
      case rel =>
        refine ⟨q, O ++ S, by first | rfl | simp [hq], rfl, HQ.out.1.1, by have := HQ.out.1.2.1; omega, ?_, hbn⟩
        have h := HS.out
        have e1 : q.toNat = z.toNat / 10 := by have := HQ.out.1.2.2; have := H0.out; omega
        have e2 : rn = z.toNat % 10 := by have := HQ.out.2.2.2; have := H0.out; omega
        have e3 : Lib.decDigits z.toNat = Lib.decDigits (z.toNat / 10) ++ [UInt8.ofNat (48 + z.toNat % 10)] := by
          have hh : ¬ z.toNat < 10 := by have := HZ10.out; omega
          rw [Lib.decDigits, dif_neg hh]
        rw [e3, ← e1, ← e2] at h
        rw [ByteArray.data_append, Array.toList_append, ← h, ← HO.out]
        simp
      case measure => have := HQT.out; simp [intOf]; omega
    · have d1 : decide ((10 : Int) ≤ z) = false := decide_eq_false hz
      obtain ⟨rn, rfl⟩ : ∃ rn : Nat, z = rn := ⟨z.toNat, by omega⟩
      have hx1 : IntKind.u64.wrap (48 + (rn : Int)) = 48 + (rn : Int) := by rw [IntKind.wrap_u64]; omega
      have hx2 : IntKind.u8.wrap (48 + (rn : Int)) = 48 + (rn : Int) := by rw [IntKind.wrap_u8]; omega
      have hdg := dec_digit rn (by omega)
      have cv := conv_litW (UInt8.ofNat (48 + rn)) (48 + (rn : Int)) (by rw [hdg]; omega) wr _ rfl
      have hes : (⟨#[UInt8.ofNat (48 + rn)]⟩ : ByteArray).size = 1 := rfl
      obtain ⟨O, hO⟩ : ∃ O : ByteArray, (⟨#[UInt8.ofNat (48 + rn)]⟩ : ByteArray) = O := ⟨_, rfl⟩
      rw [hO] at cv hes
      have HO := Lib.hid hO
      have hbn := belowAJ (o := .cells #[.int .u8 (48 + (rn : Int))] 5) hb hb.size
      have HRN := Lib.hid (show rn < 10 by omega)
      clear hO hdg hz
      go_wp2
      go_ret
      refine ⟨?_, hbn⟩
      have h := HS.out
      rw [Int.toNat_natCast, Lib.decDigits_one HRN.out] at h
      have hE : O ++ S = ⟨D.toArray⟩ := by
        apply ByteArray.ext
        apply Array.ext'
        rw [ByteArray.data_append, Array.toList_append, ← HO.out, ← h]
      rw [← hE]
      rfl
set_option maxRecDepth 100000 in
set_option maxHeartbeats 20000000 in
theorem ref_Signed (n : Int) (h0 : -9223372036854775808 ≤ n) (h1 : n ≤ 9223372036854775807) (w : World) :
    Calls Tryz.prog 37 #[.int .i64 n] w fun e w' => e = .returned (.string ⟨(Lib.itoa n).toArray⟩) ∧ Below w.heap.size w w' := by
  by_cases hn : n < 0
  · obtain ⟨u, hu⟩ : ∃ u : Nat, n = -(u : Int) := ⟨n.natAbs, by omega⟩
    have hu1 : 1 ≤ u := by omega
    have CD := ref_Digits u (by omega) w
    have d1 : decide (n < 0) = true := decide_eq_true hn
    have e1 : Lib.itoa n = 45 :: Lib.decDigits u := by rw [hu]; exact Lib.itoa_neg u hu1
    have hl : (Lib.decDigits u).length ≤ 20 := by rw [Lib.decDigits_length]; exact Lib.nDigits_le20 u (by omega)
    have x1 : IntKind.i64.wrap (n + 1) = n + 1 := by rw [IntKind.wrap_i64]; omega
    have x2 : IntKind.i64.wrap (-(n + 1)) = -(n + 1) := by rw [IntKind.wrap_i64]; omega
    have x3 : IntKind.u64.wrap (-(n + 1)) = -(n + 1) := by rw [IntKind.wrap_u64]; omega
    have x4 : IntKind.u64.wrap (-(n + 1) + 1) = (u : Int) := by rw [IntKind.wrap_u64]; omega
    obtain ⟨z, hz⟩ : ∃ z : Int, (u : Int) = z := ⟨_, rfl⟩
    rw [hz] at CD x4
    obtain ⟨O, hO⟩ : ∃ O : ByteArray, (⟨(Lib.decDigits u).toArray⟩ : ByteArray) = O := ⟨_, rfl⟩
    have hos : O.size ≤ 20 := by rw [← hO]; exact hl
    have HE := Lib.hid (show (⟨#[45]⟩ ++ O : ByteArray) = ⟨(Lib.itoa n).toArray⟩ by
      rw [← hO, e1]
      apply ByteArray.ext
      apply Array.ext'
      rw [ByteArray.data_append, Array.toList_append]
      rfl)
    rw [hO] at CD
    rw [← HE.out]
    clear hu hn e1 hl hO hz
    go_enter Tryz.func37, Tryz.ntmps37
    go_wp2_with (go_at_call 72; refine CD.mono ?_; rintro e w1 ⟨rfl, hb1⟩)
    go_ret
    exact ⟨rfl, hb1⟩
  · obtain ⟨u, hu⟩ : ∃ u : Nat, n = (u : Int) := ⟨n.toNat, by omega⟩
    have CD := ref_Digits u (by omega) w
    have d1 : decide (n < 0) = false := decide_eq_false hn
    have e1 : Lib.itoa n = Lib.decDigits u := by rw [hu]; exact Lib.itoa_nonneg u
    have x1 : IntKind.u64.wrap n = n := by rw [IntKind.wrap_u64]; omega
    rw [← hu] at CD
    rw [e1]
    clear hu hn e1
    go_enter Tryz.func37, Tryz.ntmps37
    go_wp2_with (go_at_call 72; refine CD.mono ?_; rintro e w1 ⟨rfl, hb1⟩)
    go_ret
    exact ⟨rfl, hb1⟩
end Go.Proofs.YtljnbbdhmlfhjaaGreatDoor
