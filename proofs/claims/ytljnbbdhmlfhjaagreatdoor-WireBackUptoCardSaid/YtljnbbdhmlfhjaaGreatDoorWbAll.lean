/-
  The document's numerals: Digits, Signed.
-/
import Derived.Test.YtljnbbdhmlfhjaaGreatDoorJfOne
import Derived.Test.YtljnbbdhmlfhjaaGreatDoorWirTri
import Derived.Test.YtljnbbdhmlfhjaaGreatDoorWirK
import Derived.Test.YtljnbbdhmlfhjaaGreatDoorWsA
import Derived.BigQuiet
import Derived.Lib.QuietBelow
import Derived.Test.YtljnbbdhmlfhjaaGreatDoorWqJ
import Derived.Test.YtljnbbdhmlfhjaaGreatDoorWrA
namespace Go.Proofs.YtljnbbdhmlfhjaaGreatDoor
open Go.RowKit
theorem conv_litW (o : UInt8) (z : Int) (hz : z = (o.toNat : Int)) (W : World) (B : Nat) (hB : W.heap.size = B) :
    (convert 22 9 (.slice (some ⟨B, 0, none⟩) 1 1)).run Tryz.prog (W.alloc (.cells #[.int .u8 z] 5)) = .ok (.string ⟨#[o]⟩) (W.alloc (.cells #[.int .u8 z] 5)) := by
  subst hz hB
  exact conv_owned (l := [o]) Tryz.underlying22 Tryz.underlying5 Tryz.underlying9 (owns_new W #[.int .u8 (o.toNat : Int)] 5 1 rfl (by decide))
set_option maxRecDepth 100000 in
set_option maxHeartbeats 20000000 in
theorem ref_Digits (u : Nat) (hu : u < 18446744073709551616) (w : World) :
    Calls Tryz.prog 72 #[.int .u64 (u : Int)] w fun e w' => e = .returned (.string ⟨(Lib.decDigits u).toArray⟩) ∧ Below w.heap.size w w' := by
  obtain ⟨D, hD⟩ : ∃ D, Lib.decDigits u = D := ⟨_, rfl⟩
  have hDl : D.length ≤ 20 := by rw [← hD, Lib.decDigits_length]; exact Lib.nDigits_le20 u hu
  have HD := Lib.hid hD
  rw [hD]
  obtain ⟨z0, hz0⟩ : ∃ z0 : Int, (u : Int) = z0 := ⟨_, rfl⟩
  have hz1 : 0 ≤ z0 ∧ z0 < 18446744073709551616 ∧ z0.toNat = u := by omega
  rw [hz0]
  have HZ := Lib.hid hz1
  clear hD hz0 hu hz1
  go_enter Tryz.func72, Tryz.ntmps72
  go_wp2
  go_loopw [0, 3] (fun nv sv wr => ∃ (z : Int) (S : ByteArray), nv = .int .u64 z ∧ sv = .string S ∧ 0 ≤ z ∧ z < 18446744073709551616 ∧ Lib.decDigits z.toNat ++ S.data.toList = D ∧ Below w.heap.size w wr) (fun nv _ _ => (intOf nv).toNat)
  case atStart => exact ⟨z0, ⟨#[]⟩, rfl, rfl, HZ.out.1, HZ.out.2.1, by rw [HZ.out.2.2, HD.out]; simp, Below.refl _ _⟩
  case round =>
    obtain ⟨z, S, rfl, rfl, h0, h1, hs, hb⟩ := hrel
    have hSl : S.size ≤ 20 := by
      have h := congrArg List.length hs
      rw [List.length_append] at h
      have : S.data.toList.length = S.size := by simp [ByteArray.size_data]
      omega
    have HS := Lib.hid hs
    clear hs
    by_cases hz : 10 ≤ z
    · have d1 : decide ((10 : Int) ≤ z) = true := decide_eq_true hz
      obtain ⟨r, hr⟩ : ∃ r, z.tmod 10 = r := ⟨_, rfl⟩
      obtain ⟨q, hq⟩ : ∃ q, z.tdiv 10 = q := ⟨_, rfl⟩
      have hr0 : 0 ≤ r ∧ r ≤ 9 ∧ r = z % 10 := by rw [← hr, Int.tmod_eq_emod_of_nonneg h0]; omega
      have hq0 : 0 ≤ q ∧ q < z ∧ q = z / 10 := by rw [← hq, Int.tdiv_eq_ediv_of_nonneg h0]; omega
      obtain ⟨rn, rfl⟩ : ∃ rn : Nat, r = rn := ⟨r.toNat, by omega⟩
      have hx1 : IntKind.u64.wrap (48 + (rn : Int)) = 48 + (rn : Int) := by rw [IntKind.wrap_u64]; omega
      have hx2 : IntKind.u8.wrap (48 + (rn : Int)) = 48 + (rn : Int) := by rw [IntKind.wrap_u8]; omega
      have hdg := dec_digit rn (by omega)
      have cv := conv_litW (UInt8.ofNat (48 + rn)) (48 + (rn : Int)) (by rw [hdg]; omega) wr _ rfl
      have hes : (⟨#[UInt8.ofNat (48 + rn)]⟩ : ByteArray).size = 1 := rfl
      obtain ⟨O, hO⟩ : ∃ O : ByteArray, (⟨#[UInt8.ofNat (48 + rn)]⟩ : ByteArray) = O := ⟨_, rfl⟩
      rw [hO] at cv hes
      have HO := Lib.hid hO
      have HQ := Lib.hid (And.intro hq0 hr0)
      have hwq : IntKind.u64.wrap q = q := by rw [IntKind.wrap_u64]; omega
      have hqt : q.toNat < z.toNat := by omega
      have HQT := Lib.hid hqt
      have hbn := belowAJ (o := .cells #[.int .u8 (48 + (rn : Int))] 5) hb hb.size
      have HZ10 := Lib.hid hz
      have H0 := Lib.hid h0
      clear hO hq0 hr0 hqt hdg hz
      go_wp2
      go_roundw
      case rel =>
        refine ⟨q, O ++ S, by first | rfl | simp [hq], rfl, HQ.out.1.1, by have := HQ.out.1.2.1; omega, ?_, hbn⟩
        have h := HS.out
        have e1 : q.toNat = z.toNat / 10 := by have := HQ.out.1.2.2; have := H0.out; omega
        have e2 : rn = z.toNat % 10 := by have := HQ.out.2.2.2; have := H0.out; omega
        have e3 : Lib.decDigits z.toNat = Lib.decDigits (z.toNat / 10) ++ [UInt8.ofNat (48 + z.toNat % 10)] := by
          have hh : ¬ z.toNat < 10 := by have := HZ10.out; omega
          rw [Lib.decDigits, dif_neg hh]
        rw [e3, ← e1, ← e2] at h
        rw [ByteArray.data_append, Array.toList_append, ← h, ← HO.out]
        simp
      case measure => have := HQT.out; simp [intOf]; omega
    · have d1 : decide ((10 : Int) ≤ z) = false := decide_eq_false hz
      obtain ⟨rn, rfl⟩ : ∃ rn : Nat, z = rn := ⟨z.toNat, by omega⟩
      have hx1 : IntKind.u64.wrap (48 + (rn : Int)) = 48 + (rn : Int) := by rw [IntKind.wrap_u64]; omega
      have hx2 : IntKind.u8.wrap (48 + (rn : Int)) = 48 + (rn : Int) := by rw [IntKind.wrap_u8]; omega
      have hdg := dec_digit rn (by omega)
      have cv := conv_litW (UInt8.ofNat (48 + rn)) (48 + (rn : Int)) (by rw [hdg]; omega) wr _ rfl
      have hes : (⟨#[UInt8.ofNat (48 + rn)]⟩ : ByteArray).size = 1 := rfl
      obtain ⟨O, hO⟩ : ∃ O : ByteArray, (⟨#[UInt8.ofNat (48 + rn)]⟩ : ByteArray) = O := ⟨_, rfl⟩
      rw [hO] at cv hes
      have HO := Lib.hid hO
      have hbn := belowAJ (o := .cells #[.int .u8 (48 + (rn : Int))] 5) hb hb.size
      have HRN := Lib.hid (show rn < 10 by omega)
      clear hO hdg hz
      go_wp2
      go_ret
      refine ⟨?_, hbn⟩
      have h := HS.out
      rw [Int.toNat_natCast, Lib.decDigits_one HRN.out] at h
      have hE : O ++ S = ⟨D.toArray⟩ := by
        apply ByteArray.ext
        apply Array.ext'
        rw [ByteArray.data_append, Array.toList_append, ← HO.out, ← h]
      rw [← hE]
      rfl
set_option maxRecDepth 100000 in
set_option maxHeartbeats 20000000 in
theorem ref_Signed (n : Int) (h0 : -9223372036854775808 ≤ n) (h1 : n ≤ 9223372036854775807) (w : World) :
    Calls Tryz.prog 37 #[.int .i64 n] w fun e w' => e = .returned (.string ⟨(Lib.itoa n).toArray⟩) ∧ Below w.heap.size w w' := by
  by_cases hn : n < 0
  · obtain ⟨u, hu⟩ : ∃ u : Nat, n = -(u : Int) := ⟨n.natAbs, by omega⟩
    have hu1 : 1 ≤ u := by omega
    have CD := ref_Digits u (by omega) w
    have d1 : decide (n < 0) = true := decide_eq_true hn
    have e1 : Lib.itoa n = 45 :: Lib.decDigits u := by rw [hu]; exact Lib.itoa_neg u hu1
    have hl : (Lib.decDigits u).length ≤ 20 := by rw [Lib.decDigits_length]; exact Lib.nDigits_le20 u (by omega)
    have x1 : IntKind.i64.wrap (n + 1) = n + 1 := by rw [IntKind.wrap_i64]; omega
    have x2 : IntKind.i64.wrap (-(n + 1)) = -(n + 1) := by rw [IntKind.wrap_i64]; omega
    have x3 : IntKind.u64.wrap (-(n + 1)) = -(n + 1) := by rw [IntKind.wrap_u64]; omega
    have x4 : IntKind.u64.wrap (-(n + 1) + 1) = (u : Int) := by rw [IntKind.wrap_u64]; omega
    obtain ⟨z, hz⟩ : ∃ z : Int, (u : Int) = z := ⟨_, rfl⟩
    rw [hz] at CD x4
    obtain ⟨O, hO⟩ : ∃ O : ByteArray, (⟨(Lib.decDigits u).toArray⟩ : ByteArray) = O := ⟨_, rfl⟩
    have hos : O.size ≤ 20 := by rw [← hO]; exact hl
    have HE := Lib.hid (show (⟨#[45]⟩ ++ O : ByteArray) = ⟨(Lib.itoa n).toArray⟩ by
      rw [← hO, e1]
      apply ByteArray.ext
      apply Array.ext'
      rw [ByteArray.data_append, Array.toList_append]
      rfl)
    rw [hO] at CD
    rw [← HE.out]
    clear hu hn e1 hl hO hz
    go_enter Tryz.func37, Tryz.ntmps37
    go_wp2_with (go_at_call 72; refine CD.mono ?_; rintro e w1 ⟨rfl, hb1⟩)
    go_ret
    exact ⟨rfl, hb1⟩
  · obtain ⟨u, hu⟩ : ∃ u : Nat, n = (u : Int) := ⟨n.toNat, by omega⟩
    have CD := ref_Digits u (by omega) w
    have d1 : decide (n < 0) = false := decide_eq_false hn
    have e1 : Lib.itoa n = Lib.decDigits u := by rw [hu]; exact Lib.itoa_nonneg u
    have x1 : IntKind.u64.wrap n = n := by rw [IntKind.wrap_u64]; omega
    rw [← hu] at CD
    rw [e1]
    clear hu hn e1
    go_enter Tryz.func37, Tryz.ntmps37
    go_wp2_with (go_at_call 72; refine CD.mono ?_; rintro e w1 ⟨rfl, hb1⟩)
    go_ret
    exact ⟨rfl, hb1⟩
end Go.Proofs.YtljnbbdhmlfhjaaGreatDoor
/-
  The document's Body: a push of records.
-/
namespace Go.Proofs.YtljnbbdhmlfhjaaGreatDoor
open Go.RowKit
def lstG (f : Bool) (l : List J) : Bs := if f then formL l else formT l
def memG (f : Bool) (l : List (Bs × J)) : Bs := if f then formM l else formU l
theorem lstG_nil (f : Bool) : lstG f [] = [] := by cases f <;> rfl
theorem memG_nil (f : Bool) : memG f [] = [] := by cases f <;> rfl
theorem lstG_cons (f : Bool) (x : J) (l : List J) : lstG f (x :: l) = (if f then [] else [44]) ++ (formJ x ++ lstG false l) := by cases f <;> rfl
theorem memG_cons (f : Bool) (m : Bs × J) (l : List (Bs × J)) : memG f (m :: l) = (if f then [] else [44]) ++ (formE m ++ memG false l) := by cases f <;> rfl
theorem zcat_size (a b : ByteArray) : (a ++ b).size = a.size + b.size := ByteArray.size_append
theorem zlen_size (a : ByteArray) : a.data.toList.length = a.size := by simp [ByteArray.size_data]
theorem zcat_list (a b : ByteArray) : (a ++ b).data.toList = a.data.toList ++ b.data.toList := by rw [ByteArray.data_append]; simp
theorem zext {a b : ByteArray} (h : a.data.toList = b.data.toList) : a = b := ByteArray.ext (Array.toList_inj.1 h)
theorem pre_cases (k : Nat) : ∃ pre : Bs, (if decide (k = 0) = true then ([] : Bs) else [44]) = pre ∧ ((k = 0 ∧ pre = []) ∨ (0 < k ∧ pre = [44])) := by
  by_cases h : k = 0
  · exact ⟨[], by simp [h], .inl ⟨h, rfl⟩⟩
  · exact ⟨[44], by simp [h], .inr ⟨by omega, rfl⟩⟩
theorem body_text (r : Rec) : formJ (bodyR r) = ([123, 34, 116, 105, 109, 101, 34, 58] : Bs) ++ (Lib.itoa r.time ++ (([44, 34, 108, 97, 98, 101, 108, 115, 34, 58, 123] : Bs) ++ (memG true (r.labs.map memOf) ++ (([125, 44, 34, 108, 105, 110, 101, 34, 58] : Bs) ++ (quote (bsOf r.line) ++ ([125] : Bs)))))) := by
  have e1 : quote kTime = [34, 116, 105, 109, 101, 34] := by decide
  have e2 : quote kLabels = [34, 108, 97, 98, 101, 108, 115, 34] := by decide
  have e3 : quote kLine = [34, 108, 105, 110, 101, 34] := by decide
  simp [bodyR, formJ, formM, formU, formE, e1, e2, e3, memG]
theorem bodyJ_text (l : List Rec) : formJ (bodyJ l) = ([123, 34, 114, 101, 99, 111, 114, 100, 115, 34, 58, 91] : Bs) ++ (lstG true (l.map bodyR) ++ [93, 125]) := by
  have e1 : quote kRecords = [34, 114, 101, 99, 111, 114, 100, 115, 34] := by decide
  simp [bodyJ, underJ, formJ, formM, formU, formE, e1, lstG]
theorem lab_text (x : Lab) (f : Bool) (l : List (Bs × J)) : memG f (memOf x :: l) = (if f then [] else [44]) ++ (quote (bsOf x.1) ++ (([58] : Bs) ++ (quote (bsOf x.2) ++ memG false l))) := by
  rw [memG_cons]
  simp [memOf, formE, formJ]
set_option maxRecDepth 100000 in
set_option maxHeartbeats 40000000 in
theorem ref_Body (sv : Value) (Z : List RecL) (w : World) (hZ : RRow w sv Z) (hin : ∀ z ∈ Z, inRec z.1) (hlen : (formJ (bodyJ (Z.map Prod.fst))).length ≤ 1000000000) :
    Calls Tryz.prog 12 #[sv] w fun e w' => e = .returned (.string ⟨(formJ (bodyJ (Z.map Prod.fst))).toArray⟩) ∧ Below w.heap.size w w' := by
  have hsz : ∀ r ∈ Z.map Prod.fst, (∀ x ∈ r.labs, x.1.size ≤ 1000000000 ∧ x.2.size ≤ 1000000000) ∧ r.labs.length ≤ 1048576 ∧ r.line.size ≤ 1000000000 ∧ -9223372036854775808 ≤ r.time ∧ r.time ≤ 9223372036854775807 := fun r hr => by
    obtain ⟨z, hz, rfl⟩ := List.mem_map.1 hr
    have h1 := (hZ.2 z hz).2
    have h2 := hin z hz
    exact ⟨h1.1, h1.2.1, h1.2.2, h2.1, h2.2.1⟩
  obtain ⟨l, hl⟩ : ∃ l, Z.map Prod.fst = l := ⟨_, rfl⟩
  obtain ⟨a0, c0, rfl, hc1, hc2⟩ := tail_len hZ hl
  unfold maxLen at hc2
  have HREC := Lib.hid (fun (k : Nat) (hk : k < l.length) => rec_at hZ hl hk)
  rw [hl] at hlen hsz ⊢
  have HSZ := Lib.hid hsz
  obtain ⟨R, hR⟩ : ∃ R, formJ (bodyJ l) = R := ⟨_, rfl⟩
  rw [hR] at hlen ⊢
  have HR := Lib.hid hR
  have hll : l.length ≤ 9223372036854775807 := by omega
  clear hZ hin hl hsz hR hc1 hc2
  go_enter Tryz.func12, Tryz.ntmps12
  go_wp2
  go_loopw [3, 4] (fun sv iv wr => ∃ (k : Nat) (s : ByteArray), sv = .string s ∧ iv = .int .i64 k ∧ k ≤ l.length ∧ s.data.toList ++ (lstG (decide (k = 0)) ((l.drop k).map bodyR) ++ [93, 125]) = R ∧ Below w.heap.size w wr) (fun _ iv _ => l.length - (intOf iv).toNat)
  case atStart => exact ⟨0, ⟨#[123, 34, 114, 101, 99, 111, 114, 100, 115, 34, 58, 91]⟩, rfl, rfl, Nat.zero_le _, by rw [← HR.out, bodyJ_text]; rfl, Below.refl _ _⟩
  case round =>
    obtain ⟨k, s, rfl, rfl, hk, hacc, hb⟩ := hrel
    by_cases hlt : k < l.length
    · obtain ⟨ba, oa, la, lc, rfl, hba, q0, q1, q2, q3, hL⟩ := HREC.out k hlt
      have hz := HSZ.out l[k] (List.getElem_mem hlt)
      rw [List.drop_eq_getElem_cons hlt, List.map_cons, lstG_cons, body_text] at hacc
      have HG := Lib.hid (fun W (hW : Below w.heap.size w W) => (⟨by rw [hW.cell (p := ⟨ba, _, none⟩) hba]; exact q0, by rw [hW.cell (p := ⟨ba, _, none⟩) hba]; exact q2, by rw [hW.cell (p := ⟨ba, _, none⟩) hba]; exact q3⟩ : W.cell? ⟨ba, oa + k * 4, none⟩ = some (.int .i64 l[k].time) ∧ W.cell? ⟨ba, oa + k * 4 + 2, none⟩ = some (.slice la l[k].labs.length lc) ∧ W.cell? ⟨ba, oa + k * 4 + 3, none⟩ = some (.string l[k].line)))
      have HT : lstG false ((l.drop (k + 1)).map bodyR) = lstG (decide (k + 1 = 0)) ((l.drop (k + 1)).map bodyR) := rfl
      obtain ⟨T, hTd⟩ : ∃ T, lstG false ((l.drop (k + 1)).map bodyR) = T := ⟨_, rfl⟩
      rw [hTd] at HT hacc
      have HTT := Lib.hid HT
      clear HT hTd q0 q1 q2 q3
      generalize l[k] = r at *
      obtain ⟨rt, rs, L, rl⟩ := r
      simp only at *
      obtain ⟨hzl, hz2, hz3, hz4, hz5⟩ := hz
      obtain ⟨pre, hpre, hcase⟩ := pre_cases k
      rw [hpre] at hacc
      clear hpre
      obtain ⟨D, hD⟩ : ∃ D : ByteArray, (⟨(Lib.itoa rt).toArray⟩ : ByteArray) = D := ⟨_, rfl⟩
      obtain ⟨Q, hQ⟩ : ∃ Q : ByteArray, (⟨(quote (bsOf rl)).toArray⟩ : ByteArray) = Q := ⟨_, rfl⟩
      have hDl : Lib.itoa rt = D.data.toList := by rw [← hD]
      have hQl : quote (bsOf rl) = Q.data.toList := by rw [← hQ]
      rw [hDl, hQl] at hacc
      have hln := congrArg List.length hacc
      simp only [List.length_append, List.length_cons, List.length_nil, zlen_size] at hln
      have i0 : (0 : Int) ≤ (k : Int) := by omega
      have i1 : (k : Int) < (l.length : Int) := by omega
      have CD := Lib.hid (fun W => ref_Signed rt hz4 hz5 W)
      have CQ := Lib.hid (fun W => ref_Quote rl W (by omega))
      rw [show rl.data.toList = bsOf rl from rfl] at CQ
      rw [hD] at CD
      rw [hQ] at CQ
      obtain ⟨s0, hs0, hst⟩ : ∃ s0 : ByteArray, s0.data.toList = s.data.toList ++ (pre ++ (([123, 34, 116, 105, 109, 101, 34, 58] : Bs) ++ (D.data.toList ++ [44, 34, 108, 97, 98, 101, 108, 115, 34, 58, 123]))) ∧ True := ⟨⟨(s.data.toList ++ (pre ++ (([123, 34, 116, 105, 109, 101, 34, 58] : Bs) ++ (D.data.toList ++ [44, 34, 108, 97, 98, 101, 108, 115, 34, 58, 123])))).toArray⟩, rfl, trivial⟩
      have HAC := Lib.hid (show s0.data.toList ++ (memG true (L.map memOf) ++ (([125, 44, 34, 108, 105, 110, 101, 34, 58] : Bs) ++ (Q.data.toList ++ (([125] : Bs) ++ (T ++ [93, 125]))))) = R by rw [hs0, ← hacc]; simp)
      have HS0 := Lib.hid hs0
      have zD : D.size ≤ 1000000000 := by omega
      have zQ : Q.size ≤ 1000000000 := by omega
      have hsl : s.size ≤ 1000000000 := by omega
      have HQS := Lib.hid hz3
      have HZL := Lib.hid hzl
      clear hs0 hacc hln hDl hQl hD hQ hz4 hz5 hz3 hzl hst
      have hL0 := Lib.hid hL
      clear hL
      have y0 : (s ++ (⟨#[44]⟩ : ByteArray)).size ≤ 1000000001 := by rw [zcat_size, show (⟨#[44]⟩ : ByteArray).size = 1 from rfl]; omega
      rcases hcase with ⟨hk0, rfl⟩ | ⟨hk0, rfl⟩
      case' inl =>
        have i2 : ¬ (0 : Int) < (k : Int) := by omega
        have y1 : (s ++ (⟨#[123, 34, 116, 105, 109, 101, 34, 58]⟩ : ByteArray)).size ≤ 1000000008 := by rw [zcat_size, show (⟨#[123, 34, 116, 105, 109, 101, 34, 58]⟩ : ByteArray).size = 8 from rfl]; omega
        have y2 : (s ++ (⟨#[123, 34, 116, 105, 109, 101, 34, 58]⟩ : ByteArray) ++ D).size ≤ 2000000008 := by rw [zcat_size]; omega
        have hs0' : s ++ (⟨#[123, 34, 116, 105, 109, 101, 34, 58]⟩ : ByteArray) ++ D ++ (⟨#[44, 34, 108, 97, 98, 101, 108, 115, 34, 58, 123]⟩ : ByteArray) = s0 := zext (by rw [HS0.out, zcat_list, zcat_list, zcat_list]; simp)
      case' inr =>
        have i2 : (0 : Int) < (k : Int) := by omega
        have y1 : (s ++ (⟨#[44]⟩ : ByteArray) ++ (⟨#[123, 34, 116, 105, 109, 101, 34, 58]⟩ : ByteArray)).size ≤ 1000000009 := by rw [zcat_size, show (⟨#[123, 34, 116, 105, 109, 101, 34, 58]⟩ : ByteArray).size = 8 from rfl]; omega
        have y2 : (s ++ (⟨#[44]⟩ : ByteArray) ++ (⟨#[123, 34, 116, 105, 109, 101, 34, 58]⟩ : ByteArray) ++ D).size ≤ 2000000009 := by rw [zcat_size]; omega
        have hs0' : s ++ (⟨#[44]⟩ : ByteArray) ++ (⟨#[123, 34, 116, 105, 109, 101, 34, 58]⟩ : ByteArray) ++ D ++ (⟨#[44, 34, 108, 97, 98, 101, 108, 115, 34, 58, 123]⟩ : ByteArray) = s0 := zext (by rw [HS0.out, zcat_list, zcat_list, zcat_list, zcat_list]; simp)
      all_goals
        clear hk0
        obtain ⟨g0, g2, g3⟩ := HG.out wr hb
        have CD0 := CD.out wr
        go_upto_region 8 with (go_at_call 37; refine CD0.mono ?_; rintro e w1 ⟨rfl, hb1⟩)
        have hbr1 := below_seq hb hb1
        clear y0 y1 y2 hs0' g0 g2 g3 CD0 CD hb1 hb
        go_wp2
        go_loopw [3, 5] (fun sv iv wr => ∃ (j : Nat) (a : ByteArray), sv = .string a ∧ iv = .int .i64 j ∧ j ≤ L.length ∧ a.data.toList ++ (memG (decide (j = 0)) ((L.drop j).map memOf) ++ (([125, 44, 34, 108, 105, 110, 101, 34, 58] : Bs) ++ (Q.data.toList ++ (([125] : Bs) ++ (T ++ [93, 125]))))) = R ∧ Below w.heap.size w wr) (fun _ iv _ => L.length - (intOf iv).toNat)
        case atStart => exact ⟨0, s0, rfl, rfl, Nat.zero_le _, HAC.out, hbr1⟩
        case round =>
          obtain ⟨j, a, rfl, rfl, hj, hacc, hbr⟩ := hrel
          by_cases hjl : j < L.length
          · obtain ⟨bb, ob, rfl, hbb, p1, p2⟩ := hL0.out.at hjl
            obtain ⟨hx1, hx2⟩ := HZL.out L[j] (List.getElem_mem hjl)
            rw [List.drop_eq_getElem_cons hjl, List.map_cons, lab_text] at hacc
            have HJ := Lib.hid (show memG false ((L.drop (j + 1)).map memOf) = memG (decide (j + 1 = 0)) ((L.drop (j + 1)).map memOf) from rfl)
            obtain ⟨U, hU⟩ : ∃ U, memG false ((L.drop (j + 1)).map memOf) = U := ⟨_, rfl⟩
            rw [hU] at HJ hacc
            clear hU
            generalize L[j] = x at *
            obtain ⟨x1, x2⟩ := x
            simp only at *
            obtain ⟨prj, hprj, hcj⟩ := pre_cases j
            rw [hprj] at hacc
            clear hprj
            obtain ⟨N, hN⟩ : ∃ N : ByteArray, (⟨(quote (bsOf x1)).toArray⟩ : ByteArray) = N := ⟨_, rfl⟩
            obtain ⟨V, hV⟩ : ∃ V : ByteArray, (⟨(quote (bsOf x2)).toArray⟩ : ByteArray) = V := ⟨_, rfl⟩
            have hNl : quote (bsOf x1) = N.data.toList := by rw [← hN]
            have hVl : quote (bsOf x2) = V.data.toList := by rw [← hV]
            rw [hNl, hVl] at hacc
            have hln := congrArg List.length hacc
            simp only [List.length_append, List.length_cons, List.length_nil, zlen_size] at hln
            have j0 : (0 : Int) ≤ (j : Int) := by omega
            have j1 : (j : Int) < (L.length : Int) := by omega
            have C1 := Lib.hid (fun W => ref_Quote x1 W (by omega))
            have C2 := Lib.hid (fun W => ref_Quote x2 W (by omega))
            rw [show x1.data.toList = bsOf x1 from rfl, hN] at C1
            rw [show x2.data.toList = bsOf x2 from rfl, hV] at C2
            have hbb' : bb < w.heap.size := hbb
            have w0 : wr.cell? ⟨ba, oa + k * 4 + 2, none⟩ = some (.slice (some ⟨bb, ob, none⟩) L.length lc) := (HG.out wr hbr).2.1
            have w1 : wr.cell? ⟨bb, ob + j * 2, none⟩ = some (.string x1) := by rw [hbr.cell (p := ⟨bb, _, none⟩) hbb']; exact p1
            have w2 : wr.cell? ⟨bb, ob + j * 2 + 1, none⟩ = some (.string x2) := by rw [hbr.cell (p := ⟨bb, _, none⟩) hbb']; exact p2
            have g0 := cell_regrown w0
            have g1 := cell_regrown w1
            have g2 := cell_regrown w2
            have d1 : ∀ d os, Calls Tryz.prog 38 #[.string x1] (Sort.grow (redrawn wr d) os) fun e w'' => e = .returned (.string N) ∧ ∃ p : Regrown, w'' = Sort.grow (redrawn wr p.d) p.os := fun d os => Calls.regrown_of (C1.out _)
            have d2 : ∀ d os, Calls Tryz.prog 38 #[.string x2] (Sort.grow (redrawn wr d) os) fun e w'' => e = .returned (.string V) ∧ ∃ p : Regrown, w'' = Sort.grow (redrawn wr p.d) p.os := fun d os => Calls.regrown_of (C2.out _)
            have zN : N.size ≤ 1000000000 := by omega
            have zV : V.size ≤ 1000000000 := by omega
            have za : a.size ≤ 1000000000 := by omega
            have y0 : (a ++ (⟨#[44]⟩ : ByteArray)).size ≤ 1000000001 := by rw [zcat_size, show (⟨#[44]⟩ : ByteArray).size = 1 from rfl]; omega
            have HACC := Lib.hid hacc
            have HBR := Lib.hid hbr
            clear hN hV hNl hVl hacc hln C1 C2 p1 p2 hbb' hx1 hx2 hbr w1 w2
            rcases hcj with ⟨hj0, rfl⟩ | ⟨hj0, rfl⟩
            case' inl =>
              have i3 : ¬ (0 : Int) < (j : Int) := by omega
              have y1 : (a ++ N).size ≤ 2000000000 := by rw [zcat_size]; omega
              have y2 : (a ++ N ++ (⟨#[58]⟩ : ByteArray)).size ≤ 2000000001 := by rw [zcat_size, show (⟨#[58]⟩ : ByteArray).size = 1 from rfl]; omega
              obtain ⟨a1, ha1⟩ : ∃ a1, a ++ N ++ (⟨#[58]⟩ : ByteArray) ++ V = a1 := ⟨_, rfl⟩
              have HA1 := Lib.hid (show a1.data.toList ++ (U ++ (([125, 44, 34, 108, 105, 110, 101, 34, 58] : Bs) ++ (Q.data.toList ++ (([125] : Bs) ++ (T ++ [93, 125]))))) = R by
                rw [← HACC.out, ← ha1, zcat_list, zcat_list, zcat_list]
                simp)
            case' inr =>
              have i3 : (0 : Int) < (j : Int) := by omega
              have y1 : (a ++ (⟨#[44]⟩ : ByteArray) ++ N).size ≤ 2000000001 := by rw [zcat_size]; omega
              have y2 : (a ++ (⟨#[44]⟩ : ByteArray) ++ N ++ (⟨#[58]⟩ : ByteArray)).size ≤ 2000000002 := by rw [zcat_size, show (⟨#[58]⟩ : ByteArray).size = 1 from rfl]; omega
              obtain ⟨a1, ha1⟩ : ∃ a1, a ++ (⟨#[44]⟩ : ByteArray) ++ N ++ (⟨#[58]⟩ : ByteArray) ++ V = a1 := ⟨_, rfl⟩
              have HA1 := Lib.hid (show a1.data.toList ++ (U ++ (([125, 44, 34, 108, 105, 110, 101, 34, 58] : Bs) ++ (Q.data.toList ++ (([125] : Bs) ++ (T ++ [93, 125]))))) = R by
                rw [← HACC.out, ← ha1, zcat_list, zcat_list, zcat_list, zcat_list]
                simp)
            all_goals
              clear hj0 HACC
              go_upto_region 13 with fail
              clear w0
              refine wp_region_quiet_below (by kernel_rfl) (by kernel_rfl) ?_
              repeat (go_big_quiet_step (first | with_reducible exact d1 _ _ | with_reducible exact d2 _ _))
              refine wpQuiet_nil ?_
              intro _ hw'
              obtain ⟨⟨dq, osq⟩, hw''⟩ := hw'
              subst hw''
              have hbq := below_seq HBR.out (below_regrown wr dq osq)
              clear g0 g1 g2 d1 d2 y0 y1 y2
              go_wp2
              go_roundw
              case rel => exact ⟨j + 1, a1, by simp [ha1], by go_num, by omega, by rw [← HJ.out]; exact HA1.out, hbq⟩
              case measure => simp [intOf]; omega
          · have hje : j = L.length := by omega
            rw [hje, List.drop_length, List.map_nil, memG_nil, List.nil_append] at hacc
            have j1 : ¬ (j : Int) < (L.length : Int) := by omega
            have hln := congrArg List.length hacc
            simp only [List.length_append, List.length_cons, List.length_nil, zlen_size] at hln
            have y0 : a.size ≤ 1000000000 := by omega
            have y1 : (a ++ (⟨#[125, 44, 34, 108, 105, 110, 101, 34, 58]⟩ : ByteArray)).size ≤ 1000000009 := by rw [zcat_size, show (⟨#[125, 44, 34, 108, 105, 110, 101, 34, 58]⟩ : ByteArray).size = 9 from rfl]; omega
            have y2 : (a ++ (⟨#[125, 44, 34, 108, 105, 110, 101, 34, 58]⟩ : ByteArray) ++ Q).size ≤ 2000000009 := by rw [zcat_size]; omega
            obtain ⟨a1, ha1⟩ : ∃ a1, a ++ (⟨#[125, 44, 34, 108, 105, 110, 101, 34, 58]⟩ : ByteArray) ++ Q ++ (⟨#[125]⟩ : ByteArray) = a1 := ⟨_, rfl⟩
            have HA1 := Lib.hid (show a1.data.toList ++ (T ++ [93, 125]) = R by
              rw [← hacc, ← ha1, zcat_list, zcat_list, zcat_list]
              simp)
            obtain ⟨g0, g2, g3⟩ := HG.out wr hbr
            have CQ0 := CQ.out wr
            have HBR := Lib.hid hbr
            clear hacc hln hje hbr
            go_wp2_with (go_at_call 38; refine CQ0.mono ?_; rintro e w1 ⟨rfl, hb1⟩)
            go_roundw
            case rel => exact ⟨k + 1, a1, by simp [ha1], by go_num, by omega, by rw [← HTT.out]; exact HA1.out, below_seq HBR.out hb1⟩
            case measure => simp [intOf]; omega
    · have i1 : ¬ (k : Int) < (l.length : Int) := by omega
      have hke : k = l.length := by omega
      rw [hke, List.drop_length, List.map_nil, lstG_nil, List.nil_append] at hacc
      have hln := congrArg List.length hacc
      simp only [List.length_append, List.length_cons, List.length_nil, zlen_size] at hln
      have y0 : s.size ≤ 1000000000 := by omega
      have hE : s ++ (⟨#[93, 125]⟩ : ByteArray) = ⟨R.toArray⟩ := zext (by rw [zcat_list, ← hacc])
      have HE := Lib.hid hE
      clear hacc hln hke hE
      go_wp2
      go_ret
      exact ⟨by rw [← HE.out]; rfl, hb⟩
end Go.Proofs.YtljnbbdhmlfhjaaGreatDoor
/-
  The law WireBack: canonical, its walk.
-/
namespace Go.Proofs.YtljnbbdhmlfhjaaGreatDoor
open Go.RowKit
def canB (l : List Rec) : Bool := l.all fun r => decide (chkRec r = 0)
set_option maxRecDepth 100000 in
set_option maxHeartbeats 20000000 in
theorem law_canonical (sv : Value) (Z : List RecL) (w : World) (hZ : RRow w sv Z) :
    Calls Tryz.prog 13 #[sv] w fun e w' => e = .returned (.bool (canB (Z.map Prod.fst))) ∧ Below w.heap.size w w' := by
  obtain ⟨l, hl⟩ : ∃ l, Z.map Prod.fst = l := ⟨_, rfl⟩
  obtain ⟨a0, c0, rfl, hc1, hc2⟩ := tail_len hZ hl
  unfold maxLen at hc2
  have HREC := Lib.hid (fun (k : Nat) (hk : k < l.length) => rec_at hZ hl hk)
  have HCH := Lib.hid (fun (W : World) (hW : Below w.heap.size w W) (r : Rec) (lv : Value) (h : RecAt W lv r) => rrec_Check r lv W h)
  have HSZ := Lib.hid (fun (k : Nat) (hk : k < l.length) => (show (∀ x ∈ l[k].labs, x.1.size ≤ 1000000000 ∧ x.2.size ≤ 1000000000) ∧ l[k].labs.length ≤ 1048576 ∧ l[k].line.size ≤ 1000000000 from by
    have hm : l[k] ∈ Z.map Prod.fst := by rw [hl]; exact List.getElem_mem hk
    obtain ⟨z, hz, hzz⟩ := List.mem_map.1 hm
    rw [← hzz]
    exact (hZ.2 z hz).2))
  rw [hl]
  obtain ⟨C, hC⟩ : ∃ C, canB l = C := ⟨_, rfl⟩
  rw [hC]
  have HC := Lib.hid (show (l.drop 0).all (fun r => decide (chkRec r = 0)) = C from hC)
  have hll : l.length ≤ 9223372036854775807 := by omega
  clear hZ hl hC hc1 hc2
  go_enter Tryz.func13, Tryz.ntmps13
  go_wp2
  go_loopw [3] (fun iv wr => ∃ k : Nat, iv = .int .i64 k ∧ k ≤ l.length ∧ (l.drop k).all (fun r => decide (chkRec r = 0)) = C ∧ Below w.heap.size w wr) (fun iv _ => l.length - (intOf iv).toNat)
  case atStart => exact ⟨0, rfl, Nat.zero_le _, HC.out, Below.refl _ _⟩
  case round =>
    obtain ⟨k, rfl, hk, hacc, hb⟩ := hrel
    by_cases hlt : k < l.length
    · obtain ⟨ba, oa, la, lc, rfl, hba, q0, q1, q2, q3, hL⟩ := HREC.out k hlt
      have g0 : wr.cell? ⟨ba, oa + k * 4, none⟩ = some (.int .i64 l[k].time) := by rw [hb.cell (p := ⟨ba, _, none⟩) hba]; exact q0
      have g1 : wr.cell? ⟨ba, oa + k * 4 + 1, none⟩ = some (.int .u64 (l[k].seq : Int)) := by rw [hb.cell (p := ⟨ba, _, none⟩) hba]; exact q1
      have g2 : wr.cell? ⟨ba, oa + k * 4 + 2, none⟩ = some (.slice la l[k].labs.length lc) := by rw [hb.cell (p := ⟨ba, _, none⟩) hba]; exact q2
      have g3 : wr.cell? ⟨ba, oa + k * 4 + 3, none⟩ = some (.string l[k].line) := by rw [hb.cell (p := ⟨ba, _, none⟩) hba]; exact q3
      have CH := HCH.out wr hb l[k] _ ⟨hL.below hb, HSZ.out k hlt⟩
      rw [List.drop_eq_getElem_cons hlt, List.all_cons] at hacc
      have i0 : (0 : Int) ≤ (k : Int) := by omega
      have i1 : (k : Int) < (l.length : Int) := by omega
      clear q0 q1 q2 q3 hL
      generalize l[k] = r at *
      obtain ⟨rt, rs, L, rl⟩ := r
      simp only at *
      unfold recV at CH
      simp only at CH
      by_cases hz : chkRec ⟨rt, rs, L, rl⟩ = 0
      · rw [hz] at CH
        rw [hz, decide_eq_true rfl, Bool.true_and] at hacc
        have HACC := Lib.hid hacc
        clear hacc hz
        go_wp2_with (go_at_call 35; refine CH.mono ?_; rintro e w1 ⟨rfl, hb1⟩)
        go_roundw
        case rel => exact ⟨k + 1, by go_num, by omega, HACC.out, below_seq hb hb1⟩
        case measure => simp [intOf]; omega
      · rw [decide_eq_false hz, Bool.false_and] at hacc
        subst hacc
        obtain ⟨E, hE⟩ : ∃ E, chkRec ⟨rt, rs, L, rl⟩ = E := ⟨_, rfl⟩
        rw [hE] at CH hz
        have hn : (E != 0) = true := by rw [bne_iff_ne]; exact hz
        clear hz hE HC
        go_wp2_with (go_at_call 35; refine CH.mono ?_; rintro e w1 ⟨rfl, hb1⟩)
        go_ret
        exact ⟨rfl, below_seq hb hb1⟩
    · have hke : k = l.length := by omega
      have i1 : ¬ (k : Int) < (l.length : Int) := by omega
      rw [hke, List.drop_length] at hacc
      obtain rfl : C = true := hacc.symm
      clear hke HC
      go_wp2
      go_ret
      exact ⟨rfl, hb⟩
end Go.Proofs.YtljnbbdhmlfhjaaGreatDoor
/-
  The law WireBack: its walk.
-/
namespace Go.Proofs.YtljnbbdhmlfhjaaGreatDoor
open Go.RowKit
def noL (z : RecL) : RecL := (noSeq z.1, z.2)
theorem push_none {b : Bs} (h : ¬ (pushP b).1 = 0) : (pushP b).2 = [] := by
  unfold pushP at h ⊢
  split
  · rfl
  · rename_i h1
    rw [if_neg h1] at h
    unfold pushJ at h ⊢
    split
    · rfl
    · rename_i l hl
      rw [hl] at h
      replace h : ¬ (pushL l).1 = 0 := h
      show (pushL l).2 = []
      unfold pushL at h ⊢
      split
      · rfl
      · rename_i h2
        rw [if_neg h2] at h
        split
        · rfl
        · rename_i h3
          rw [if_neg h3] at h
          exact absurd rfl h
set_option maxRecDepth 100000 in
set_option maxHeartbeats 40000000 in
theorem back_bad (sv : Value) (Z : List RecL) (w : World) (hT : T23 w) (hZ : RRow w sv Z) (hin : ∀ z ∈ Z, inRec z.1) (hlen : (formJ (bodyJ (Z.map Prod.fst))).length ≤ 1000000000) (hE : ¬ (pushP (formJ (bodyJ (Z.map Prod.fst)))).1 = 0) :
    Calls Tryz.prog 4 #[sv] w fun e w' => e = .returned (.bool true) ∧ Below w.heap.size w w' := by
  have CA := law23_awake w hT
  have CB := Lib.hid (fun (W : World) (hW : Below w.heap.size w W) => ref_Body sv Z W (hZ.below hW) hin hlen)
  have hno := push_none hE
  obtain ⟨b, hb⟩ : ∃ b, formJ (bodyJ (Z.map Prod.fst)) = b := ⟨_, rfl⟩
  rw [hb] at hE hno CB hlen
  obtain ⟨E, hEE⟩ : ∃ E, (pushP b).1 = E := ⟨_, rfl⟩
  obtain ⟨B, hB⟩ : ∃ B : ByteArray, (⟨b.toArray⟩ : ByteArray) = B := ⟨_, rfl⟩
  rw [hB] at CB
  have hBd : B.data.toList = b := by rw [← hB]
  have hBs : B.size = b.length := by rw [← hBd, zlen_size]
  have CV := Lib.hid (fun (W : World) => conv_bytesJ (src := 9) Tryz.underlying9 B (by omega) W)
  rw [hBd] at CV
  have CP := Lib.hid (show ∀ (W : World) (v : Value), Below w.heap.size w W → argRow W v b.length 1 (b.map bCell) → Calls Tryz.prog 9 #[v] W fun e w' => ∃ a c, e = .returned (.tuple #[.slice a 0 c, .int .i64 E]) ∧ Below W.heap.size W w' from fun W v hW hv => by
    refine (wire_Push v b W (hT.to hW) hv).mono ?_
    rintro e w' ⟨u, Z', h1, h2, h3, h4⟩
    rw [hEE] at h1
    rw [hno] at h3
    obtain ⟨a, c, rfl, -, -⟩ := tail_len h2 h3
    exact ⟨a, c, h1, h4⟩)
  have CR := Lib.hid (show ∀ (W : World) (v : Value), Below w.heap.size w W → argRow W v b.length 1 (b.map bCell) → Calls Tryz.prog 10 #[v] W fun e w' => ∃ a c, e = .returned (.tuple #[.slice a 0 c, .int .i64 E]) ∧ Below W.heap.size W w' from fun W v hW hv => by
    refine (ref_Push v b W hv).mono ?_
    rintro e w' ⟨u, Z', h1, h2, h3, h4⟩
    rw [hEE] at h1
    rw [hno] at h3
    obtain ⟨a, c, rfl, -, -⟩ := tail_len h2 h3
    exact ⟨a, c, h1, h4⟩)
  rw [hEE] at hE
  have hne : (E != 0) = true := by rw [bne_iff_ne]; exact hE
  have hee : (E == E) = true := by simp
  clear hT hZ hin hlen hno hb hEE hB hBd hBs hE
  go_enter Tryz.func4, Tryz.ntmps4
  go_upto_region 3 with (go_at_call 8; refine CA.mono ?_; rintro e w1 ⟨rfl, hb1⟩)
  have CB1 := CB.out w1 hb1
  go_upto_region 4 with (go_at_call 12; refine CB1.mono ?_; rintro e w2 ⟨rfl, hb2⟩)
  have h2 := hb1.trans (hb2.mono hb1.size)
  obtain ⟨a3, c3, w3, hcv, hr3, hb3⟩ := CV.out w2
  have h3 := h2.trans (hb3.mono h2.size)
  have CP3 := CP.out w3 _ h3 hr3
  clear CA CB CB1 CP hr3
  go_upto_region 5 with (go_at_call 9; refine CP3.mono ?_; rintro e w4 ⟨a4, c4, rfl, hb4⟩)
  have h4 := h3.trans (hb4.mono h3.size)
  clear CP3 hcv
  obtain ⟨a5, c5, w5, hcv, hr5, hb5⟩ := CV.out w4
  have h5 := h4.trans (hb5.mono h4.size)
  have CR5 := CR.out w5 _ h5 hr5
  clear CR hr5 CV
  go_wp2_with (go_at_call 10; refine CR5.mono ?_; rintro e w6 ⟨a6, c6, rfl, hb6⟩)
  go_ret
  exact ⟨rfl, h5.trans (hb6.mono h5.size)⟩
end Go.Proofs.YtljnbbdhmlfhjaaGreatDoor
/-
  The law WireBack: its walk, where the push is read.
-/
namespace Go.Proofs.YtljnbbdhmlfhjaaGreatDoor
open Go.RowKit
set_option maxRecDepth 100000 in
set_option maxHeartbeats 40000000 in
theorem back_good (sv : Value) (Z : List RecL) (w : World) (hT : T23 w) (hZ : RRow w sv Z) (hin : ∀ z ∈ Z, inRec z.1) (hlen : (formJ (bodyJ (Z.map Prod.fst))).length ≤ 1000000000) (hE : (pushP (formJ (bodyJ (Z.map Prod.fst)))).1 = 0) :
    Calls Tryz.prog 4 #[sv] w fun e w' => e = .returned (.bool true) ∧ Below w.heap.size w w' := by
  have CA := law23_awake w hT
  have CB := Lib.hid (fun (W : World) (hW : Below w.heap.size w W) => ref_Body sv Z W (hZ.below hW) hin hlen)
  have CC := Lib.hid (fun (W : World) (hW : Below w.heap.size w W) => law_canonical sv Z W (hZ.below hW))
  have hbnd : ∀ r ∈ Z.map Prod.fst, -9223372036854775808 ≤ r.time ∧ r.time ≤ 9223372036854775807 := fun r hr => by
    obtain ⟨z, hz, rfl⟩ := List.mem_map.1 hr
    exact ⟨(hin z hz).1, (hin z hz).2.1⟩
  have hpe : parseE (formJ (bodyJ (Z.map Prod.fst))) = 0 := by
    unfold pushP at hE
    split at hE
    · rename_i h
      exact absurd hE h
    · rename_i h
      exact Decidable.not_not.1 h
  have hpb := body_push _ hbnd hpe
  obtain ⟨l, hl⟩ : ∃ l, Z.map Prod.fst = l := ⟨_, rfl⟩
  rw [hl] at hpb hE hlen CB CC hpe
  have hp0 : (pushL (l.map noSeq)).1 = 0 := by rw [← hpb]; exact hE
  have hpl := push_len (l.map noSeq) hp0
  rw [List.length_map] at hpl
  have hsame : canB l = true → (pushL (l.map noSeq)).2 = l.map noSeq := fun h => push_same (fun r hr => of_decide_eq_true (List.all_eq_true.1 h r hr)) hp0
  have hfew : l.length ≤ 64 := by
    unfold pushL at hp0
    split at hp0
    · cases hp0
    · rename_i h
      rw [List.length_map] at h
      omega
  obtain ⟨M, hM⟩ : ∃ M, (pushL (l.map noSeq)).2 = M := ⟨_, rfl⟩
  rw [hM] at hpl hsame
  obtain ⟨b, hb⟩ : ∃ b, formJ (bodyJ l) = b := ⟨_, rfl⟩
  rw [hb] at hpb hE CB hlen
  obtain ⟨B, hB⟩ : ∃ B : ByteArray, (⟨b.toArray⟩ : ByteArray) = B := ⟨_, rfl⟩
  rw [hB] at CB
  have hBd : B.data.toList = b := by rw [← hB]
  have hBs : B.size = b.length := by rw [← hBd, zlen_size]
  have CV := Lib.hid (fun (W : World) => conv_bytesJ (src := 9) Tryz.underlying9 B (by omega) W)
  rw [hBd] at CV
  obtain ⟨n, hn⟩ : ∃ n, l.length = n := ⟨_, rfl⟩
  rw [hn] at hpl hfew
  have CP := Lib.hid (show ∀ (W : World) (v : Value), Below w.heap.size w W → argRow W v b.length 1 (b.map bCell) → Calls Tryz.prog 9 #[v] W fun e w' => ∃ a c Z', e = .returned (.tuple #[.slice a n c, .int .i64 0]) ∧ RRow w' (.slice a n c) Z' ∧ Z'.map Prod.fst = M ∧ Below W.heap.size W w' from fun W v hW hv => by
    refine (wire_Push v b W (hT.to hW) hv).mono ?_
    rintro e w' ⟨u, Z', h1, h2, h3, h4⟩
    rw [hE] at h1
    rw [hpb, hM] at h3
    obtain ⟨a, c, rfl, -, -⟩ := tail_len h2 h3
    rw [hpl] at h1 h2
    exact ⟨a, c, Z', h1, h2, h3, h4⟩)
  obtain ⟨sa, sc, rfl, hc1, hc2⟩ := tail_len hZ hl
  rw [hn] at hc1 hZ CB CC ⊢
  have hZn : Z.length = n := by rw [← hn, ← hl, List.length_map]
  have HREC := Lib.hid (fun (k : Nat) (hk : k < Z.length) => (show ∃ bb off, sa = some ⟨bb, off, none⟩ ∧ bb < w.heap.size ∧ w.cell? ⟨bb, off + k * 4, none⟩ = some (.int .i64 Z[k].1.time) ∧ w.cell? ⟨bb, off + k * 4 + 1, none⟩ = some (.int .u64 (Z[k].1.seq : Int)) ∧ w.cell? ⟨bb, off + k * 4 + 2, none⟩ = some Z[k].2 ∧ w.cell? ⟨bb, off + k * 4 + 3, none⟩ = some (.string Z[k].1.line) from hZ.at hk))
  have HLS := Lib.hid (fun (k : Nat) (hk : k < Z.length) => (show ∃ la ln lc, Z[k].2 = .slice la ln lc from by
    obtain ⟨la, lc, e, -⟩ := (hZ.2 _ (List.getElem_mem hk)).1.shape
    exact ⟨la, _, lc, e⟩))
  have HAT := Lib.hid (fun (W : World) (hW : Below w.heap.size w W) (z : RecL) (hz : z ∈ Z) => (hZ.2 z hz).below hW)
  have HN := Lib.hid (And.intro hl (And.intro hn hZn))
  have HS := Lib.hid hsame
  have HPL := Lib.hid hpl
  clear hT hZ hin hlen hbnd hpe hpb hp0 hsame hM hb hB hBd hBs hE hpl hl hn hZn hc1 hc2
  go_enter Tryz.func4, Tryz.ntmps4
  go_upto_region 3 with (go_at_call 8; refine CA.mono ?_; rintro e w1 ⟨rfl, hb1⟩)
  have CB1 := CB.out w1 hb1
  go_upto_region 4 with (go_at_call 12; refine CB1.mono ?_; rintro e w2 ⟨rfl, hb2⟩)
  have h2 := hb1.trans (hb2.mono hb1.size)
  obtain ⟨a3, c3, w3, hcv, hr3, hb3⟩ := CV.out w2
  have h3 := h2.trans (hb3.mono h2.size)
  have CP3 := CP.out w3 _ h3 hr3
  clear CA CB CB1 CP hr3 CV
  go_upto_region 5 with (go_at_call 9; refine CP3.mono ?_; rintro e w4 ⟨a4, c4, Z4, rfl, hr4, hZ4, hb4⟩; have HR4 := Lib.hid (And.intro hr4 hZ4); clear hr4 hZ4)
  have h4 := h3.trans (hb4.mono h3.size)
  have H4 := Lib.hid h4
  clear CP3 hcv hb1 hb2 hb3 hb4 h2 h3 h4
  go_wp2
  go_loopw [8, 9] (fun ov iv wr => ∃ k : Nat, iv = .int .i64 k ∧ k ≤ n ∧ wr.ownsRow w4.heap.size 34 4 ov k (recsCells ((Z.take k).map noL)) ∧ Below w4.heap.size w4 wr) (fun _ iv _ => n - (intOf iv).toNat)
  case atStart => exact ⟨0, rfl, Nat.zero_le _, by simpa [recsCells] using World.ownsRow_nil _ _ _ _, Below.refl _ _⟩
  case round =>
    obtain ⟨k, rfl, hk, hown, hb⟩ := hrel
    have hbb := H4.out.trans (hb.mono H4.out.size)
    obtain ⟨va, vc, rfl⟩ := owns_slice hown
    by_cases hlt : k < n
    · have hkz : k < Z.length := by rw [HN.out.2.2]; exact hlt
      obtain ⟨ba, oa, rfl, hba, q0, q1, q2, q3⟩ := HREC.out k hkz
      obtain ⟨la, ln, lc, hlv⟩ := HLS.out k hkz
      rw [hlv] at q2
      have g0 : wr.cell? ⟨ba, oa + k * 4, none⟩ = some (.int .i64 Z[k].1.time) := by rw [hbb.cell (p := ⟨ba, _, none⟩) hba]; exact q0
      have g1 : wr.cell? ⟨ba, oa + k * 4 + 1, none⟩ = some (.int .u64 (Z[k].1.seq : Int)) := by rw [hbb.cell (p := ⟨ba, _, none⟩) hba]; exact q1
      have g2 : wr.cell? ⟨ba, oa + k * 4 + 2, none⟩ = some (.slice la ln lc) := by rw [hbb.cell (p := ⟨ba, _, none⟩) hba]; exact q2
      have g3 : wr.cell? ⟨ba, oa + k * 4 + 3, none⟩ = some (.string Z[k].1.line) := by rw [hbb.cell (p := ⟨ba, _, none⟩) hba]; exact q3
      have htake : (Z.take (k + 1)).map noL = (Z.take k).map noL ++ [noL Z[k]] := by rw [List.take_succ_eq_append_getElem hkz, List.map_append]; rfl
      have hnl : noL Z[k] = (⟨Z[k].1.time, 0, Z[k].1.labs, Z[k].1.line⟩, .slice la ln lc) := by unfold noL noSeq; rw [hlv]
      rw [hnl] at htake
      have HTK := Lib.hid htake
      have i0 : (0 : Int) ≤ (k : Int) := by omega
      have i1 : (k : Int) < (n : Int) := by omega
      clear q0 q1 q2 q3 htake hnl hlv
      generalize Z[k].1 = r at *
      obtain ⟨rt, rs, L, rl⟩ := r
      simp only at *
      have HB := Lib.hid hb
      have HOWN := Lib.hid hown
      clear hb hown
      go_upto_region 13 with fail
      have hp := heap_alloc_new wr (.cells #[.int .i64 rt, .int .u64 (rs : Int), .slice la ln lc, .string rl] 34)
      have hb5 := belowAJ (o := .cells #[.int .i64 rt, .int .u64 (rs : Int), .slice la ln lc, .string rl] 34) HB.out HB.out.size
      have hown5 := HOWN.out.alloc (.cells #[.int .i64 rt, .int .u64 (rs : Int), .slice la ln lc, .string rl] 34)
      have hs5 : (wr.alloc (.cells #[.int .i64 rt, .int .u64 (rs : Int), .slice la ln lc, .string rl] 34)).heap.size = wr.heap.size + 1 := by simp
      have hvlt : ∀ j, (Value.slice va k vc).ownBlock = some j → j < wr.heap.size := fun j hj => (HOWN.out.lt j hj).2
      obtain ⟨c0, c1, c2, c3, f0, f1, -, -⟩ := cells4 hp
      clear g0 g1 g2 g3
      obtain ⟨p, hpp⟩ : ∃ p, wr.heap.size = p := ⟨_, rfl⟩
      have hpge : w4.heap.size ≤ p := by rw [← hpp]; exact HB.out.size
      rw [hpp] at hp c0 c1 c2 c3 f0 f1 hs5 hvlt ⊢
      generalize wr.alloc (.cells #[.int .i64 rt, .int .u64 (rs : Int), .slice la ln lc, .string rl] 34) = w5 at *
      clear hpp
      go_upto_region 14 with fail
      have hp6 := heap_setCell_same w5 p 1 _ _ (.int .u64 0) hp
      have hg6 := grown_set w5 p 1 (.int .u64 0)
      have hown6 := hown5.kept hg6 (by
        cases hv : (Value.slice va k vc).ownBlock with
        | none => exact .inl rfl
        | some j => exact .inr fun e => by cases e; exact absurd (hvlt _ hv) (Nat.lt_irrefl _))
      have hb6 := hb5.grown hg6 (by omega) (fun j hj => by cases hj; exact hpge)
      replace hp6 : (w5.setCell ⟨p, 1, none⟩ (.int .u64 0)).heap[p]? = some (.cells #[.int .i64 rt, .int .u64 0, .slice la ln lc, .string rl] 34 (0, 0)) := hp6
      clear c0 c1 c2 c3 f0 f1 hp hs5 hb5 hown5 hg6 hvlt
      obtain ⟨c0, c1, c2, c3, -, -, -, -⟩ := cells4 hp6
      generalize w5.setCell ⟨p, 1, none⟩ (.int .u64 0) = w6 at *
      have HB6 := Lib.hid hb6
      have hsz6 := hb6.size
      clear hp6 hb6
      have hown6x := hown6
      have H6 := Lib.hid hown6x
      clear hown6x
      go_wp2_with (at_builtin; go_loud (refine wpList_append_src rfl _ _ _ _ rfl w4.heap.size ER _ k (recsCells ((Z.take k).map noL)) rfl (hown6.alloc _) _ 1 (recCells (⟨rt, 0, L, rl⟩, .slice la ln lc)) rfl (by exact src_last (cs := (recCells (⟨rt, 0, L, rl⟩, .slice la ln lc)).toArray) Tryz.underlying24 1 1 4 rfl rfl (by simp [recCells, Value.oneCell'])) (by unfold maxLen; omega) (by omega) (by simp; omega) ?_); intro v9 w9 hown9 hgr9 _ _; have H9 := Lib.hid (And.intro hown9 hgr9); clear hown9 hgr9)
      go_roundw
      case rel =>
        have hba := belowAJ (o := .cells (recCells (⟨rt, 0, L, rl⟩, .slice la ln lc)).toArray 34) (Below.refl w6.heap.size w6) (Nat.le_refl _)
        refine ⟨k + 1, by go_num, by omega, ?_, ?_⟩
        · rw [HTK.out, recsCells_append]
          have h9 := H9.out.1
          simpa [recsCells] using h9
        · exact (HB6.out.trans (hba.mono HB6.out.size)).grown H9.out.2 (by have := hba.size; omega) (fun j hj => (H6.out.lt j hj).1)
      case measure => simp [intOf]; omega
    · have hke : k = n := by omega
      have i1 : ¬ (k : Int) < (n : Int) := by omega
      subst hke
      rw [List.take_of_length_le (by rw [HN.out.2.2]; exact Nat.le_refl _)] at hown
      have hR9 : RRow wr (.slice va k vc) (Z.map noL) := ⟨by
        rw [List.length_map, HN.out.2.2]
        exact argRow_owns hown, fun z hz => by
        obtain ⟨y, hy, rfl⟩ := List.mem_map.1 hz
        have h := HAT.out wr hbb y hy
        exact ⟨h.1, h.2⟩⟩
      have hM9 : (Z.map noL).map Prod.fst = l.map noSeq := by
        rw [← HN.out.1, List.map_map, List.map_map]
        rfl
      have CS := rrec_SameAll _ _ Z4 (Z.map noL) wr (HR4.out.1.below hb) hR9 (by rw [← List.length_map (f := Prod.fst), HR4.out.2, HPL.out]; omega)
      rw [HR4.out.2, hM9] at CS
      have hkk : ((k : Int) == (k : Int)) = true := by simp
      have HBB := Lib.hid hbb
      clear hown hR9 hM9 HR4 HAT HREC HLS
      by_cases hm : M = l.map noSeq
      · rw [decide_eq_true hm] at CS
        clear hm hbb HS CC
        go_wp2_with (go_at_call 11; refine CS.mono ?_; rintro e w5 ⟨rfl, hb5⟩)
        go_ret
        exact ⟨rfl, HBB.out.trans (hb5.mono HBB.out.size)⟩
      · rw [decide_eq_false hm] at CS
        have hcan : canB l = false := by
          cases h : canB l with
          | false => rfl
          | true => exact absurd (HS.out h) hm
        rw [hcan] at CC
        clear hm hbb HS hcan
        go_wp2_with (first
          | (go_at_call 11; refine CS.mono ?_; rintro e w5 ⟨rfl, hb5⟩; have h5 := HBB.out.trans (hb5.mono HBB.out.size); have CC5 := CC.out w5 h5; clear CS)
          | (go_at_call 13; refine CC5.mono ?_; rintro e w6 ⟨rfl, hb6⟩))
        go_ret
        exact ⟨rfl, h5.trans (hb6.mono h5.size)⟩
theorem back_walk23 (sv : Value) (Z : List RecL) (w : World) (hT : T23 w) (hZ : RRow w sv Z) (hin : ∀ z ∈ Z, inRec z.1) (hlen : (formJ (bodyJ (Z.map Prod.fst))).length ≤ 1000000000) :
    Calls Tryz.prog 4 #[sv] w fun e w' => e = .returned (.bool true) ∧ Below w.heap.size w w' := by
  by_cases hE : (pushP (formJ (bodyJ (Z.map Prod.fst)))).1 = 0
  · exact back_good sv Z w hT hZ hin hlen hE
  · exact back_bad sv Z w hT hZ hin hlen hE
end Go.Proofs.YtljnbbdhmlfhjaaGreatDoor
/-
  The law WireBack: its walk, of all that came in.
-/
namespace Go.Proofs.YtljnbbdhmlfhjaaGreatDoor
open Go.RowKit
theorem bodyR_le (r : Rec) : (formJ (bodyR r)).length ≤ (formJ (recJ r)).length := by
  simp only [bodyR, recJ, formJ, formM, formU, formE, List.length_cons, List.length_append, List.length_nil]
  omega
theorem bodyT_le : ∀ l : List Rec, (formT (l.map bodyR)).length ≤ (formT (l.map recJ)).length
  | [] => Nat.le_refl _
  | r :: l => by
    have h1 := bodyR_le r
    have h2 := bodyT_le l
    simp only [List.map_cons, formT, List.length_cons, List.length_append]
    omega
theorem back_walk (sv : Value) (Z : List RecL) (w : World) (hT : T23 w) (hZ : RRow w sv Z) (hin : ∀ z ∈ Z, inRec z.1) (hbk : (Z.map fun z => sumL z.1.labs + z.1.line.size + 1).sum ≤ 1048576) :
    Calls Tryz.prog 4 #[sv] w fun e w' => e = .returned (.bool true) ∧ Below w.heap.size w w' := by
  refine back_walk23 sv Z w hT hZ hin ?_
  obtain ⟨l, hl⟩ : ∃ l, Z.map Prod.fst = l := ⟨_, rfl⟩
  have hbulk : bulkR l ≤ 107 * 1048576 := bulk_of l (by rw [← hl, List.map_map]; exact hbk)
  rw [hl]
  have h1 := under_form kRecords (l.map bodyR)
  have h2 := recs_form l (fun r hr => by
    rw [← hl] at hr
    obtain ⟨z, hz, rfl⟩ := List.mem_map.1 hr
    exact ⟨⟨(hin z hz).1, (hin z hz).2.1⟩, (hin z hz).2.2.1⟩)
  have h3 : kRecords.length = 7 := rfl
  have h4 := bodyT_le l
  unfold bulkR at hbulk
  show (formJ (underJ kRecords (l.map bodyR))).length ≤ _
  omega
end Go.Proofs.YtljnbbdhmlfhjaaGreatDoor
