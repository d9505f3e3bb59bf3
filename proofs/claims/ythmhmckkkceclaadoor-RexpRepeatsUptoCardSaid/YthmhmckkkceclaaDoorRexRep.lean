/-
  RexpRepeats, plainly.
-/
import Derived.Test.YthmhmckkkceclaaDoorRexLaw
import Derived.Deep.RegionHeld3
namespace Go.Proofs.YthmhmckkkceclaaDoor
open Go.RowKit
def txtStar : ByteArray := ⟨#[42]⟩
def ttR (X Y : ByteArray) : Nat → ByteArray
  | 0 => ⟨#[42]⟩
  | 1 => ⟨#[43]⟩
  | 2 => ⟨#[63]⟩
  | 3 => ⟨#[123]⟩ ++ X ++ ⟨#[125]⟩
  | _ => ⟨#[123]⟩ ++ X ++ ⟨#[44]⟩ ++ Y ++ ⟨#[125]⟩
def mnR (lo : Int) : Nat → Int
  | 0 => 0
  | 1 => 1
  | 2 => 0
  | _ => lo
def mxR (lo hi : Int) : Nat → Int
  | 0 => -1
  | 1 => -1
  | 2 => 1
  | 3 => lo
  | _ => hi
def badR (lo hi i : Int) : Bool := (decide (8 < lo) && decide (3 ≤ i)) || ((i == 4) && (decide (8 < hi) || decide (hi < lo)))
def digB (k : Nat) : ByteArray := ⟨#[UInt8.ofNat (48 + k)]⟩
def repOk (lo hi : Nat) (i : Nat) : Bool :=
  Lib.validD (ttR (digB lo) (digB hi) i).data.toList && decide ((ttR (digB lo) (digB hi) i).size ≤ 5) &&
    (if badR lo hi i then decide (repP (runesZ (ttR (digB lo) (digB hi) i)) = none) && decide (repP (runesZ (ttR (digB lo) (digB hi) i) ++ [42]) = none)
    else decide (repP (runesZ (ttR (digB lo) (digB hi) i)) = some (some (mnR lo i, mxR lo hi i), [])) && decide (runesZ (ttR (digB lo) (digB hi) i) ≠ []))
theorem rep_all : ∀ (lo hi : Fin 10) (i : Fin 5), repOk lo.val hi.val i.val = true := by decide +kernel
theorem rep_fact (lo hi i : Nat) (hlo : lo ≤ 9) (hhi : hi ≤ 9) (hi5 : i < 5) : Lib.validD (ttR (digB lo) (digB hi) i).data.toList = true ∧ (ttR (digB lo) (digB hi) i).size ≤ 5 ∧
    (badR lo hi i = true → repP (runesZ (ttR (digB lo) (digB hi) i)) = none ∧ repP (runesZ (ttR (digB lo) (digB hi) i) ++ [42]) = none) ∧
    (badR lo hi i = false → repP (runesZ (ttR (digB lo) (digB hi) i)) = some (some (mnR lo i, mxR lo hi i), []) ∧ runesZ (ttR (digB lo) (digB hi) i) ≠ []) := by
  have h := rep_all ⟨lo, by omega⟩ ⟨hi, by omega⟩ ⟨i, hi5⟩
  simp only at h
  unfold repOk at h
  rw [Bool.and_eq_true, Bool.and_eq_true] at h
  refine ⟨h.1.1, of_decide_eq_true h.1.2, fun hb => ?_, fun hb => ?_⟩
  · have h2 := h.2
    rw [if_pos hb, Bool.and_eq_true] at h2
    exact ⟨of_decide_eq_true h2.1, of_decide_eq_true h2.2⟩
  · have h2 := h.2
    rw [if_neg (by rw [hb]; decide), Bool.and_eq_true] at h2
    exact ⟨of_decide_eq_true h2.1, of_decide_eq_true h2.2⟩
theorem enc_dig (k : Nat) (hk : k ≤ 9) : Utf8.encode (48 + (k : Int)) = digB k := by
  have h : (48 + (k : Int)) = ((48 + k : Nat) : Int) := by omega
  rw [h, utf8_encodeX (48 + k) (by unfold scalar; omega)]
  have hb : (UInt8.ofNat (48 + k)).toNat = 48 + k := by
    show (48 + k) % 256 = 48 + k
    omega
  have := encR_ascii (UInt8.ofNat (48 + k)) (by rw [hb]; omega)
  rw [hb] at this
  rw [this]
  rfl
theorem star_vals : Lib.validD txtStar.data.toList = true ∧ runesZ txtStar = [42] := by decide +kernel
/-- A repetition behind parentheses. -/
theorem parse_rep {s : ByteArray} (h : parseE s = 0) (T : ByteArray) (mn mx : Int) (bad : Bool) (hv : Lib.validD T.data.toList = true)
    (hb : bad = true → repP (runesZ T) = none ∧ repP (runesZ T ++ [42]) = none) (hg : bad = false → repP (runesZ T) = some (some (mn, mx), []) ∧ runesZ T ≠ []) :
    (parseE (txtPar ++ s ++ txtRap ++ T) = 4 ∨ parseE (txtPar ++ s ++ txtRap ++ T) = 9 ∨ parseE (txtPar ++ s ++ txtRap ++ T) = 3) ∨
    ((parseE (txtPar ++ s ++ txtRap ++ T ++ txtStar) = 40 ∨ parseE (txtPar ++ s ++ txtRap ++ T ++ txtStar) = 4) ∧ (bad = true → parseE (txtPar ++ s ++ txtRap ++ T) = 40) ∧
      (bad = false → parseE (txtPar ++ s ++ txtRap ++ T) = 0 ∧ parseL (txtPar ++ s ++ txtRap ++ T) = parseL s ++ [⟨5, [(parseL s).length - 1], mn, mx, []⟩])) := by
  obtain ⟨hs, hvs, f, hp, hd, hz, hl, hne, -⟩ := parse_ok h
  obtain ⟨⟨v1, r1⟩, ⟨v2, r2⟩, -, -⟩ := txt_vals
  obtain ⟨v4, r4⟩ := star_vals
  have w1 : Lib.validD (txtPar ++ s).data.toList = true := by rw [valid_app _ _ v1]; exact hvs
  have w2 : Lib.validD (txtPar ++ s ++ txtRap).data.toList = true := by rw [valid_app _ _ w1]; exact v2
  have w3 : Lib.validD (txtPar ++ s ++ txtRap ++ T).data.toList = true := by rw [valid_app _ _ w2]; exact hv
  have w4 : Lib.validD (txtPar ++ s ++ txtRap ++ T ++ txtStar).data.toList = true := by rw [valid_app _ _ w3]; exact v4
  have hr : runesZ (txtPar ++ s ++ txtRap ++ T) = 40 :: (runesZ s ++ 41 :: runesZ T) := by
    rw [runesZ_app _ _ w2, runesZ_app _ _ w1, runesZ_app _ _ v1, r1, r2]
    simp
  have hr2 : runesZ (txtPar ++ s ++ txtRap ++ T ++ txtStar) = 40 :: (runesZ s ++ 41 :: (runesZ T ++ [42])) := by
    rw [runesZ_app _ _ w3, hr, r4]
    simp
  by_cases hsz : 128 < (txtPar ++ s ++ txtRap ++ T).size
  · exact .inl (.inl (parse_long hsz))
  have hstar : patP (runesZ (txtPar ++ s ++ txtRap ++ T ++ txtStar)) = none := by
    rw [hr2]
    cases bad with
    | true => exact pat_rep_bad hp (hb rfl).2
    | false => exact pat_rep_star hp (hg rfl).1 (hg rfl).2
  have hG : parseE (txtPar ++ s ++ txtRap ++ T ++ txtStar) = 40 ∨ parseE (txtPar ++ s ++ txtRap ++ T ++ txtStar) = 4 := by
    by_cases hsz2 : 128 < (txtPar ++ s ++ txtRap ++ T ++ txtStar).size
    · exact .inr (parse_long hsz2)
    · exact .inl (parse_none (by omega) w4 hstar)
  cases bad with
  | true =>
    refine .inr ⟨hG, fun _ => parse_none (by omega) w3 ?_, fun h => (by cases h)⟩
    rw [hr]
    exact pat_rep_bad hp (hb rfl).1
  | false =>
    have hp2 := pat_rep hp (hg rfl).1
    rw [← hr] at hp2
    obtain ⟨e1, e2⟩ := parse_of (by omega) w3 hp2
    by_cases hd2 : 16 < (repF (upF f) mn mx).deep
    · rw [if_pos hd2] at e1
      exact .inl (.inr (.inl e1))
    rw [if_neg hd2] at e1
    by_cases hz2 : 1000 < sizeP (repF (upF f) mn mx).nodes
    · rw [if_pos hz2] at e1
      exact .inl (.inr (.inr e1))
    rw [if_neg hz2] at e1
    refine .inr ⟨hG, fun h => (by cases h), fun _ => ⟨e1, ?_⟩⟩
    rw [e2 e1, hl]
    rfl
end Go.Proofs.YthmhmckkkceclaaDoor
/-
  RexpRepeats' walk.
-/
namespace Go.Proofs.YthmhmckkkceclaaDoor
open Go.RowKit
theorem tri_last (w : World) (a b c : Obj) : (((w.alloc a).alloc b).alloc c).heap[w.heap.size + 2]? = some c := by
  have h := heap_alloc_new ((w.alloc a).alloc b) c
  rw [show ((w.alloc a).alloc b).heap.size = w.heap.size + 2 by simp] at h
  exact h
theorem tri_mid (w : World) (a b c : Obj) : (((w.alloc a).alloc b).alloc c).heap[w.heap.size + 1]? = some b := by
  rw [heap_alloc_old _ _ (by simp)]
  have h := heap_alloc_new (w.alloc a) b
  rw [show (w.alloc a).heap.size = w.heap.size + 1 by simp] at h
  exact h
theorem keep_int {w w' : World} {B B' n n' : Nat} {v v' : Value} {xs xs' : List Value} (hg : w.grownBy w' v.ownBlock) (hv : w.ownsRow B 33 5 v n xs) (h : w.ownsRow B' 3 1 v' n' xs') : w'.ownsRow B' 3 1 v' n' xs' :=
  h.kept hg (by
    cases hk : v'.ownBlock with
    | none => exact .inl rfl
    | some j => exact .inr fun e => own_apartX h hv (by decide) hk e.symm)
set_option maxRecDepth 100000 in
set_option maxHeartbeats 40000000 in
theorem repeats_walk (s : ByteArray) (m n : Int) (w : World) (hT : Tabs w) (hs : s.size ≤ 1048576) (hm : 0 ≤ m ∧ m < 256) (hn : 0 ≤ n ∧ n < 256) : Calls Tryd.prog 7 #[.string s, .int .u8 m, .int .u8 n] w fun e w' => e = .returned (.bool true) ∧ Below w.heap.size w w' := by
  have cA := law18_awake w hT
  obtain ⟨E1, hE1⟩ : ∃ E, parseE s = E := ⟨_, rfl⟩
  obtain ⟨L1, hL1⟩ : ∃ E, parseL s = E := ⟨_, rfl⟩
  have C1 := Lib.hid (fun W (hW : Below w.heap.size w W) => par_at s E1 L1 W hE1 hL1 (Utf8Tabs_below hT hW) (by unfold maxLen; omega))
  have HT := Lib.hid hT
  have HE1 := Lib.hid hE1
  have HL1 := Lib.hid hL1
  obtain ⟨m0, m1⟩ := hm
  obtain ⟨n0, n1⟩ := hn
  clear hE1 hL1 hT
  go_enter Tryd.func7, Tryd.ntmps7
  go_upto_region 3 with (go_at_call 8; refine cA.mono ?_; rintro e w1 ⟨rfl, hb1⟩)
  have D1 := C1.out w1 hb1
  clear cA
  go_upto_region 4 with (go_at_call 9; refine D1.mono ?_; rintro e w2 ⟨v1, Z1, rfl, hn1, hl1, hb2⟩; obtain ⟨a1, c1, rfl⟩ := owns_slice hn1.own; have H2 := Lib.hid (And.intro hn1 (And.intro hl1 (hb1.trans (hb2.mono hb1.size)))); clear hn1 hl1 hb2)
  clear D1 C1
  by_cases h1 : E1 = 0
  · have f1 : (E1 != 0) = false := by simpa using h1
    obtain ⟨lo, hlo⟩ : ∃ lo : Int, m % 10 = lo := ⟨_, rfl⟩
    obtain ⟨hi, hhi⟩ : ∃ lo : Int, n % 10 = lo := ⟨_, rfl⟩
    have hlo9 : 0 ≤ lo ∧ lo ≤ 9 := by omega
    have hhi9 : 0 ≤ hi ∧ hi ≤ 9 := by omega
    have t1 : Int.tmod m 10 = lo := by rw [Int.tmod_eq_emod_of_nonneg m0]; exact hlo
    have t2 : Int.tmod n 10 = hi := by rw [Int.tmod_eq_emod_of_nonneg n0]; exact hhi
    have HH1 := Lib.hid h1
    clear hlo hhi h1
    obtain ⟨hlo0, hlo9⟩ := hlo9
    obtain ⟨hhi0, hhi9⟩ := hhi9
    go_upto_region 8 with fail
    clear t1 t2 m0 m1 n0 n1
    have w1' : IntKind.i32.wrap (48 + lo) = 48 + lo := by rw [IntKind.wrap_i32]; omega
    have w2' : IntKind.i32.wrap (48 + hi) = 48 + hi := by rw [IntKind.wrap_i32]; omega
    have hXs : (Utf8.encode (48 + lo)).size ≤ 5 := by
      rw [show lo = ((lo.toNat : Nat) : Int) by omega, enc_dig lo.toNat (by omega)]
      show 1 ≤ 5
      decide
    have hYs : (Utf8.encode (48 + hi)).size ≤ 5 := by
      rw [show hi = ((hi.toNat : Nat) : Int) by omega, enc_dig hi.toNat (by omega)]
      show 1 ≤ 5
      decide
    have hTT : ∀ i : Nat, i < 5 → Lib.validD (ttR (Utf8.encode (48 + lo)) (Utf8.encode (48 + hi)) i).data.toList = true ∧ (ttR (Utf8.encode (48 + lo)) (Utf8.encode (48 + hi)) i).size ≤ 5 ∧
        (badR lo hi i = true → repP (runesZ (ttR (Utf8.encode (48 + lo)) (Utf8.encode (48 + hi)) i)) = none ∧ repP (runesZ (ttR (Utf8.encode (48 + lo)) (Utf8.encode (48 + hi)) i) ++ [42]) = none) ∧
        (badR lo hi i = false → repP (runesZ (ttR (Utf8.encode (48 + lo)) (Utf8.encode (48 + hi)) i)) = some (some (mnR lo i, mxR lo hi i), []) ∧ runesZ (ttR (Utf8.encode (48 + lo)) (Utf8.encode (48 + hi)) i) ≠ []) := fun i hi5 => by
      have h := rep_fact lo.toNat hi.toNat i (by omega) (by omega) hi5
      rw [← enc_dig lo.toNat (by omega), ← enc_dig hi.toNat (by omega), show ((lo.toNat : Nat) : Int) = lo by omega, show ((hi.toNat : Nat) : Int) = hi by omega] at h
      exact h
    have HTT := Lib.hid hTT
    clear hTT
    go_upto_region 12 with fail
    generalize Utf8.encode (48 + lo) = X at *
    generalize Utf8.encode (48 + hi) = Y at *
    obtain ⟨w3, hw3⟩ : ∃ x, ((w2.alloc (.cells #[.string ⟨#[42]⟩, .string ⟨#[43]⟩, .string ⟨#[63]⟩, .string (⟨#[123]⟩ ++ X ++ ⟨#[125]⟩), .string (⟨#[123]⟩ ++ X ++ ⟨#[44]⟩ ++ Y ++ ⟨#[125]⟩)] 38)).alloc (.cells #[.int .i64 0, .int .i64 1, .int .i64 0, .int .i64 lo, .int .i64 lo] 39)).alloc (.cells #[.int .i64 (-1), .int .i64 (-1), .int .i64 1, .int .i64 lo, .int .i64 hi] 39) = x := ⟨_, rfl⟩
    have hb3 : Below w2.heap.size w2 w3 := by
      rw [← hw3]
      exact belowA' (belowA' (belowA' (Below.refl _ _) (Nat.le_refl _)) (by simp)) (by simp; omega)
    have hsz3 : w3.heap.size = w2.heap.size + 3 := by rw [← hw3]; simp
    have o1 : w3.heap[w2.heap.size]? = some (.cells #[.string ⟨#[42]⟩, .string ⟨#[43]⟩, .string ⟨#[63]⟩, .string (⟨#[123]⟩ ++ X ++ ⟨#[125]⟩), .string (⟨#[123]⟩ ++ X ++ ⟨#[44]⟩ ++ Y ++ ⟨#[125]⟩)] 38 (0, 0)) := by
      rw [← hw3, heap_alloc_old _ _ (by simp; omega), heap_alloc_old _ _ (by simp)]
      exact heap_alloc_new _ _
    have o2 : w3.heap[w2.heap.size + 1]? = some (.cells #[.int .i64 0, .int .i64 1, .int .i64 0, .int .i64 lo, .int .i64 lo] 39 (0, 0)) := by
      rw [← hw3, heap_alloc_old _ _ (by simp)]
      have := heap_alloc_new (w2.alloc (.cells #[.string ⟨#[42]⟩, .string ⟨#[43]⟩, .string ⟨#[63]⟩, .string (⟨#[123]⟩ ++ X ++ ⟨#[125]⟩), .string (⟨#[123]⟩ ++ X ++ ⟨#[44]⟩ ++ Y ++ ⟨#[125]⟩)] 38)) (.cells #[.int .i64 0, .int .i64 1, .int .i64 0, .int .i64 lo, .int .i64 lo] 39)
      simpa using this
    have o3 : w3.heap[w2.heap.size + 2]? = some (.cells #[.int .i64 (-1), .int .i64 (-1), .int .i64 1, .int .i64 lo, .int .i64 hi] 39 (0, 0)) := by
      rw [← hw3]
      have := heap_alloc_new ((w2.alloc (.cells #[.string ⟨#[42]⟩, .string ⟨#[43]⟩, .string ⟨#[63]⟩, .string (⟨#[123]⟩ ++ X ++ ⟨#[125]⟩), .string (⟨#[123]⟩ ++ X ++ ⟨#[44]⟩ ++ Y ++ ⟨#[125]⟩)] 38)).alloc (.cells #[.int .i64 0, .int .i64 1, .int .i64 0, .int .i64 lo, .int .i64 lo] 39)) (.cells #[.int .i64 (-1), .int .i64 (-1), .int .i64 1, .int .i64 lo, .int .i64 hi] 39)
      simpa using this
    rw [hw3]
    obtain ⟨b, hb⟩ : ∃ b, w2.heap.size = b := ⟨_, rfl⟩
    rw [hb] at o1 o2 o3 hb3 hsz3 ⊢
    rw [show b + 1 + 1 = b + 2 from rfl]
    have hcells : ∀ (i : Nat) (W : World), i < 5 → Below w3.heap.size w3 W → W.cell? ⟨b, i, none⟩ = some (.string (ttR X Y i)) ∧ W.cell? ⟨b + 1, i, none⟩ = some (.int .i64 (mnR lo i)) ∧ W.cell? ⟨b + 2, i, none⟩ = some (.int .i64 (mxR lo hi i)) := fun i W hi5 hW => by
      rw [hW.cell (p := ⟨b, i, none⟩) (by show b < _; omega), hW.cell (p := ⟨b + 1, i, none⟩) (by show b + 1 < _; omega), hW.cell (p := ⟨b + 2, i, none⟩) (by show b + 2 < _; omega), Lib.cell_of_heap o1, Lib.cell_of_heap o2, Lib.cell_of_heap o3]
      match i, hi5 with
      | 0, _ => exact ⟨rfl, rfl, rfl⟩
      | 1, _ => exact ⟨rfl, rfl, rfl⟩
      | 2, _ => exact ⟨rfl, rfl, rfl⟩
      | 3, _ => exact ⟨rfl, rfl, rfl⟩
      | 4, _ => exact ⟨rfl, rfl, rfl⟩
    have HC := Lib.hid hcells
    have A1 := Lib.hid ((H2.out.1.keptB (by rw [hb]; exact hb3)).base (A := w.heap.size) hb1.size)
    have HW3 := Lib.hid (H2.out.2.2.trans (hb3.mono (by rw [← hb]; exact H2.out.2.2.size)))
    have P1 := Lib.hid H2.out.2.1
    have hE0 : parseE s = 0 := by rw [HE1.out]; exact HH1.out
    have hrl := fun T mn mx bad hv hb' hg => parse_rep hE0 T mn mx bad hv hb' hg
    rw [HL1.out] at hrl
    have HRL := Lib.hid hrl
    obtain ⟨n1', s1, k1⟩ := tree_small hE0
    rw [HL1.out] at n1' s1 k1
    have hlz : Z1.length = L1.length := by rw [← P1.out, List.length_map]
    have hp1 : 1 ≤ Z1.length := by rw [hlz]; exact List.length_pos_iff.2 n1'
    have hZ1b : Z1.length ≤ 600 := by omega
    have HLZ := Lib.hid hlz
    have hT3 := Utf8Tabs_below HT.out HW3.out
    have HT3 := Lib.hid hT3
    clear hw3 o1 o2 o3 hcells hb H2 hrl n1' s1 k1 hlz hE0 hT3 HE1 HL1 HT hb3 hsz3 w1' w2'
    go_loopw [14, 15, 16, 17, 18, 19] (fun iv _ _ _ _ _ wr => ∃ i : Nat, iv = .int .i64 (i : Int) ∧ i ≤ 5 ∧ Below w3.heap.size w3 wr) (fun iv _ _ _ _ _ _ => 5 - (intOf iv).toNat)
    case atStart => exact ⟨0, rfl, by omega, Below.refl _ _⟩
    case round =>
      obtain ⟨i, rfl, hi5, hbr⟩ := hrel
      by_cases hlt : i < 5
      · obtain ⟨q1, q2, q3⟩ := HC.out i wr hlt hbr
        obtain ⟨t1, t2, t3, t4⟩ := HTT.out i hlt
        have RL := HRL.out (ttR X Y i) (mnR lo i) (mxR lo hi i) (badR lo hi i) t1 t3 t4
        obtain ⟨T, hTe⟩ : ∃ T, ttR X Y i = T := ⟨_, rfl⟩
        rw [hTe] at q1 RL t2
        have HX := Lib.hid hTe
        obtain ⟨E, hE⟩ : ∃ E, parseE (txtPar ++ s ++ txtRap ++ T) = E := ⟨_, rfl⟩
        obtain ⟨L, hL⟩ : ∃ E, parseL (txtPar ++ s ++ txtRap ++ T) = E := ⟨_, rfl⟩
        obtain ⟨G, hG⟩ : ∃ E, parseE (txtPar ++ s ++ txtRap ++ T ++ txtStar) = E := ⟨_, rfl⟩
        have z1 : (txtPar ++ s ++ txtRap ++ T).size ≤ maxLen := by
          rw [ByteArray.size_append, ByteArray.size_append, ByteArray.size_append]
          show 1 + s.size + 1 + T.size ≤ _
          unfold maxLen
          omega
        have z2 : (txtPar ++ s ++ txtRap ++ T ++ txtStar).size ≤ maxLen := by
          rw [ByteArray.size_append, ByteArray.size_append, ByteArray.size_append, ByteArray.size_append]
          show 1 + s.size + 1 + T.size + 1 ≤ _
          unfold maxLen
          omega
        have C1 := Lib.hid (fun W (hW : Below w3.heap.size w3 W) => par_at _ E L W hE hL (Utf8Tabs_below HT3.out hW) z1)
        have C2 := Lib.hid (fun W (hW : Below w3.heap.size w3 W) => par_at _ G _ W hG rfl (Utf8Tabs_below HT3.out hW) z2)
        generalize parseL (txtPar ++ s ++ txtRap ++ T ++ txtStar) = LG at *
        rw [hE, hL, hG] at RL
        obtain ⟨mn, hmn⟩ : ∃ E, mnR lo i = E := ⟨_, rfl⟩
        obtain ⟨mx, hmx⟩ : ∃ E, mxR lo hi i = E := ⟨_, rfl⟩
        obtain ⟨bad, hbad⟩ : ∃ E, badR lo hi i = E := ⟨_, rfl⟩
        rw [hmn, hmx, hbad] at RL
        rw [hmn] at q2
        rw [hmx] at q3
        have HBAD := Lib.hid hbad
        have HMN := Lib.hid hmn
        have HMX := Lib.hid hmx
        have HRLi := Lib.hid RL
        unfold txtPar txtRap at C1 C2
        unfold txtStar at C2
        have i0 : (0 : Int) ≤ (i : Int) := by omega
        have i5 : (i : Int) < 5 := by omega
        have D1 := C1.out wr hbr
        have HBR := Lib.hid hbr
        clear hE hL hG hmn hmx hbad RL z1 z2 t1 t3 t4 C1 hTe hbr
        go_upto_region 15 with (go_at_call 9; refine D1.mono ?_; rintro e w5 ⟨v5, Z5, rfl, hnx, hlx, hbx⟩; obtain ⟨a5, c5, rfl⟩ := owns_slice hnx.own; have H5 := Lib.hid (And.intro hnx (And.intro hlx hbx)); clear hnx hlx hbx)
        have HB5 := Lib.hid (HBR.out.trans (H5.out.2.2.mono HBR.out.size))
        obtain ⟨q1', -, -⟩ := HC.out i w5 hlt HB5.out
        rw [HX.out] at q1'
        have D2 := C2.out w5 HB5.out
        clear D1 C2 q1
        go_upto_region 16 with (go_at_call 9; refine D2.mono ?_; rintro e w6 ⟨v6, Z6, rfl, hnx, hlx, hbx⟩; obtain ⟨a6, c6, rfl⟩ := owns_slice hnx.own; have H6 := Lib.hid (And.intro hnx (And.intro hlx hbx)); clear hnx hlx hbx)
        have HB6 := Lib.hid (HB5.out.trans (H6.out.2.2.mono HB5.out.size))
        clear D2 q1' q2 q3
        by_cases hc : E = 4 ∨ E = 9 ∨ E = 3
        · have e1 : (E == 4 || E == 9 || E == 3) = true := by
            rcases hc with h | h | h <;> rw [h] <;> rfl
          go_cut [96] from 87 to 96 (fun vv wx => vv = .bool true ∧ Below w6.heap.size w6 wx)
          case first =>
            rcases hc with h | h | h
            · have g1 : (E == 4) = true := by rw [h]; rfl
              clear h e1
              go_wp2_with fail
              go_meet
              exact ⟨rfl, Below.refl _ _⟩
            · have g1 : (E == 4) = false := by rw [h]; rfl
              have g2 : (E == 9) = true := by rw [h]; rfl
              clear h e1
              go_wp2_with fail
              go_meet
              exact ⟨rfl, Below.refl _ _⟩
            · have g1 : (E == 4) = false := by rw [h]; rfl
              have g2 : (E == 9) = false := by rw [h]; rfl
              have g3 : (E == 3) = true := by rw [h]; rfl
              clear h e1
              go_wp2_with fail
              go_meet
              exact ⟨rfl, Below.refl _ _⟩
          case rest =>
            obtain ⟨rfl, hbc⟩ := hcut
            clear e1 hc
            go_wp2_with fail
            go_roundw
            case rel => exact ⟨i + 1, by go_num, by omega, HB6.out.trans (hbc.mono HB6.out.size)⟩
            case measure => simp [intOf]; omega
        · have g1 : (E == 4) = false := by simp; omega
          have g2 : (E == 9) = false := by simp; omega
          have g3 : (E == 3) = false := by simp; omega
          have RL : _ := HRLi.out.resolve_left hc
          obtain ⟨rG, rB, rN⟩ := RL
          have RB := Lib.hid rB
          have RN := Lib.hid rN
          clear hc rB rN HRLi
          have hG2 : (G != 40 && G != 4) = false := by
            rcases rG with h | h <;> rw [h] <;> rfl
          have HRG := Lib.hid rG
          clear rG hG2
          go_upto_region 17 with fail
          clear g1 g2 g3
          go_cut [102] from 97 to 102 (fun vv wx => vv = .bool false ∧ Below w6.heap.size w6 wx)
          case first =>
            rcases HRG.out with h | h
            · have g1 : (G != 40) = false := by rw [h]; rfl
              clear h
              go_wp2_with fail
              go_meet
              exact ⟨rfl, Below.refl _ _⟩
            · have g1 : (G != 40) = true := by rw [h]; rfl
              have g2 : (G != 4) = false := by rw [h]; rfl
              clear h
              go_wp2_with fail
              go_meet
              exact ⟨rfl, Below.refl _ _⟩
          case rest =>
            obtain ⟨rfl, hbc⟩ := hcut
            obtain ⟨w7, hw7⟩ : ∃ x : World, x = wc := ⟨_, rfl⟩
            subst hw7
            have HB7 := Lib.hid (HB6.out.trans (hbc.mono HB6.out.size))
            have H7 := Lib.hid (H6.out.2.2.trans (hbc.mono H6.out.2.2.size))
            clear hbc HRG
            go_upto_region 19 with fail
            go_cut [121] from 103 to 121 (fun vv wx => vv = .bool bad ∧ Below w7.heap.size w7 wx)
            case first =>
              have hb : bad = badR lo hi i := HBAD.out.symm
              unfold badR at hb
              by_cases b1 : 8 < lo
              · have d1 : decide (8 < lo) = true := decide_eq_true b1
                by_cases b2 : (3 : Int) ≤ (i : Int)
                · have d2 : decide ((3 : Int) ≤ (i : Int)) = true := decide_eq_true b2
                  rw [d1, d2] at hb
                  have HBB := Lib.hid hb
                  clear hb b1 b2
                  go_wp2_with fail
                  go_meet
                  exact ⟨by rw [HBB.out]; rfl, Below.refl _ _⟩
                · have d2 : decide ((3 : Int) ≤ (i : Int)) = false := decide_eq_false b2
                  have d3 : ((i : Int) == 4) = false := by simp; omega
                  rw [d1, d2, d3] at hb
                  have HBB := Lib.hid hb
                  clear hb b1 b2
                  go_wp2_with fail
                  go_meet
                  exact ⟨by rw [HBB.out]; rfl, Below.refl _ _⟩
              · have d1 : decide (8 < lo) = false := decide_eq_false b1
                by_cases b3 : (i : Int) = 4
                · have d3 : ((i : Int) == 4) = true := by simp; omega
                  by_cases b4 : 8 < hi
                  · have d4 : decide (8 < hi) = true := decide_eq_true b4
                    rw [d1, d3, d4] at hb
                    have HBB := Lib.hid hb
                    clear hb b1 b3 b4
                    go_wp2_with fail
                    go_meet
                    exact ⟨by rw [HBB.out]; rfl, Below.refl _ _⟩
                  · have d4 : decide (8 < hi) = false := decide_eq_false b4
                    by_cases b5 : hi < lo
                    · have d5 : decide (hi < lo) = true := decide_eq_true b5
                      rw [d1, d3, d4, d5] at hb
                      have HBB := Lib.hid hb
                      clear hb b1 b3 b4 b5
                      go_wp2_with fail
                      go_meet
                      exact ⟨by rw [HBB.out]; rfl, Below.refl _ _⟩
                    · have d5 : decide (hi < lo) = false := decide_eq_false b5
                      rw [d1, d3, d4, d5] at hb
                      have HBB := Lib.hid hb
                      clear hb b1 b3 b4 b5
                      go_wp2_with fail
                      go_meet
                      exact ⟨by rw [HBB.out]; rfl, Below.refl _ _⟩
                · have d3 : ((i : Int) == 4) = false := by simp; omega
                  rw [d1, d3] at hb
                  have HBB := Lib.hid hb
                  clear hb b1 b3
                  go_wp2_with fail
                  go_meet
                  exact ⟨by rw [HBB.out]; rfl, Below.refl _ _⟩
            case rest =>
              obtain ⟨rfl, hbc⟩ := hcut
              obtain ⟨w8, hw8⟩ : ∃ x : World, x = wc := ⟨_, rfl⟩
              subst hw8
              have HB8 := Lib.hid (HB7.out.trans (hbc.mono HB7.out.size))
              have H8 := Lib.hid (H7.out.trans (hbc.mono H7.out.size))
              clear hbc HB6 HB7 H7 HBAD
              cases bad with
              | true =>
                have g1 : (E != 40) = false := by rw [RB.out rfl]; rfl
                clear RB RN
                go_wp2_with fail
                go_roundw
                case rel => exact ⟨i + 1, by go_num, by omega, HB8.out⟩
                case measure => simp [intOf]; omega
              | false =>
                obtain ⟨hE, hL⟩ := RN.out rfl
                have g1 : (E != 0) = false := by rw [hE]; rfl
                have HL := Lib.hid hL
                clear hE hL RB RN
                go_upto_region 22 with fail
                have hq : ∀ W, Below w8.heap.size w8 W → W.cell? ⟨b + 1, i, none⟩ = some (.int .i64 mn) ∧ W.cell? ⟨b + 2, i, none⟩ = some (.int .i64 mx) := fun W hW => by
                  obtain ⟨-, x2, x3⟩ := HC.out i W hlt (HB8.out.trans (hW.mono HB8.out.size))
                  rw [HMN.out] at x2
                  rw [HMX.out] at x3
                  exact ⟨x2, x3⟩
                have HQ := Lib.hid hq
                have hA8 := A1.out.keptB (HB8.out)
                have ONE1 := Lib.hid (nds_one hA8.parts)
                have HA8 := Lib.hid hA8
                have HSRC := Lib.hid (fun W (hW : Below w8.heap.size w8 W) => src_arg (P := Tryd.prog) Tryd.underlying23 (argRow_owns (HA8.out.keptB hW).own) ONE1.out)
                have OWN0 := Lib.hid (fun (W : World) (v : Value) (hv : v = .slice (some ⟨W.heap.size, 0, none⟩) 0 0) (hW : w8.heap.size ≤ W.heap.size) => (hv ▸ World.ownsRow_lit W #[] 0 hW (by decide) rfl : (W.alloc (.cells #[] 33)).ownsRow w8.heap.size 33 5 v 0 []))
                have OM := Lib.hid (OWN0.out w8 (.slice (some ⟨w8.heap.size, 0, none⟩) 0 0) rfl (Nat.le_refl _))
                have OKM := Lib.hid (OWN0.out (w8.alloc (.cells #[.int .i64 ((Z1.length : Int) - 1)] 3)) (.slice (some ⟨w8.heap.size + 1, 0, none⟩) 0 0) (by simp) (by simp))
                have OKNM := Lib.hid (fun (o : Obj) => OWN0.out ((w8.alloc (.cells #[.int .i64 ((Z1.length : Int) - 1)] 3)).alloc o) (.slice (some ⟨w8.heap.size + 1 + 1, 0, none⟩) 0 0) (by simp) (by simp; omega))
                have KID0 := Lib.hid (fun (W : World) (v : Value) (hv : v = .slice (some ⟨W.heap.size, 0, none⟩) 1 1) (hW : w8.heap.size ≤ W.heap.size) => (by
                  subst hv
                  have h := World.ownsRow_lit (base := w8.heap.size) (e := 3) (size := 1) W #[.int .i64 ((Z1.length : Int) - 1)] 1 hW (by decide) rfl
                  have e1 : ([Z1.length - 1] : List Nat).map iCell = [.int .i64 ((Z1.length : Int) - 1)] := by
                    simp only [List.map_cons, List.map_nil, iCell]
                    rw [show ((Z1.length - 1 : Nat) : Int) = (Z1.length : Int) - 1 by omega]
                  rw [e1]
                  exact h : (W.alloc (.cells #[.int .i64 ((Z1.length : Int) - 1)] 3)).ownsRow w8.heap.size 3 1 v 1 (([Z1.length - 1] : List Nat).map iCell)))
                have KB0 := Lib.hid (KID0.out w8 (.slice (some ⟨w8.heap.size, 0, none⟩) 1 1) rfl (Nat.le_refl _))
                have KB1 := Lib.hid (KID0.out (w8.alloc (.cells #[] 33)) (.slice (some ⟨w8.heap.size + 1, 0, none⟩) 1 1) (by simp) (by simp))
                have y1 : IntKind.i64.wrap ((Z1.length : Int) - 1) = (Z1.length : Int) - 1 := IntWalk.i64_in _ (by omega)
                clear hq hA8
                have HQS := Lib.hid (fun W (hW : Below w8.heap.size w8 W) => (⟨(HQ.out W hW).1, (HQ.out W hW).2, hW⟩ : W.cell? ⟨b + 1, i, none⟩ = some (.int .i64 mn) ∧ W.cell? ⟨b + 2, i, none⟩ = some (.int .i64 mx) ∧ Below w8.heap.size w8 W))
                have s0 := HQS.out w8 (Below.refl _ _)
                have s1' := HQS.out w8.drew (Below.refl _ _).drew
                go_cut [19] from 124 to 139 (fun d wx => ∃ kv, wx.ownsRow w8.heap.size 33 5 d (Z1.length + 1) (ndsCells Z1 ++ [.int .i64 5, kv, .int .i64 mn, .int .i64 mx, .slice none 0 0]) ∧ wx.ownsRow w8.heap.size 3 1 kv 1 (([Z1.length - 1] : List Nat).map iCell) ∧ Below w8.heap.size w8 wx)
                case first =>
                  go_region_held3 (fun W => W.cell? ⟨b + 1, i, none⟩ = some (.int .i64 mn) ∧ W.cell? ⟨b + 2, i, none⟩ = some (.int .i64 mx) ∧ Below w8.heap.size w8 W)
                    (first | exact HQS.out _ (by (repeat (first | assumption | with_reducible exact Below.refl _ _ | (with_reducible refine belowA' ?_ (by first | omega | (simp; done) | (simp; omega))) | with_reducible refine Below.drew ?_)); (first | done | fail)))
                    (first
                    | (first
                       | (go_loud (refine step_append_src rfl (.tmp 124) (.tmp 125) _ _ (by rfl) w8.heap.size ENd _ 0 [] rfl (by ((repeat (first | exact OM.out | exact OKM.out | exact OKNM.out _ | with_reducible refine World.ownsRow.alloc ?_ _ | with_reducible refine World.ownsRow.drew ?_)); (first | done | fail))) _ Z1.length (ndsCells Z1) rfl (by exact HSRC.out _ (by (repeat (first | assumption | with_reducible exact Below.refl _ _ | (with_reducible refine belowA' ?_ (by first | omega | (simp; done) | (simp; omega))) | with_reducible refine Below.drew ?_)); (first | done | fail))) (by unfold maxLen; omega) (by omega) (by first | (simp; done) | (simp; omega)) ?_; intro v9 w9 hown9 hgr9 _ _; rw [Nat.zero_add, List.nil_append] at hown9; have b9 : Below w8.heap.size w8 w9 := ((by (repeat (first | assumption | with_reducible exact Below.refl _ _ | (with_reducible refine belowA' ?_ (by first | omega | (simp; done) | (simp; omega))) | with_reducible refine Below.drew ?_)); (first | done | fail)) : Below w8.heap.size w8 _).grown hgr9 (by first | (simp; done) | (simp; omega)) (fun k hk => by cases hk; first | exact Nat.le_refl _ | omega | (simp; done) | (simp; omega)); have HO9 := Lib.hid (fun (v : Value) (hv : v = v9) => (hv ▸ hown9 : w9.ownsRow w8.heap.size 33 5 v Z1.length (ndsCells Z1))); have hs9 : w8.heap.size < w9.heap.size := (by have := hgr9.size; simp at this; omega); have KP9 := Lib.hid (fun u k ys h => keep_int (B' := w8.heap.size) (v' := u) (n' := k) (xs' := ys) hgr9 (by (repeat (first | exact OM.out | exact OKM.out | exact OKNM.out _ | with_reducible refine World.ownsRow.alloc ?_ _ | with_reducible refine World.ownsRow.drew ?_)); (first | done | fail)) h)))
                       | fail)
                    | (first
                       | (go_loud (refine step_append_src rfl (.tmp 126) (.tmp 138) _ _ (by rfl) w8.heap.size ENd _ Z1.length (ndsCells Z1) rfl (by (repeat (first | ((with_reducible refine HO9.out _ ?_); rfl) | with_reducible refine World.ownsRow.alloc ?_ _ | with_reducible refine World.ownsRow.drew ?_)); (first | done | fail)) _ 1 [.int .i64 5, _, .int .i64 mn, .int .i64 mx, .slice none 0 0] rfl (by first | exact src_last (cs := #[.int .i64 5, _, .int .i64 mn, .int .i64 mx, .slice none 0 0]) Tryd.underlying23 1 1 5 (by first | rfl | (simp; done)) rfl (by simp [Value.oneCell']) | exact src_new (cs := #[.int .i64 5, _, .int .i64 mn, .int .i64 mx, .slice none 0 0]) (t := 33) (fr := (0, 0)) Tryd.underlying23 1 1 5 (by first | (rw [hgr9.block (w8.heap.size + 2) (by first | (simp; done) | (simp; omega)) (by intro e; have h := Option.some.inj e; first | (simp at h; done) | omega)]; first | exact tri_last w8 _ _ _ | exact tri_mid w8 _ _ _) | (rw [hgr9.block (w8.heap.size + 1) (by first | (simp; done) | (simp; omega)) (by intro e; have h := Option.some.inj e; first | (simp at h; done) | omega)]; first | exact tri_last w8 _ _ _ | exact tri_mid w8 _ _ _) | (rw [hgr9.block (w8.heap.size + 1 + 1) (by first | (simp; done) | (simp; omega)) (by intro e; have h := Option.some.inj e; first | (simp at h; done) | omega)]; first | exact tri_last w8 _ _ _ | exact tri_mid w8 _ _ _)) rfl (by simp [Value.oneCell'])) (by unfold maxLen; omega) (by omega) (by first | omega | (simp; omega)) ?_)
                          intro v10 w10 hown10 hgr10 _ _
                          have b10 : Below w8.heap.size w8 w10 := ((by (repeat (first | assumption | with_reducible exact Below.refl _ _ | (with_reducible refine belowA' ?_ (by first | omega | (simp; done) | (simp; omega))) | with_reducible refine Below.drew ?_)); (first | done | fail)) : Below w8.heap.size w8 _).grown hgr10 (by first | omega | (simp; omega)) (fun k hk => (hown9.lt k hk).1)
                          have KP10 := Lib.hid (fun u k ys h => keep_int (B' := w8.heap.size) (v' := u) (n' := k) (xs' := ys) hgr10 (by (repeat (first | ((with_reducible refine HO9.out _ ?_); rfl) | with_reducible refine World.ownsRow.alloc ?_ _ | with_reducible refine World.ownsRow.drew ?_)); (first | done | fail)) h))
                       | fail))
                  all_goals
                    go_wp2_with fail
                    go_meet
                    exact ⟨_, hown10, KP10.out _ _ _ (by (repeat (first | exact KB0.out | exact KB1.out | exact KID0.out w9 _ rfl (Nat.le_of_lt hs9) | refine KP9.out _ _ _ ?_ | with_reducible refine World.ownsRow.alloc ?_ _ | with_reducible refine World.ownsRow.drew ?_)); (first | done | fail)), b10⟩
                case rest =>
                  obtain ⟨kv, hown, hkid, hbx⟩ := hcut
                  obtain ⟨xa, xc, rfl⟩ := owns_slice hown
                  have hbig : NOwn wc w.heap.size (.slice xa (Z1.length + 1) xc) (Z1 ++ [(⟨5, [Z1.length - 1], mn, mx, []⟩, kv, .slice none 0 0)]) := by
                    have hw8 : w.heap.size ≤ w8.heap.size := Nat.le_trans HW3.out.size HB8.out.size
                    refine ⟨?_, fun z hz => ?_⟩
                    · rw [ndsCells_append, List.length_append]
                      exact owns_base hown hw8
                    · rcases List.mem_append.1 hz with hz | hz
                      · exact (HA8.out.keptB hbx).parts z hz
                      · rw [List.mem_singleton.1 hz]
                        exact ⟨owns_base hkid hw8, World.ownsRow_nil _ _ _ _⟩
                  have hmap : (Z1 ++ [((⟨5, [Z1.length - 1], mn, mx, []⟩ : Nd), (kv, Value.slice none 0 0))]).map Prod.fst = L1 ++ [⟨5, [L1.length - 1], mn, mx, []⟩] := by
                    rw [List.map_append, P1.out]
                    simp only [List.map_cons, List.map_nil]
                    rw [HLZ.out]
                  have hz5 : Z5.length ≤ 100000 := by
                    have h := congrArg List.length H5.out.2.1
                    rw [List.length_map, HL.out, ← hmap, List.length_map, List.length_append] at h
                    simp at h
                    omega
                  have CS := ref_Same _ _ _ _ Z5 _ wc (H5.out.1.keptB (H8.out.trans (hbx.mono H8.out.size))) hbig (by rw [H5.out.2.1, HL.out, hmap]) hz5
                  have HBX := Lib.hid (HB8.out.trans (hbx.mono HB8.out.size))
                  clear hown hkid hbx hbig hmap hz5
                  go_wp2_with (go_at_call 11; refine CS.mono ?_; rintro e w15 ⟨rfl, hb15⟩)
                  go_roundw
                  case rel => exact ⟨i + 1, by go_num, by omega, HBX.out.trans (hb15.mono HBX.out.size)⟩
                  case measure => simp [intOf]; omega
      · have hi : i = 5 := by omega
        subst hi
        go_wp2_with fail
        go_ret
        exact ⟨rfl, HW3.out.trans (hbr.mono HW3.out.size)⟩
  · have f1 : (E1 != 0) = true := by simpa using h1
    clear h1
    go_wp2_with fail
    go_ret
    exact ⟨rfl, H2.out.2.2⟩
end Go.Proofs.YthmhmckkkceclaaDoor
