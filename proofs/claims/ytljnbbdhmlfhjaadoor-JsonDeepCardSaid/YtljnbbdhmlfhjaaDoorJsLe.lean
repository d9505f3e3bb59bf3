/-
  The law JsonDeep: its walk.
-/
import Derived.Test.YtljnbbdhmlfhjaaDoorJsLd
namespace Go.Proofs.YtljnbbdhmlfhjaaDoor
open Go.RowKit
/-- The first so many of the kinds; behind their end: arrays. -/
def bsOf (KS : List Bool) (i : Nat) : List Bool := (List.range i).map fun j => KS.getD j false
theorem bsOf_len (KS : List Bool) (i : Nat) : (bsOf KS i).length = i := by simp [bsOf]
theorem bsOf_succ (KS : List Bool) (i : Nat) : bsOf KS (i + 1) = bsOf KS i ++ [KS.getD i false] := by simp [bsOf, List.range_succ]
theorem nest_okW : ∀ (n : Nat) (bs : List Bool) (d : Nat), bs.length = n → d ≤ 16 → 16 < d + n → okW d (nestJ bs) = false := by
  intro n
  induction n with
  | zero => intro bs d _ h1 h2; omega
  | succ n ih =>
    intro bs d h h1 h2
    have hne : bs ≠ [] := by intro e; subst e; cases h
    obtain ⟨cs, b, rfl⟩ : ∃ cs b, bs = cs ++ [b] := ⟨_, _, (List.dropLast_concat_getLast hne).symm⟩
    have hl : cs.length = n := by simpa using h
    rw [nest_snoc]
    have e : okW d (wrapJ b (nestJ cs)) = (decide (d < 16) && okW (d + 1) (nestJ cs)) := by
      cases b
      · simp [wrapJ, okW, okWL]
      · simp only [wrapJ, if_true, okW, okWM, okWE, show Lib.validD [97] = true from by decide +kernel, Bool.true_and, Bool.and_true]
    rw [e]
    by_cases hd : d < 16
    · rw [ih cs (d + 1) hl (by omega) (by omega), Bool.and_false]
    · rw [decide_eq_false hd, Bool.false_and]
/-- The loop's state. -/
structure Nst (w1 wr : World) (KS : List Bool) (i : Nat) (s o : ByteArray) (v : Value) : Prop where
  form : s.data.toList = formJ (nestJ (bsOf KS i))
  opens : o.data.toList = (bsOf KS i).flatMap openB
  rep : RepJ wr (Nw w1.heap.size wr) (nestJ (bsOf KS i)) v
  bel : Below w1.heap.size w1 wr
theorem Nst.sizes {w1 wr : World} {KS : List Bool} {i : Nat} {s o : ByteArray} {v : Value} (h : Nst w1 wr KS i s o v) : s.size ≤ 6 * i + 1 ∧ o.size ≤ 5 * i := by
  obtain ⟨-, -, h3⟩ := nest_ok i (bsOf KS i) (bsOf_len KS i)
  rw [bsOf_len] at h3
  have h1 : s.size = s.data.toList.length := by simp [ByteArray.size_data]
  have h2 : o.size = o.data.toList.length := by simp [ByteArray.size_data]
  rw [h.form] at h1
  rw [h.opens] at h2
  have hlen : ∀ bs : List Bool, (bs.flatMap openB).length ≤ 5 * bs.length := by
    intro bs
    induction bs with
    | nil => exact Nat.le_refl _
    | cons b bs ih =>
      have : (openB b).length ≤ 5 := by cases b <;> decide
      simp only [List.flatMap_cons, List.length_append, List.length_cons]
      omega
  have := hlen (bsOf KS i)
  rw [bsOf_len] at this
  omega
theorem Nst.drew {w1 wr : World} {KS : List Bool} {i : Nat} {s o : ByteArray} {v : Value} (h : Nst w1 wr KS i s o v) {w2 : World} (hb : Below wr.heap.size wr w2) : Nst w1 w2 KS i s o v :=
  ⟨h.form, h.opens, RepJ.to (fun k hk => ⟨⟨hk.1, by have := hk.2; have := hb.size; omega⟩, fun hk2 => hb.block k hk2⟩) _ _ h.rep, h.bel.trans (hb.mono h.bel.size)⟩
theorem Nst.arr {w1 wr : World} {KS : List Bool} {i : Nat} {s o : ByteArray} {v : Value} (h : Nst w1 wr KS i s o v) (hk : KS.getD i false = false) :
    Nst w1 (wr.alloc (.cells #[v] 20)) KS (i + 1) (⟨#[91]⟩ ++ s ++ ⟨#[93]⟩) (o ++ ⟨#[91]⟩) (.iface 35 (.slice (some ⟨wr.heap.size, 0, none⟩) 1 1)) := by
  refine ⟨?_, ?_, ?_, belowAJ h.bel h.bel.size⟩
  · rw [bsOf_succ, hk, nest_snoc, wrap_form]
    simp [ByteArray.data_append, h.form]
  · rw [bsOf_succ, hk, open_snoc]
    simp [ByteArray.data_append, h.opens, openB]
  · rw [bsOf_succ, hk, nest_snoc]
    exact rep_arr h.bel.size h.rep
theorem Nst.obj {w1 wr : World} {KS : List Bool} {i : Nat} {s o : ByteArray} {v : Value} (h : Nst w1 wr KS i s o v) (hk : KS.getD i false = true) :
    Nst w1 (wr.alloc (.cells #[.string ⟨#[97]⟩, v] 32)) KS (i + 1) (⟨#[123, 34, 97, 34, 58]⟩ ++ s ++ ⟨#[125]⟩) (o ++ ⟨#[123, 34, 97, 34, 58]⟩) (.iface 34 (.slice (some ⟨wr.heap.size, 0, none⟩) 1 1)) := by
  refine ⟨?_, ?_, ?_, belowAJ h.bel h.bel.size⟩
  · rw [bsOf_succ, hk, nest_snoc, wrap_form]
    simp [ByteArray.data_append, h.form]
  · rw [bsOf_succ, hk, open_snoc]
    simp [ByteArray.data_append, h.opens, openB]
  · rw [bsOf_succ, hk, nest_snoc]
    exact rep_obj [97] h.bel.size h.rep
set_option maxRecDepth 100000 in
set_option maxHeartbeats 20000000 in
theorem deep_walk22 (v : Value) (KS : List Bool) (n : Int) (w : World) (hT : Tabs w) (hb : argRow w v KS.length 1 (KS.map .bool)) (hn : 0 ≤ n ∧ n ≤ 255) :
    Calls Tryd.prog 5 #[v, .int .u8 n] w fun e w' => e = .returned (.bool true) ∧ Below w.heap.size w w' := by
  have CA := law22_awake w hT
  have HT := Lib.hid hT
  have HB := Lib.hid (fun W (hW : Below w.heap.size w W) => argRow_below hb hW)
  obtain ⟨-, a, cap, rfl, -⟩ := hb
  obtain ⟨K, hK⟩ : ∃ K : Nat, n.tmod 20 = (K : Int) := ⟨(n.tmod 20).toNat, by rw [Int.tmod_eq_emod_of_nonneg hn.1]; omega⟩
  have hK2 : K ≤ 19 := by rw [Int.tmod_eq_emod_of_nonneg hn.1] at hK; omega
  obtain ⟨N, hN⟩ : ∃ N, KS.length = N := ⟨_, rfl⟩
  have HN := Lib.hid hN
  rw [hN] at HB ⊢
  have n0 := hn.1
  have n1 := hn.2
  clear hT hN hn
  go_enter Tryd.func5, Tryd.ntmps5
  go_upto_region 2 with (go_at_call 8; refine CA.mono ?_; rintro e w1 ⟨rfl, hb1⟩)
  have HB1 := Lib.hid hb1
  have HR1 := Lib.hid (fun W (hW : Below w1.heap.size w1 W) => HB.out W (hb1.trans (hW.mono hb1.size)))
  have HT1 := Lib.hid (fun W (hW : Below w1.heap.size w1 W) => Utf8Tabs_below HT.out (hb1.trans (hW.mono hb1.size)))
  clear hb1 HB HT CA
  go_upto_region 8 with fail
  go_loopw [6, 7, 8, 9] (fun sv vv ov iv wr => ∃ (i : Nat) (s o : ByteArray) (T : TypeId) (x : Value), iv = .int .i64 i ∧ i ≤ K ∧ sv = .string s ∧ ov = .string o ∧ vv = .iface T x ∧ Nst w1 wr KS i s o (.iface T x)) (fun _ _ _ iv _ => K - (intOf iv).toNat)
  case atStart => exact ⟨0, ⟨#[49]⟩, ⟨#[]⟩, _, _, rfl, by omega, rfl, rfl, rfl, rfl, rfl, rfl, Below.refl _ _⟩
  case round =>
    obtain ⟨i, s, o, T, x, rfl, hi, rfl, rfl, rfl, hst⟩ := hrel
    obtain ⟨hs1, hs2⟩ := hst.sizes
    have HST := Lib.hid hst
    clear hst
    by_cases hik : i < K
    · have d1 : decide ((i : Int) < (K : Int)) = true := decide_eq_true (by omega)
      have d1n : decide (i < K) = true := decide_eq_true hik
      by_cases hiN : i < N
      · have d2 : decide ((i : Int) < (N : Int)) = true := decide_eq_true (by omega)
        have d2n : decide (i < N) = true := decide_eq_true hiN
        have i1 : (0 : Int) ≤ (i : Int) := by omega
        have i2 : (i : Int) < (N : Int) := by omega
        obtain ⟨-, a0, c0, e0, hcl, hcm, hcell⟩ := HR1.out wr HST.out.bel
        cases e0
        obtain ⟨b0, off, rfl, hb0, hcell⟩ := hcell (by omega)
        have g0 := hcell i (by rw [List.length_map, HN.out]; exact hiN)
        rw [List.getElem_map] at g0
        have hkg : KS.getD i false = KS[i]'(by rw [HN.out]; exact hiN) := by
          rw [List.getD_eq_getElem?_getD, List.getElem?_eq_getElem (by rw [HN.out]; exact hiN)]
          rfl
        obtain ⟨q, hq⟩ : ∃ q, KS[i]'(by rw [HN.out]; exact hiN) = q := ⟨_, rfl⟩
        rw [hq] at hkg g0
        have HKG := Lib.hid hkg
        clear hcell hq hkg
        cases q with
        | false =>
          go_wp2_with fail
          go_roundw
          case rel => exact ⟨i + 1, _, _, _, _, by go_num, by omega, rfl, rfl, rfl, HST.out.arr HKG.out⟩
          case measure => simp [intOf]; omega
        | true =>
          go_wp2_with fail
          go_roundw
          case rel => exact ⟨i + 1, _, _, _, _, by go_num, by omega, rfl, rfl, rfl, HST.out.obj HKG.out⟩
          case measure => simp [intOf]; omega
      · have d2 : decide ((i : Int) < (N : Int)) = false := decide_eq_false (by omega)
        have d2n : decide (i < N) = false := decide_eq_false hiN
        have hkg : KS.getD i false = false := by
          have := HN.out
          rw [List.getD_eq_getElem?_getD, List.getElem?_eq_none (by omega)]
          rfl
        have HKG := Lib.hid hkg
        clear hkg
        go_wp2_with fail
        go_roundw
        case rel => exact ⟨i + 1, _, _, _, _, by go_num, by omega, rfl, rfl, rfl, HST.out.arr HKG.out⟩
        case measure => simp [intOf]; omega
    · have hiK : i = K := by omega
      subst hiK
      have d1 : decide ((i : Int) < (i : Int)) = false := decide_eq_false (by omega)
      have d1n : decide (i < i) = false := decide_eq_false hik
      obtain ⟨hok, hdeep, hlen⟩ := nest_ok i _ (bsOf_len KS i)
      rw [bsOf_len] at hdeep hlen
      obtain ⟨j, hj⟩ : ∃ j, nestJ (bsOf KS i) = j := ⟨_, rfl⟩
      have hokw := fun h => nest_okW i (bsOf KS i) 0 (bsOf_len KS i) (by omega) h
      have hform : s.data.toList = formJ j := by rw [HST.out.form, hj]
      have hopen : o.data.toList = (bsOf KS i).flatMap openB := HST.out.opens
      have hg6 : 0 < i → parseE ((bsOf KS i).flatMap openB ++ [49]) = 6 := fun h => opens_form _ (fun e => by have := bsOf_len KS i; rw [e] at this; simp at this; omega) (by rw [bsOf_len]; omega)
      rw [hj] at hok hdeep hlen hokw
      have hpf := parse_form hok (by omega)
      have HREP := Lib.hid (fun W (hW : Below wr.heap.size wr W) => (show RepJ W (Nw w1.heap.size W) j (.iface T x) from hj ▸ (HST.out.drew hW).rep))
      have HBEL := Lib.hid HST.out.bel
      obtain ⟨a1, c1, W1, hcv1, hrow1, hbW1⟩ := conv_bytesJ (src := 9) Tryd.underlying9 s (by omega) wr
      have CP1 := js_Parse _ s.data.toList W1 (HT1.out W1 (HST.out.bel.trans (hbW1.mono HST.out.bel.size))) hrow1
      rw [hform] at CP1
      obtain ⟨E1, hE1⟩ : ∃ E, parseE (formJ j) = E := ⟨_, rfl⟩
      have CP1' : Calls Tryd.prog 11 #[.slice a1 s.size c1] W1 fun e w' => ∃ v, e = .returned (.tuple #[v, .int .i64 E1]) ∧ Below W1.heap.size W1 w' := CP1.mono fun e w' ⟨v, h1, _, h3⟩ => ⟨v, by rw [← hE1]; exact h1, h3⟩
      have CW := Lib.hid (fun W (hW : Below wr.heap.size wr W) => js_Write j (nums_of j hok) (Nw w1.heap.size W) (.iface T x) W (HT1.out W (HBEL.out.trans (hW.mono HBEL.out.size))) (HREP.out W hW) (fun k hk => hk.2) (by omega))
      have ho1 : (o ++ ⟨#[49]⟩).data.toList = (bsOf KS i).flatMap openB ++ [49] := by simp [ByteArray.data_append, hopen]
      have ho2 : (o ++ ⟨#[49]⟩).size ≤ 96 := by
        rw [ByteArray.size_append, show (⟨#[49]⟩ : ByteArray).size = 1 from rfl]
        omega
      have CV3 := Lib.hid (fun W => conv_bytesJ (src := 9) Tryd.underlying9 (o ++ ⟨#[49]⟩) (by omega) W)
      obtain ⟨E3, hE3⟩ : ∃ E, parseE ((bsOf KS i).flatMap openB ++ [49]) = E := ⟨_, rfl⟩
      rw [hE3] at hg6
      have CP3 := Lib.hid (fun W va vc (hW : Below wr.heap.size wr W) (hr : argRow W (.slice va (o ++ ⟨#[49]⟩).size vc) (o ++ ⟨#[49]⟩).data.toList.length 1 ((o ++ ⟨#[49]⟩).data.toList.map bCell)) =>
        ((js_Parse _ _ W (HT1.out W (HBEL.out.trans (hW.mono HBEL.out.size))) hr).mono (fun e w' ⟨v, h1, _, h3⟩ => ⟨v, by rw [ho1, hE3] at h1; exact h1, h3⟩) : Calls Tryd.prog 11 #[.slice va (o ++ ⟨#[49]⟩).size vc] W fun e w' => ∃ v, e = .returned (.tuple #[v, .int .i64 E3]) ∧ Below W.heap.size W w'))
      obtain ⟨O, hO⟩ : ∃ O, o ++ ⟨#[49]⟩ = O := ⟨_, rfl⟩
      rw [hO] at CV3 CP3 ho2
      rw [hE1] at hpf
      have hfs : (formJ j == s.toList) = true := by rw [beq_iff_eq, ByteArray.toList_eq, hform]
      have hok16 : i ≤ 16 → okW 0 j = true := fun h => okW_of j 0 hok (by omega)
      have hb0 := hbW1
      clear CP1 hrow1 hE1 hE3 hform hopen ho1 hok hj hlen HREP
      by_cases h16 : i ≤ 16
      · obtain ⟨rfl, -, -⟩ := hpf.1 (by omega)
        have ho := hok16 h16
        have CW2 := Lib.hid (fun W (hW : Below wr.heap.size wr W) => ((CW.out W hW).mono (fun e w' ⟨hb, hres⟩ => by
          rw [if_pos ho] at hres
          obtain ⟨v3, h1, h2⟩ := hres
          have h2' := h2
          obtain ⟨_, a3, c3, rfl, -⟩ := h2
          exact ⟨a3, c3, h1, h2', hb⟩) : Calls Tryd.prog 12 #[.iface T x] W fun e w' => ∃ a3 c3, e = .returned (.tuple #[.slice a3 (formJ j).length c3, .int .i64 0]) ∧ argRow w' (.slice a3 (formJ j).length c3) (formJ j).length 1 ((formJ j).map bCell) ∧ Below W.heap.size W w'))
        obtain ⟨F, hF⟩ : ∃ F, formJ j = F := ⟨_, rfl⟩
        rw [hF] at CW2 hfs
        have g1 : decide ((16 : Int) < (i : Int)) = false := decide_eq_false (by omega)
        clear hok16 hokw hpf ho CW hF hdeep
        go_upto_region 18 with (go_at_call 11; refine CP1'.mono ?_; rintro e w2 ⟨v2, rfl, hb2⟩)
        have hbw2 : Below wr.heap.size wr w2 := hbW1.trans (hb2.mono hbW1.size)
        have CW3 := CW2.out w2 hbw2
        clear CW2 CP1' hcv1
        go_upto_region 19 with (go_at_call 12; refine CW3.mono ?_; rintro e w3 ⟨a3, c3, rfl, hrow3, hb3⟩)
        have hbw3 : Below wr.heap.size wr w3 := hbw2.trans (hb3.mono hbw2.size)
        obtain ⟨a4, c4, W4, hcv4, hrow4, hbW4⟩ := CV3.out w3
        have CP4 := CP3.out W4 a4 c4 (hbw3.trans (hbW4.mono hbw3.size)) hrow4
        have HR3 := Lib.hid hrow3
        clear hrow3 hrow4 CP3 CV3
        go_upto_region 20 with (go_at_call 11; refine CP4.mono ?_; rintro e w5 ⟨v5, rfl, hb5⟩)
        have hb35 : Below w3.heap.size w3 w5 := hbW4.trans (hb5.mono hbW4.size)
        have hcv := conv_arg (argRow_below HR3.out hb35)
        have HEND := Lib.hid (HB1.out.trans ((HBEL.out.trans ((hbw3.trans (hb35.mono hbw3.size)).mono HBEL.out.size)).mono HB1.out.size))
        clear hb35 hb5 CP4 hbw3 hbw2 hb3 hb2 hbW1 hb0 hbW4 hcv4
        by_cases hi0 : i = 0
        · subst hi0
          go_wp2
          go_ret
          exact ⟨rfl, HEND.out⟩
        · obtain rfl : E3 = 6 := hg6 (by omega)
          have g0 : decide ((0 : Int) < (i : Int)) = true := decide_eq_true (by omega)
          go_wp2
          go_ret
          exact ⟨rfl, HEND.out⟩
      · obtain ⟨rfl, -⟩ := hpf.2 (by omega)
        have ho := hokw (by omega)
        have CW2 := Lib.hid (fun W (hW : Below wr.heap.size wr W) => ((CW.out W hW).mono (fun e w' ⟨hb, hres⟩ => by
          rw [if_neg (by rw [ho]; exact Bool.false_ne_true)] at hres
          exact ⟨hres, hb⟩) : Calls Tryd.prog 12 #[.iface T x] W fun e w' => e = .returned (.tuple #[.slice none 0 0, .int .i64 1]) ∧ Below W.heap.size W w'))
        have g1 : decide ((16 : Int) < (i : Int)) = true := decide_eq_true (by omega)
        obtain rfl : E3 = 6 := hg6 (by omega)
        have g0 : decide ((0 : Int) < (i : Int)) = true := decide_eq_true (by omega)
        clear hok16 hokw hpf ho CW hdeep hfs hg6
        go_upto_region 18 with (go_at_call 11; refine CP1'.mono ?_; rintro e w2 ⟨v2, rfl, hb2⟩)
        have hbw2 : Below wr.heap.size wr w2 := hbW1.trans (hb2.mono hbW1.size)
        have CW3 := CW2.out w2 hbw2
        clear CW2 CP1' hcv1
        go_upto_region 19 with (go_at_call 12; refine CW3.mono ?_; rintro e w3 ⟨rfl, hb3⟩)
        have hbw3 : Below wr.heap.size wr w3 := hbw2.trans (hb3.mono hbw2.size)
        obtain ⟨a4, c4, W4, hcv4, hrow4, hbW4⟩ := CV3.out w3
        have CP4 := CP3.out W4 a4 c4 (hbw3.trans (hbW4.mono hbw3.size)) hrow4
        clear hrow4 CP3 CV3
        go_upto_region 20 with (go_at_call 11; refine CP4.mono ?_; rintro e w5 ⟨v5, rfl, hb5⟩)
        have hb35 : Below w3.heap.size w3 w5 := hbW4.trans (hb5.mono hbW4.size)
        have HEND := Lib.hid (HB1.out.trans ((HBEL.out.trans ((hbw3.trans (hb35.mono hbw3.size)).mono HBEL.out.size)).mono HB1.out.size))
        clear hb35 hb5 CP4 hbw3 hbw2 hb3 hb2 hbW1 hb0 hbW4 hcv4
        go_wp2
        go_ret
        exact ⟨rfl, HEND.out⟩
end Go.Proofs.YtljnbbdhmlfhjaaDoor
