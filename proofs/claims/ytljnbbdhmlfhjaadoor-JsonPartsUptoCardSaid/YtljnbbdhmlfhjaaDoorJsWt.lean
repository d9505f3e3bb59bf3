/-
  json.writer: text.
-/
import Derived.Test.YtljnbbdhmlfhjaaDoorJsWs
import Derived.Test.YtljnbbdhmlfhjaaDoorJsQt
namespace Go.Proofs.YtljnbbdhmlfhjaaDoor
open Go.RowKit
def setJ : Bs := [34, 92, 8, 12, 10, 13, 9]
theorem idx_no : ∀ n, n < 256 → UInt8.ofNat n ∉ setJ → Lib.indexByte setJ (UInt8.ofNat n) = -1 := by decide +kernel
theorem idx_none {c : UInt8} (h : c ∉ setJ) : Lib.indexByte setJ c = -1 := by
  have := idx_no c.toNat c.toNat_lt (by rw [UInt8.ofNat_toNat]; exact h)
  rwa [UInt8.ofNat_toNat] at this
theorem escS_snoc (s : Bs) (c : UInt8) : escS (s ++ [c]) = escS s ++ escB c := by simp [escS]
theorem cell_byte (c : UInt8) : ((c.toNat : Int).toNat.toUInt8) = c := by simp
/-- One more byte is written. -/
theorem quote_step {B q : Nat} {out l l' x y : Bs} {bad : Bool} {c : UInt8} {w : World} (htk : l' = l ++ [c]) (hx : escB c = x ++ y) (h : WSt B q ((out ++ 34 :: escS l ++ x) ++ y) bad w) : WSt B q (out ++ 34 :: escS l') bad w := by
  have e : out ++ 34 :: escS l' = (out ++ 34 :: escS l ++ x) ++ y := by rw [htk, escS_snoc, hx]; simp
  rw [e]
  exact h
set_option maxRecDepth 100000 in
set_option maxHeartbeats 20000000 in
theorem w_quote (B q : Nat) (out : Bs) (bad : Bool) (s : ByteArray) (w : World) (h : WSt B q out bad w) (hT : Tabs w) (hl : out.length + 6 * s.size + 2 ≤ 70368744177664) :
    Calls Tryd.prog 46 #[.pointer (some ⟨q, 0, none⟩), .string s] w fun e w' => e = .returned (.tuple #[]) ∧ WSt B q (out ++ quote s.data.toList) (bad || !Lib.validD s.data.toList) w' ∧ Went B q w w' := by
  have CV := utf_Valid s w (by unfold maxLen; omega) hT
  obtain ⟨V, hV⟩ : ∃ V, Lib.validD s.data.toList = V := ⟨_, rfl⟩
  rw [hV] at CV ⊢
  have HW := Lib.hid h
  have hsz := h.size
  obtain ⟨pv, v, hp, hat⟩ := h
  obtain ⟨⟨-, -, c2⟩, hfz⟩ := hat.cells
  have f2 := hfz 2
  clear hp hat hfz hV hT
  go_enter Tryd.func46, Tryd.ntmps46
  go_upto_region 0 with fail
  go_cut [] from 7 to 18 (fun wx => WSt B q out (bad || !V) wx ∧ Went B q w wx)
  case first =>
    cases bad with
    | true =>
      go_wp2_with fail
      go_meet
      exact HW.out.setBad true
    | false =>
      have HSB := Lib.hid (fun W (hb : Below w.heap.size w W) b => (HW.out.keptB hb).setBad b)
      have HC := Lib.hid (fun W (hb : Below w.heap.size w W) => (show W.cell? ⟨q, 2, none⟩ = some (.bool false) ∧ W.frozen? ⟨q, 2, none⟩ = false from by
        obtain ⟨_, _, _, ha⟩ := HW.out.keptB hb
        exact ⟨ha.cells.1.2.2, ha.cells.2 2⟩))
      go_wp2_with (go_at_call 13; refine CV.mono ?_; rintro e w2 ⟨rfl, hb2⟩; obtain ⟨d2, g2⟩ := HC.out w2 hb2)
      go_meet
      have hh := HSB.out w2 hb2 (!V)
      exact ⟨by rw [Bool.false_or]; exact hh.1, (Went.below hb2 hsz).trans hh.2⟩
  case rest =>
    obtain ⟨hw1, hg1⟩ := hcut
    have CB := w_byte B q out (bad || !V) 34 34 rfl wc hw1 (by omega)
    have HG1 := Lib.hid hg1
    have HT0 := Lib.hid hl
    clear c2 f2 HW CV hw1 hg1 hl
    go_upto_region 3 with (go_at_call 50; refine CB.mono ?_; rintro e w2 ⟨rfl, hw2, hg2⟩; have H2 := Lib.hid (And.intro hw2 hg2); clear hw2 hg2)
    go_loopw [25] (fun iv wr => ∃ k : Nat, iv = .int .i64 k ∧ k ≤ s.size ∧ WSt B q (out ++ 34 :: escS (s.data.toList.take k)) (bad || !V) wr ∧ Went B q w wr) (fun iv _ => s.size - (intOf iv).toNat)
    case atStart => exact ⟨0, rfl, by omega, H2.out.1, HG1.out.trans H2.out.2⟩
    case round =>
      obtain ⟨k, rfl, hk, hwr, hgr⟩ := hrel
      have hlen : (out ++ 34 :: escS (s.data.toList.take k)).length + 7 ≤ 140737488355328 := by
        have h1 := escS_len (s.data.toList.take k)
        have h2 : (s.data.toList.take k).length ≤ k := by rw [List.length_take]; omega
        have h3 := HT0.out
        simp only [List.length_append, List.length_cons]
        omega
      have HLEN := Lib.hid hlen
      have H := Lib.hid (And.intro hwr hgr)
      clear hwr hgr hlen CB H2
      have hsb : s.size ≤ 70368744177664 := by have := HT0.out; omega
      by_cases hks : k < s.size
      · have htk : s.data.toList.take (k + 1) = s.data.toList.take k ++ [s[k]] := by
          have hl : k < s.data.toList.length := by simpa [ByteArray.size_data] using hks
          rw [List.take_succ_eq_append_getElem hl]
          rfl
        go_upto_region 6 with fail
        generalize s[k] = c at *
        have HTK := Lib.hid htk
        clear htk
        by_cases hsp : c ∈ setJ
        · simp only [setJ, List.mem_cons, List.not_mem_nil, or_false] at hsp
          rcases hsp with rfl | rfl | rfl | rfl | rfl | rfl | rfl
          · have CI : Calls Tryd.prog 64 #[.string ⟨#[34, 92, 8, 12, 10, 13, 9]⟩, .int .u8 34] wr fun e w' => e = .returned (.int .i64 0) ∧ w' = wr := Tryd.strings_IndexByte ⟨#[34, 92, 8, 12, 10, 13, 9]⟩ 34 wr
            have C1 := w_byte B q _ (bad || !V) 92 92 rfl wr H.out.1 (by have := HLEN.out; simp only [List.length_append, List.length_cons] at this ⊢; omega)
            go_upto_region 10 with (first | (go_at_call 64; refine CI.mono ?_; rintro e w2 ⟨rfl, rfl⟩) | (go_at_call 50; refine C1.mono ?_; rintro e w3 ⟨rfl, hw3, hg3⟩; have H3 := Lib.hid (And.intro hw3 hg3); clear hw3 hg3))
            have hdr : Below w3.heap.size w3 w3.drew := (Below.refl _ _).drew
            have C2 := w_byte B q _ (bad || !V) 34 34 rfl w3.drew (H3.out.1.keptB hdr) (by have := HLEN.out; simp only [List.length_append, List.length_cons, List.length_nil] at this ⊢; omega)
            have HG2 := Lib.hid (Went.below (q := q) hdr H3.out.1.size)
            clear hdr C1 CI
            refine wp_region_tailJ 5 (by kernel_rfl) (by kernel_rfl) ?_
            simp only [List.take_succ_cons, List.take_zero, List.drop_succ_cons, List.drop_zero]
            repeat (go_big_quiet_step (fail))
            refine wpQuiet_nil ?_
            change wpList _ _ _ _ _ w3.drew
            go_wp2_with (go_at_call 50; refine C2.mono ?_; rintro e w4 ⟨rfl, hw4, hg4⟩; have H4 := Lib.hid (And.intro hw4 hg4); clear hw4 hg4)
            go_roundw
            case rel => exact ⟨k + 1, by go_num, by omega, quote_step HTK.out rfl H4.out.1, H.out.2.trans (H3.out.2.trans (HG2.out.trans H4.out.2))⟩
            case measure => simp [intOf]; omega
          · have CI : Calls Tryd.prog 64 #[.string ⟨#[34, 92, 8, 12, 10, 13, 9]⟩, .int .u8 92] wr fun e w' => e = .returned (.int .i64 1) ∧ w' = wr := Tryd.strings_IndexByte ⟨#[34, 92, 8, 12, 10, 13, 9]⟩ 92 wr
            have C1 := w_byte B q _ (bad || !V) 92 92 rfl wr H.out.1 (by have := HLEN.out; simp only [List.length_append, List.length_cons] at this ⊢; omega)
            go_upto_region 10 with (first | (go_at_call 64; refine CI.mono ?_; rintro e w2 ⟨rfl, rfl⟩) | (go_at_call 50; refine C1.mono ?_; rintro e w3 ⟨rfl, hw3, hg3⟩; have H3 := Lib.hid (And.intro hw3 hg3); clear hw3 hg3))
            have hdr : Below w3.heap.size w3 w3.drew := (Below.refl _ _).drew
            have C2 := w_byte B q _ (bad || !V) 92 92 rfl w3.drew (H3.out.1.keptB hdr) (by have := HLEN.out; simp only [List.length_append, List.length_cons, List.length_nil] at this ⊢; omega)
            have HG2 := Lib.hid (Went.below (q := q) hdr H3.out.1.size)
            clear hdr C1 CI
            refine wp_region_tailJ 5 (by kernel_rfl) (by kernel_rfl) ?_
            simp only [List.take_succ_cons, List.take_zero, List.drop_succ_cons, List.drop_zero]
            repeat (go_big_quiet_step (fail))
            refine wpQuiet_nil ?_
            change wpList _ _ _ _ _ w3.drew
            go_wp2_with (go_at_call 50; refine C2.mono ?_; rintro e w4 ⟨rfl, hw4, hg4⟩; have H4 := Lib.hid (And.intro hw4 hg4); clear hw4 hg4)
            go_roundw
            case rel => exact ⟨k + 1, by go_num, by omega, quote_step HTK.out rfl H4.out.1, H.out.2.trans (H3.out.2.trans (HG2.out.trans H4.out.2))⟩
            case measure => simp [intOf]; omega
          · have CI : Calls Tryd.prog 64 #[.string ⟨#[34, 92, 8, 12, 10, 13, 9]⟩, .int .u8 8] wr fun e w' => e = .returned (.int .i64 2) ∧ w' = wr := Tryd.strings_IndexByte ⟨#[34, 92, 8, 12, 10, 13, 9]⟩ 8 wr
            have C1 := w_byte B q _ (bad || !V) 92 92 rfl wr H.out.1 (by have := HLEN.out; simp only [List.length_append, List.length_cons] at this ⊢; omega)
            go_upto_region 10 with (first | (go_at_call 64; refine CI.mono ?_; rintro e w2 ⟨rfl, rfl⟩) | (go_at_call 50; refine C1.mono ?_; rintro e w3 ⟨rfl, hw3, hg3⟩; have H3 := Lib.hid (And.intro hw3 hg3); clear hw3 hg3))
            have hdr : Below w3.heap.size w3 w3.drew := (Below.refl _ _).drew
            have C2 := w_byte B q _ (bad || !V) 98 98 rfl w3.drew (H3.out.1.keptB hdr) (by have := HLEN.out; simp only [List.length_append, List.length_cons, List.length_nil] at this ⊢; omega)
            have HG2 := Lib.hid (Went.below (q := q) hdr H3.out.1.size)
            clear hdr C1 CI
            refine wp_region_tailJ 5 (by kernel_rfl) (by kernel_rfl) ?_
            simp only [List.take_succ_cons, List.take_zero, List.drop_succ_cons, List.drop_zero]
            repeat (go_big_quiet_step (fail))
            refine wpQuiet_nil ?_
            change wpList _ _ _ _ _ w3.drew
            go_wp2_with (go_at_call 50; refine C2.mono ?_; rintro e w4 ⟨rfl, hw4, hg4⟩; have H4 := Lib.hid (And.intro hw4 hg4); clear hw4 hg4)
            go_roundw
            case rel => exact ⟨k + 1, by go_num, by omega, quote_step HTK.out rfl H4.out.1, H.out.2.trans (H3.out.2.trans (HG2.out.trans H4.out.2))⟩
            case measure => simp [intOf]; omega
          · have CI : Calls Tryd.prog 64 #[.string ⟨#[34, 92, 8, 12, 10, 13, 9]⟩, .int .u8 12] wr fun e w' => e = .returned (.int .i64 3) ∧ w' = wr := Tryd.strings_IndexByte ⟨#[34, 92, 8, 12, 10, 13, 9]⟩ 12 wr
            have C1 := w_byte B q _ (bad || !V) 92 92 rfl wr H.out.1 (by have := HLEN.out; simp only [List.length_append, List.length_cons] at this ⊢; omega)
            go_upto_region 10 with (first | (go_at_call 64; refine CI.mono ?_; rintro e w2 ⟨rfl, rfl⟩) | (go_at_call 50; refine C1.mono ?_; rintro e w3 ⟨rfl, hw3, hg3⟩; have H3 := Lib.hid (And.intro hw3 hg3); clear hw3 hg3))
            have hdr : Below w3.heap.size w3 w3.drew := (Below.refl _ _).drew
            have C2 := w_byte B q _ (bad || !V) 102 102 rfl w3.drew (H3.out.1.keptB hdr) (by have := HLEN.out; simp only [List.length_append, List.length_cons, List.length_nil] at this ⊢; omega)
            have HG2 := Lib.hid (Went.below (q := q) hdr H3.out.1.size)
            clear hdr C1 CI
            refine wp_region_tailJ 5 (by kernel_rfl) (by kernel_rfl) ?_
            simp only [List.take_succ_cons, List.take_zero, List.drop_succ_cons, List.drop_zero]
            repeat (go_big_quiet_step (fail))
            refine wpQuiet_nil ?_
            change wpList _ _ _ _ _ w3.drew
            go_wp2_with (go_at_call 50; refine C2.mono ?_; rintro e w4 ⟨rfl, hw4, hg4⟩; have H4 := Lib.hid (And.intro hw4 hg4); clear hw4 hg4)
            go_roundw
            case rel => exact ⟨k + 1, by go_num, by omega, quote_step HTK.out rfl H4.out.1, H.out.2.trans (H3.out.2.trans (HG2.out.trans H4.out.2))⟩
            case measure => simp [intOf]; omega
          · have CI : Calls Tryd.prog 64 #[.string ⟨#[34, 92, 8, 12, 10, 13, 9]⟩, .int .u8 10] wr fun e w' => e = .returned (.int .i64 4) ∧ w' = wr := Tryd.strings_IndexByte ⟨#[34, 92, 8, 12, 10, 13, 9]⟩ 10 wr
            have C1 := w_byte B q _ (bad || !V) 92 92 rfl wr H.out.1 (by have := HLEN.out; simp only [List.length_append, List.length_cons] at this ⊢; omega)
            go_upto_region 10 with (first | (go_at_call 64; refine CI.mono ?_; rintro e w2 ⟨rfl, rfl⟩) | (go_at_call 50; refine C1.mono ?_; rintro e w3 ⟨rfl, hw3, hg3⟩; have H3 := Lib.hid (And.intro hw3 hg3); clear hw3 hg3))
            have hdr : Below w3.heap.size w3 w3.drew := (Below.refl _ _).drew
            have C2 := w_byte B q _ (bad || !V) 110 110 rfl w3.drew (H3.out.1.keptB hdr) (by have := HLEN.out; simp only [List.length_append, List.length_cons, List.length_nil] at this ⊢; omega)
            have HG2 := Lib.hid (Went.below (q := q) hdr H3.out.1.size)
            clear hdr C1 CI
            refine wp_region_tailJ 5 (by kernel_rfl) (by kernel_rfl) ?_
            simp only [List.take_succ_cons, List.take_zero, List.drop_succ_cons, List.drop_zero]
            repeat (go_big_quiet_step (fail))
            refine wpQuiet_nil ?_
            change wpList _ _ _ _ _ w3.drew
            go_wp2_with (go_at_call 50; refine C2.mono ?_; rintro e w4 ⟨rfl, hw4, hg4⟩; have H4 := Lib.hid (And.intro hw4 hg4); clear hw4 hg4)
            go_roundw
            case rel => exact ⟨k + 1, by go_num, by omega, quote_step HTK.out rfl H4.out.1, H.out.2.trans (H3.out.2.trans (HG2.out.trans H4.out.2))⟩
            case measure => simp [intOf]; omega
          · have CI : Calls Tryd.prog 64 #[.string ⟨#[34, 92, 8, 12, 10, 13, 9]⟩, .int .u8 13] wr fun e w' => e = .returned (.int .i64 5) ∧ w' = wr := Tryd.strings_IndexByte ⟨#[34, 92, 8, 12, 10, 13, 9]⟩ 13 wr
            have C1 := w_byte B q _ (bad || !V) 92 92 rfl wr H.out.1 (by have := HLEN.out; simp only [List.length_append, List.length_cons] at this ⊢; omega)
            go_upto_region 10 with (first | (go_at_call 64; refine CI.mono ?_; rintro e w2 ⟨rfl, rfl⟩) | (go_at_call 50; refine C1.mono ?_; rintro e w3 ⟨rfl, hw3, hg3⟩; have H3 := Lib.hid (And.intro hw3 hg3); clear hw3 hg3))
            have hdr : Below w3.heap.size w3 w3.drew := (Below.refl _ _).drew
            have C2 := w_byte B q _ (bad || !V) 114 114 rfl w3.drew (H3.out.1.keptB hdr) (by have := HLEN.out; simp only [List.length_append, List.length_cons, List.length_nil] at this ⊢; omega)
            have HG2 := Lib.hid (Went.below (q := q) hdr H3.out.1.size)
            clear hdr C1 CI
            refine wp_region_tailJ 5 (by kernel_rfl) (by kernel_rfl) ?_
            simp only [List.take_succ_cons, List.take_zero, List.drop_succ_cons, List.drop_zero]
            repeat (go_big_quiet_step (fail))
            refine wpQuiet_nil ?_
            change wpList _ _ _ _ _ w3.drew
            go_wp2_with (go_at_call 50; refine C2.mono ?_; rintro e w4 ⟨rfl, hw4, hg4⟩; have H4 := Lib.hid (And.intro hw4 hg4); clear hw4 hg4)
            go_roundw
            case rel => exact ⟨k + 1, by go_num, by omega, quote_step HTK.out rfl H4.out.1, H.out.2.trans (H3.out.2.trans (HG2.out.trans H4.out.2))⟩
            case measure => simp [intOf]; omega
          · have CI : Calls Tryd.prog 64 #[.string ⟨#[34, 92, 8, 12, 10, 13, 9]⟩, .int .u8 9] wr fun e w' => e = .returned (.int .i64 6) ∧ w' = wr := Tryd.strings_IndexByte ⟨#[34, 92, 8, 12, 10, 13, 9]⟩ 9 wr
            have C1 := w_byte B q _ (bad || !V) 92 92 rfl wr H.out.1 (by have := HLEN.out; simp only [List.length_append, List.length_cons] at this ⊢; omega)
            go_upto_region 10 with (first | (go_at_call 64; refine CI.mono ?_; rintro e w2 ⟨rfl, rfl⟩) | (go_at_call 50; refine C1.mono ?_; rintro e w3 ⟨rfl, hw3, hg3⟩; have H3 := Lib.hid (And.intro hw3 hg3); clear hw3 hg3))
            have hdr : Below w3.heap.size w3 w3.drew := (Below.refl _ _).drew
            have C2 := w_byte B q _ (bad || !V) 116 116 rfl w3.drew (H3.out.1.keptB hdr) (by have := HLEN.out; simp only [List.length_append, List.length_cons, List.length_nil] at this ⊢; omega)
            have HG2 := Lib.hid (Went.below (q := q) hdr H3.out.1.size)
            clear hdr C1 CI
            refine wp_region_tailJ 5 (by kernel_rfl) (by kernel_rfl) ?_
            simp only [List.take_succ_cons, List.take_zero, List.drop_succ_cons, List.drop_zero]
            repeat (go_big_quiet_step (fail))
            refine wpQuiet_nil ?_
            change wpList _ _ _ _ _ w3.drew
            go_wp2_with (go_at_call 50; refine C2.mono ?_; rintro e w4 ⟨rfl, hw4, hg4⟩; have H4 := Lib.hid (And.intro hw4 hg4); clear hw4 hg4)
            go_roundw
            case rel => exact ⟨k + 1, by go_num, by omega, quote_step HTK.out rfl H4.out.1, H.out.2.trans (H3.out.2.trans (HG2.out.trans H4.out.2))⟩
            case measure => simp [intOf]; omega
        · have HCI := Lib.hid (fun W => (by
            have h := Tryd.strings_IndexByte ⟨#[34, 92, 8, 12, 10, 13, 9]⟩ (c.toNat : Int) W
            rw [cell_byte, show (⟨#[34, 92, 8, 12, 10, 13, 9]⟩ : ByteArray).data.toList = setJ from rfl, idx_none hsp] at h
            exact h : Calls Tryd.prog 64 #[.string ⟨#[34, 92, 8, 12, 10, 13, 9]⟩, .int .u8 (c.toNat : Int)] W fun e w' => e = .returned (.int .i64 (-1)) ∧ w' = W))
          have CI := HCI.out wr
          have hns : ¬ (c = 34 ∨ c = 92) ∧ c ≠ 8 ∧ c ≠ 12 ∧ c ≠ 10 ∧ c ≠ 13 ∧ c ≠ 9 := by
            simp only [setJ, List.mem_cons, List.not_mem_nil, or_false, not_or] at hsp
            obtain ⟨a1, a2, a3, a4, a5, a6, a7⟩ := hsp
            exact ⟨by simp [a1, a2], a3, a4, a5, a6, a7⟩
          have HNS := Lib.hid hns
          clear hsp hns HCI
          by_cases h32 : c.toNat < 32
          · have hne : ∀ d : UInt8, c ≠ d → c.toNat ≠ d.toNat := fun d hd e => hd (UInt8.toNat_inj.1 e)
            have n1 : c.toNat ≠ 8 := hne 8 HNS.out.2.1
            have n2 : c.toNat ≠ 12 := hne 12 HNS.out.2.2.1
            have n3 : c.toNat ≠ 10 := hne 10 HNS.out.2.2.2.1
            have n4 : c.toNat ≠ 13 := hne 13 HNS.out.2.2.2.2.1
            have n5 : c.toNat ≠ 9 := hne 9 HNS.out.2.2.2.2.2
            have hesc : escB c = ([92, 117, 48, 48] ++ [hexD (c.toNat / 16)]) ++ [hexD (c.toNat % 16)] := by
              unfold escB
              rw [if_neg HNS.out.1, if_neg HNS.out.2.1, if_neg HNS.out.2.2.1, if_neg HNS.out.2.2.2.1, if_neg HNS.out.2.2.2.2.1, if_neg HNS.out.2.2.2.2.2, if_pos h32]
              rfl
            have HE := Lib.hid hesc
            have CI2 : ∀ z : Int, z = (c.toNat : Int) → Calls Tryd.prog 64 #[.string ⟨#[34, 92, 8, 12, 10, 13, 9]⟩, .int .u8 z] wr fun e w' => e = .returned (.int .i64 (-1)) ∧ w' = wr := fun z hz => by rw [hz]; exact CI
            have C1 := w_string B q _ (bad || !V) ⟨#[92, 117, 48, 48]⟩ wr H.out.1 (by have := HLEN.out; show _ + 4 ≤ _; simp only [List.length_append, List.length_cons] at this ⊢; omega)
            have C2 := Lib.hid (fun (W : World) (z : Int) (hz : z = ((hexD (c.toNat / 16)).toNat : Int)) (hW : WSt B q (out ++ 34 :: escS (s.data.toList.take k) ++ [92, 117, 48, 48]) (bad || !V) W) => w_byte B q _ (bad || !V) (hexD (c.toNat / 16)) z hz W hW (by have := HLEN.out; simp only [List.length_append, List.length_cons, List.length_nil] at this ⊢; omega))
            have C3 := Lib.hid (fun (W : World) (z : Int) (hz : z = ((hexD (c.toNat % 16)).toNat : Int)) (hW : WSt B q ((out ++ 34 :: escS (s.data.toList.take k) ++ [92, 117, 48, 48]) ++ [hexD (c.toNat / 16)]) (bad || !V) W) => w_byte B q _ (bad || !V) (hexD (c.toNat % 16)) z hz W hW (by have := HLEN.out; simp only [List.length_append, List.length_cons, List.length_nil] at this ⊢; omega))
            have hv : c.toNat = 0 ∨ c.toNat = 1 ∨ c.toNat = 2 ∨ c.toNat = 3 ∨ c.toNat = 4 ∨ c.toNat = 5 ∨ c.toNat = 6 ∨ c.toNat = 7 ∨ c.toNat = 11 ∨ c.toNat = 14 ∨ c.toNat = 15 ∨ c.toNat = 16 ∨ c.toNat = 17 ∨ c.toNat = 18 ∨ c.toNat = 19 ∨ c.toNat = 20 ∨ c.toNat = 21 ∨ c.toNat = 22 ∨ c.toNat = 23 ∨ c.toNat = 24 ∨ c.toNat = 25 ∨ c.toNat = 26 ∨ c.toNat = 27 ∨ c.toNat = 28 ∨ c.toNat = 29 ∨ c.toNat = 30 ∨ c.toNat = 31 := by omega
            clear CI hesc hne n1 n2 n3 n4 n5 h32
            rcases hv with hc | hc | hc | hc | hc | hc | hc | hc | hc | hc | hc | hc | hc | hc | hc | hc | hc | hc | hc | hc | hc | hc | hc | hc | hc | hc | hc
            all_goals
              rw [hc] at CI2 C2 C3
              rw [hc]
              go_upto_region 13 with (first | (go_at_call 64; refine (CI2 _ (by first | rfl | decide)).mono ?_; rintro e w2 ⟨rfl, rfl⟩) | (go_at_call 44; refine C1.mono ?_; rintro e w3 ⟨rfl, hw3, hg3⟩; have H3 := Lib.hid (And.intro hw3 hg3); clear hw3 hg3))
              have hdr : Below w3.heap.size w3 w3.drew := (Below.refl _ _).drew
              have K3 := Lib.hid (H3.out.1.keptB hdr)
              have HG3 := Lib.hid (Went.below (q := q) hdr H3.out.1.size)
              clear hdr C1 CI2
              refine wp_region_tailJ 6 (by kernel_rfl) (by kernel_rfl) ?_
              simp only [List.take_succ_cons, List.take_zero, List.drop_succ_cons, List.drop_zero]
              repeat (go_big_quiet_step (fail))
              refine wpQuiet_nil ?_
              change wpList _ _ _ _ _ w3.drew
              go_upto_region 14 with (go_at_call 50; refine (C2.out w3.drew _ (by first | rfl | decide) K3.out).mono ?_; rintro e w4 ⟨rfl, hw4, hg4⟩; have H4 := Lib.hid (And.intro hw4 hg4); clear hw4 hg4)
              have hdr : Below w4.heap.size w4 w4.drew := (Below.refl _ _).drew
              have K4 := Lib.hid (H4.out.1.keptB hdr)
              have HG4 := Lib.hid (Went.below (q := q) hdr H4.out.1.size)
              clear hdr C2 K3
              refine wp_region_tailJ 6 (by kernel_rfl) (by kernel_rfl) ?_
              simp only [List.take_succ_cons, List.take_zero, List.drop_succ_cons, List.drop_zero]
              repeat (go_big_quiet_step (fail))
              refine wpQuiet_nil ?_
              change wpList _ _ _ _ _ w4.drew
              go_wp2_with (go_at_call 50; refine (C3.out w4.drew _ (by first | rfl | decide) K4.out).mono ?_; rintro e w5 ⟨rfl, hw5, hg5⟩; have H5 := Lib.hid (And.intro hw5 hg5); clear hw5 hg5)
              go_roundw
              case rel => exact ⟨k + 1, by go_num, by omega, quote_step HTK.out HE.out (by rw [hc]; have h5 := H5.out.1; simpa only [List.append_assoc] using h5), H.out.2.trans (H3.out.2.trans (HG3.out.trans (H4.out.2.trans (HG4.out.trans H5.out.2))))⟩
              case measure => simp [intOf]; omega
          · have hesc : escB c = [c] ++ [] := by rw [esc_plain HNS.out.1 h32]; rfl
            have HE := Lib.hid hesc
            have C1 := w_byte B q _ (bad || !V) c _ rfl wr H.out.1 (by have := HLEN.out; simp only [List.length_append, List.length_cons] at this ⊢; omega)
            have d32 : decide ((c.toNat : Int) < 32) = false := decide_eq_false (by omega)
            clear hesc h32
            generalize (c.toNat : Int) = x at *
            go_wp2_with (first | (go_at_call 64; refine CI.mono ?_; rintro e w2 ⟨rfl, rfl⟩) | (go_at_call 50; refine C1.mono ?_; rintro e w3 ⟨rfl, hw3, hg3⟩; have H3 := Lib.hid (And.intro hw3 hg3); clear hw3 hg3))
            go_roundw
            case rel => exact ⟨k + 1, by go_num, by omega, quote_step HTK.out HE.out (by rw [List.append_nil]; exact H3.out.1), H.out.2.trans H3.out.2⟩
            case measure => simp [intOf]; omega
      · obtain rfl : k = s.size := by omega
        have hfin : s.data.toList.take s.size = s.data.toList := List.take_of_length_le (by simp [ByteArray.size_data])
        have C1 := w_byte B q _ (bad || !V) 34 34 rfl wr H.out.1 (by have := HLEN.out; simp only [List.length_append, List.length_cons] at this ⊢; omega)
        have HF := Lib.hid hfin
        clear hfin
        go_wp2_with (go_at_call 50; refine C1.mono ?_; rintro e w3 ⟨rfl, hw3, hg3⟩; have H3 := Lib.hid (And.intro hw3 hg3); clear hw3 hg3)
        go_end0
        refine ⟨rfl, ?_, H.out.2.trans H3.out.2⟩
        have hh := H3.out.1
        rw [HF.out] at hh
        have e : out ++ quote s.data.toList = out ++ 34 :: escS s.data.toList ++ [34] := by simp [quote]
        rw [e]
        exact hh
end Go.Proofs.YtljnbbdhmlfhjaaDoor
