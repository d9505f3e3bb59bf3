/-
  The contract of the reference's All.
-/
import Derived.Test.YtgopmhfehobooaaUtfE
import Derived.Test.YtgopmhfehobooaaTextA
import Derived.Test.YtgopmhfehobooaaTextP
namespace Go.Proofs.Ytgopmhfehobooaa
open Go.RowKit

theorem wordB_nat (r : Nat) : wordB (r : Int) = wordN r := by
  unfold wordB wordN
  refine decide_eq_decide.2 ?_
  unfold wordP
  omega
def strV (l : List UInt8) : Value := .string ⟨l.toArray⟩
/-- Of the runs those that are asked for, as words. -/
def pickW (inner : Bool) (n : Nat) (sg : List (Nat × List Nat)) : List (List UInt8) := (sg.filter fun x => !inner || innerR n x).map fun x => wordOf x.2
theorem pickW_cons (inner : Bool) (n : Nat) (x : Nat × List Nat) (sg : List (Nat × List Nat)) :
    pickW inner n (x :: sg) = if (!inner || innerR n x) = true then wordOf x.2 :: pickW inner n sg else pickW inner n sg := by
  unfold pickW
  rw [List.filter_cons]
  split <;> rfl
theorem app_mk' (a b : List UInt8) : (⟨(a ++ b).toArray⟩ : ByteArray) = (⟨a.toArray⟩ : ByteArray) ++ (⟨b.toArray⟩ : ByteArray) := by
  apply ByteArray.ext
  rw [ByteArray.data_append]
  simp
theorem info_str : (Try.prog.info? 9).map (fun i => (i.zero, i.size, i.bytes)) = some (some (.string ⟨#[]⟩), 1, 16) := by kernel_rfl
theorem wordOf_take (run : List Nat) (m : Nat) (h : m < run.length) :
    wordOf (run.take (m + 1)) = if m < 32 then wordOf (run.take m) ++ encR (smallN run[m]) else wordOf (run.take m) := by
  unfold wordOf
  by_cases c : m < 32
  · rw [if_pos c, List.take_take, List.take_take, Nat.min_eq_right (by omega), Nat.min_eq_right (by omega), List.take_succ_eq_append_getElem h, List.map_append, enc_append]
    simp [enc]
  · rw [if_neg c, List.take_take, List.take_take, Nat.min_eq_left (by omega), Nat.min_eq_left (by omega)]
theorem wordOf_len (run : List Nat) : (wordOf run).length ≤ 128 := by
  unfold wordOf
  have h := (enc_length ((run.take 32).map smallN)).2
  rw [List.length_map, List.length_take] at h
  omega

set_option maxRecDepth 100000 in
set_option maxHeartbeats 4000000 in
theorem ref_All (s : ByteArray) (inner : Bool) (w : World) (hs : s.size ≤ 1000000000) :
    Calls Try.prog 8 #[.string s, .bool inner] w fun e w' => ∃ v, e = .returned v ∧
      w'.ownsRow w.heap.size 9 1 v (pickW inner (runes s.data.toList).length (segs 0 (runes s.data.toList))).length ((pickW inner (runes s.data.toList).length (segs 0 (runes s.data.toList))).map strV) ∧ Below w.heap.size w w' := by
  obtain ⟨i0, hi, hz0, hz1, hz2⟩ := info_parts info_str
  have cR := ref_Runes s w (by omega)
  have hrl := runes_length s.data.toList
  have hsl : s.data.toList.length = s.size := by simp [ByteArray.size_data]
  rw [hsl] at hrl
  clear hsl
  have hsc := runes_scalars s.data.toList
  generalize Lib.validD s.data.toList = V at cR
  generalize runes s.data.toList = rs at *
  obtain ⟨TOT, hTOT⟩ : ∃ T, pickW inner rs.length (segs 0 rs) = T := ⟨_, rfl⟩
  rw [hTOT]
  have HT := Lib.hid hTOT; clear hTOT
  have HSC := Lib.hid hsc; clear hsc
  go_enter Try.func8, Try.ntmps8
  go_wp2_with (go_at_call 19; refine cR.mono ?_; rintro e w1 ⟨v, rfl, hown, hb⟩)
  have hrow := argRow_owns hown
  obtain ⟨_, a, cap, rfl, _, hcm, hcell⟩ := hrow
  have HC := Lib.hid hcell
  clear hcell hcm hown cR
  have hb1 := hb.size
  go_loopw [7, 8] (fun l i wr => ∃ (k : Nat) (A : List (List UInt8)), k ≤ rs.length ∧ i = .int .i64 k ∧ wr.ownsRow w1.heap.size 9 1 l A.length (A.map strV) ∧
    A ++ pickW inner rs.length (segs k (rs.drop k)) = TOT ∧ A.length ≤ k ∧ Below w1.heap.size w1 wr) (fun _ i _ => rs.length - (intOf i).toNat)
  case atStart => exact ⟨0, [], by omega, rfl, World.ownsRow_nil _ _ _ _, by rw [List.drop_zero, HT.out]; rfl, by simp, Below.refl _ _⟩
  case round =>
    obtain ⟨k, A, hk, rfl, hown, hA, hAk, hbr⟩ := hrel
    have HA := Lib.hid hA
    clear hA
    by_cases hlt : k < rs.length
    · obtain ⟨b, off, rfl, hbl, hcs⟩ := HC.out (by omega)
      have hcell : ∀ m (hm : m < rs.length) W, Below wr.heap.size wr W → W.cell? ⟨b, off + m, none⟩ = some (.int .i32 ((rs[m] : Nat) : Int)) := by
        intro m hm W hW
        rw [hW.cell (p := ⟨b, off + m, none⟩) (Nat.lt_of_lt_of_le hbl hbr.size), hbr.cell (p := ⟨b, off + m, none⟩) hbl, hcs m (by simpa using hm)]
        simp [runeCell]
      have HCL := Lib.hid hcell
      clear hcell hcs
      have hc := HCL.out k hlt wr (Below.refl _ _)
      have hd : rs.drop k = rs[k] :: rs.drop (k + 1) := List.drop_eq_getElem_cons hlt
      have hsk : scalar rs[k] := HSC.out _ (List.getElem_mem _)
      have hsk' : rs[k] ≤ 1114111 := by unfold scalar at hsk; omega
      have cW := fun W => ref_Word ((rs[k] : Nat) : Int) W (by omega) (by omega)
      rw [wordB_nat] at cW
      by_cases hw : wordN rs[k] = true
      · obtain ⟨run, rest, hrr, hall, hstop⟩ := take_run (rs.drop k)
        have hrun : 0 < run.length := by
          rcases Nat.eq_zero_or_pos run.length with h | h
          · have : run = [] := List.eq_nil_of_length_eq_zero h
            subst this
            rw [List.nil_append, hd] at hrr
            rcases hstop with e | ⟨r, t, e, hr⟩
            · rw [e] at hrr; cases hrr
            · rw [e] at hrr
              injection hrr with e1 e2
              rw [e1, hr] at hw; cases hw
          · exact h
        have hseg : segs k (rs.drop k) = (k, run) :: segs (k + run.length) rest := by rw [hrr]; exact segs_run run rest k (by intro e; rw [e] at hrun; cases hrun) hall hstop
        have hrest : rest = rs.drop (k + run.length) := by
          have := congrArg (List.drop run.length) hrr
          rw [List.drop_drop, List.drop_left] at this
          exact this.symm
        have hlen : k + run.length ≤ rs.length := by
          have := congrArg List.length hrr
          rw [List.length_drop, List.length_append] at this
          omega
        have hget : ∀ m (hm : m < run.length), rs[k + m]'(by omega) = run[m] := by
          intro m hm
          have h1 : (rs.drop k)[m]'(by rw [List.length_drop]; omega) = rs[k + m]'(by omega) := List.getElem_drop
          rw [← h1]
          have h2 : (rs.drop k)[m]? = run[m]? := by rw [hrr, List.getElem?_append_left hm]
          rw [List.getElem?_eq_getElem (by rw [List.length_drop]; omega), List.getElem?_eq_getElem hm] at h2
          exact Option.some.inj h2
        have hend : ∀ h : k + run.length < rs.length, wordN (rs[k + run.length]'h) = false := by
          intro h
          rcases hstop with e | ⟨r, t, e, hr⟩
          · rw [hrest] at e
            have := congrArg List.length e
            rw [List.length_drop, List.length_nil] at this
            omega
          · rw [hrest, List.drop_eq_getElem_cons h] at e
            injection e with e1 e2
            rw [e1]; exact hr
        have hscr : ∀ m (hm : m < run.length), scalar run[m] := fun m hm => by rw [← hget m hm]; exact HSC.out _ (List.getElem_mem _)
        rw [hrest] at hseg
        have HSEG := Lib.hid hseg
        have HALL := Lib.hid hall
        have HGET := Lib.hid hget
        have HEND := Lib.hid hend
        have HSCR := Lib.hid hscr
        rw [hw] at cW
        clear hseg hall hget hend hscr hrr hstop hrest hd hsk hsk' hw
        generalize rs[k] = r0 at *
        obtain ⟨wo, hwo⟩ : ∃ wo : World, wo = wr := ⟨_, rfl⟩
        subst hwo
        go_wp2_with (go_at_call 20; refine (cW _).mono ?_; rintro e w' ⟨rfl, rfl⟩)
        clear cW
        go_loopw [8, 10] (fun i wv wi => ∃ m : Nat, m ≤ run.length ∧ i = .int .i64 ((k : Int) + (m : Int)) ∧ wv = .string ⟨(wordOf (run.take m)).toArray⟩ ∧ Below wo.heap.size wo wi) (fun i _ _ => k + run.length - (intOf i).toNat)
        case atStart => exact ⟨0, by omega, by go_num, rfl, Below.refl _ _⟩
        case round =>
          obtain ⟨m, hm, rfl, rfl, hbi⟩ := hrel
          have hszi := hbi.size
          by_cases hml : m < run.length
          · have hc2 : wr.cell? ⟨b, off + (k + m), none⟩ = some (.int .i32 ((run[m] : Nat) : Int)) := by rw [HCL.out (k + m) (by omega) wr hbi, HGET.out m hml]
            have hws : wordN run[m] = true := HALL.out _ (List.getElem_mem _)
            have hsc := HSCR.out m hml
            have hsc' : run[m] ≤ 1114111 := by unfold scalar at hsc; omega
            have cW2 := fun W => ref_Word ((run[m] : Nat) : Int) W (by omega) (by omega)
            rw [wordB_nat, hws] at cW2
            have cS2 := fun W => ref_Small ((run[m] : Nat) : Int) W (by omega) (by omega)
            rw [smallZ_nat] at cS2
            have cB2 := fun W => ref_Bytes' (smallN run[m]) (smallN_scalar hsc) W
            have hT := wordOf_take run m hml
            have hwl := wordOf_len (run.take m)
            have hel := encR_len (smallN run[m])
            have hsubZ : (k : Int) + (m : Int) - (k : Int) = (m : Int) := by omega
            clear hws hsc hsc'
            by_cases h32 : m < 32
            · rw [if_pos h32] at hT
              have HT2 := Lib.hid hT
              clear hT
              generalize encR (smallN run[m]) = E at *
              generalize smallN run[m] = sr at *
              generalize run[m] = r at *
              generalize wordOf (run.take m) = WO at *
              have hWE : WO.length + E.length ≤ 1000 := by omega
              have h32' : (m : Int) < 32 := by omega
              go_wp2_with (first | (go_at_call 20; refine (cW2 _).mono ?_; rintro e w' ⟨rfl, rfl⟩) | (go_at_call 22; refine (cS2 _).mono ?_; rintro e w' ⟨rfl, rfl⟩) | (go_at_call 21; refine (cB2 _).mono ?_; rintro e w2 ⟨v2, rfl, hown2, hb2⟩; have hcv := conv_owned (P := Try.prog) (dst := 9) Try.underlying41 Try.underlying5 Try.underlying9 hown2))
              go_roundw
              case rel => exact ⟨m + 1, by omega, by go_num, by rw [HT2.out, app_mk'], below_seq hbi hb2⟩
              case measure => simp [intOf]; omega
            · rw [if_neg h32] at hT
              have HT2 := Lib.hid hT
              clear hT
              generalize run[m] = r at *
              generalize wordOf (run.take m) = WO at *
              have h32' : (32 : Int) ≤ (m : Int) := by omega
              go_wp2_with (first | (go_at_call 20; refine (cW2 _).mono ?_; rintro e w' ⟨rfl, rfl⟩))
              go_roundw
              case rel => exact ⟨m + 1, by omega, by go_num, by rw [HT2.out], hbi⟩
              case measure => simp [intOf]; omega
          · obtain rfl : m = run.length := by omega
            rw [List.take_length]
            have hcur := owns_below hown hbi
            have hbw : Below w1.heap.size w1 wr := hbr.trans (hbi.mono hbr.size)
            have hbw1 := hbw.size
            have hpk := pickW_cons inner rs.length (k, run) (segs (k + run.length) (rs.drop (k + run.length)))
            rw [← HSEG.out] at hpk
            have hAA := HA.out
            rw [hpk] at hAA
            have hwl := wordOf_len run
            clear hpk hml hown hszi hc hbr
            generalize wordOf run = WO at *
            have hkZ : (k : Int) + (run.length : Int) = ((k + run.length : Nat) : Int) := by omega
            by_cases hend' : k + run.length < rs.length
            · have hc3 : wr.cell? ⟨b, off + (k + run.length), none⟩ = some (.int .i32 ((rs[k + run.length] : Nat) : Int)) := HCL.out (k + run.length) hend' wr (by assumption)
              have hsc3 : scalar rs[k + run.length] := HSC.out _ (List.getElem_mem _)
              have hsc3' : rs[k + run.length] ≤ 1114111 := by unfold scalar at hsc3; omega
              have cW3 := fun W => ref_Word ((rs[k + run.length] : Nat) : Int) W (by omega) (by omega)
              rw [wordB_nat, HEND.out hend'] at cW3
              have hsel : (!inner || innerR rs.length (k, run)) = (!inner || decide (0 < k)) := by
                have : innerR rs.length (k, run) = decide (0 < k) := by unfold innerR; exact decide_eq_decide.2 (by simp; omega)
                rw [this]
              rw [hsel] at hAA
              clear hsel hsc3 hsc3'
              generalize rs[k + run.length] = r1 at *
              cases inner
              · simp only [Bool.not_false, Bool.true_or, if_true] at hAA
                have hAA' : (A ++ [WO]) ++ pickW false rs.length (segs (k + run.length) (rs.drop (k + run.length))) = TOT := by rw [← hAA]; simp
                have HAA := Lib.hid hAA'
                clear hAA hAA' hkZ
                go_wp2_with (first | (go_at_call 20; refine (cW3 _).mono ?_; rintro e w' ⟨rfl, rfl⟩) | (at_builtin; refine wpList_append_own _ rfl _ _ 23 rfl w1.heap.size 9 i0 (.string ⟨#[]⟩) 1 16 Try.underlying23 hi hz0 hz1 hz2 rfl (by decide) _ _ _ rfl (hcur.alloc _) ⟨wr.heap.size, 0, none⟩ 1 1 [strV WO] rfl rfl (cell_one_new _ _ _) (by simp [strV, Value.oneCell']) (by unfold maxLen; omega) (by omega) (by simp; omega) ?_; intro v' w3 hown3 hgr _))
                go_roundw
                case rel => exact ⟨k + run.length, A ++ [WO], by omega, by go_num, by rw [List.length_append, List.map_append]; exact hown3, HAA.out, by rw [List.length_append]; simp; omega, grown_below hbw hbw1 _ hcur hgr⟩
                case measure => simp [intOf]; omega
              · by_cases hk0 : 0 < k
                · have hk0' : (0 : Int) < (k : Int) := by omega
                  simp only [Bool.not_true, Bool.false_or, hk0, decide_true, if_true] at hAA
                  have hAA' : (A ++ [WO]) ++ pickW true rs.length (segs (k + run.length) (rs.drop (k + run.length))) = TOT := by rw [← hAA]; simp
                  have HAA := Lib.hid hAA'
                  clear hAA hAA' hkZ
                  go_wp2_with (first | (go_at_call 20; refine (cW3 _).mono ?_; rintro e w' ⟨rfl, rfl⟩) | (at_builtin; refine wpList_append_own _ rfl _ _ 23 rfl w1.heap.size 9 i0 (.string ⟨#[]⟩) 1 16 Try.underlying23 hi hz0 hz1 hz2 rfl (by decide) _ _ _ rfl (hcur.alloc _) ⟨wr.heap.size, 0, none⟩ 1 1 [strV WO] rfl rfl (cell_one_new _ _ _) (by simp [strV, Value.oneCell']) (by unfold maxLen; omega) (by omega) (by simp; omega) ?_; intro v' w3 hown3 hgr _))
                  go_roundw
                  case rel => exact ⟨k + run.length, A ++ [WO], by omega, by go_num, by rw [List.length_append, List.map_append]; exact hown3, HAA.out, by rw [List.length_append]; simp; omega, grown_below hbw hbw1 _ hcur hgr⟩
                  case measure => simp [intOf]; omega
                · have hk0' : (k : Int) ≤ 0 := by omega
                  have hkd : decide (0 < k) = false := decide_eq_false hk0
                  rw [hkd] at hAA
                  have HAA : Hid (A ++ pickW true rs.length (segs (k + run.length) (rs.drop (k + run.length))) = TOT) := by rw [← hAA]; simp [Hid]
                  clear hAA hkZ hkd
                  go_wp2_with (go_at_call 20; refine (cW3 _).mono ?_; rintro e w' ⟨rfl, rfl⟩)
                  go_roundw
                  case rel => exact ⟨k + run.length, A, by omega, by go_num, hcur, HAA.out, by omega, hbw⟩
                  case measure => simp [intOf]; omega
            · have hb2 : ((k : Int) + (run.length : Int) < (rs.length : Int)) = False := by simp; omega
              have hsel : (!inner || innerR rs.length (k, run)) = !inner := by
                have : innerR rs.length (k, run) = false := by unfold innerR; exact decide_eq_false (by simp; omega)
                rw [this, Bool.or_false]
              rw [hsel] at hAA
              cases inner
              · have hAA' : (A ++ [WO]) ++ pickW false rs.length (segs (k + run.length) (rs.drop (k + run.length))) = TOT := by rw [← hAA]; simp
                have HAA := Lib.hid hAA'
                clear hAA hAA' hsel hkZ
                go_wp2_with (at_builtin; refine wpList_append_own _ rfl _ _ 23 rfl w1.heap.size 9 i0 (.string ⟨#[]⟩) 1 16 Try.underlying23 hi hz0 hz1 hz2 rfl (by decide) _ _ _ rfl (hcur.alloc _) ⟨wr.heap.size, 0, none⟩ 1 1 [strV WO] rfl rfl (cell_one_new _ _ _) (by simp [strV, Value.oneCell']) (by unfold maxLen; omega) (by omega) (by simp; omega) ?_; intro v' w3 hown3 hgr _)
                go_roundw
                case rel => exact ⟨k + run.length, A ++ [WO], by omega, by go_num, by rw [List.length_append, List.map_append]; exact hown3, HAA.out, by rw [List.length_append]; simp; omega, grown_below hbw hbw1 _ hcur hgr⟩
                case measure => simp [intOf]; omega
              · have hAA' : A ++ pickW true rs.length (segs (k + run.length) (rs.drop (k + run.length))) = TOT := by rw [← hAA]; simp
                have HAA := Lib.hid hAA'
                clear hAA hAA' hsel hkZ
                by_cases hk0 : 0 < k
                all_goals
                  go_wp2
                  go_roundw
                  case rel => exact ⟨k + run.length, A, by omega, by go_num, hcur, HAA.out, by omega, hbw⟩
                  case measure => simp [intOf]; omega
      · have hw' : wordN rs[k] = false := by simpa using hw
        have hskip : segs k (rs.drop k) = segs (k + 1) (rs.drop (k + 1)) := by rw [hd, segs_skip hw']
        have HS := Lib.hid hskip
        rw [hw'] at cW
        clear hw hw' hskip hd hsk hsk'
        generalize rs[k] = r at *
        go_wp2_with (go_at_call 20; refine (cW _).mono ?_; rintro e w' ⟨rfl, rfl⟩)
        go_roundw
        case rel => exact ⟨k + 1, A, by omega, by go_num, hown, by rw [← HS.out]; exact HA.out, by omega, hbr⟩
        case measure => simp [intOf]; omega
    · obtain rfl : k = rs.length := by omega
      have e := HA.out
      rw [List.drop_length] at e
      have e2 : A = TOT := by rw [← e]; simp [segs, pickW]
      subst e2
      go_wp2
      go_ret
      exact ⟨_, rfl, owns_base hown hb1, hb.trans (hbr.mono hb1)⟩

end Go.Proofs.Ytgopmhfehobooaa
