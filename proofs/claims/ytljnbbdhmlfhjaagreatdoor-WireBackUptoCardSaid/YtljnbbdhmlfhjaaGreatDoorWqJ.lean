/-
  The document's push, of every text; the law WirePush: its walk.
-/
import Derived.Test.YtljnbbdhmlfhjaaGreatDoorWqTwo
import Derived.Test.YtljnbbdhmlfhjaaGreatDoorWirTri
namespace Go.Proofs.YtljnbbdhmlfhjaaGreatDoor
open Go.RowKit
set_option maxRecDepth 100000 in
set_option maxHeartbeats 40000000 in
theorem ref_Push_err (v : Value) (b : Bs) (w : World) (hv : argRow w v b.length 1 (b.map bCell)) (hE : parseE b ≠ 0) :
    Calls Tryz.prog 10 #[v] w (PushR w b) := by
  have CF := ref_Form v b w hv
  obtain ⟨E, hEE⟩ : ∃ E, parseE b = E := ⟨_, rfl⟩
  have hp : pushP b = (E, []) := by unfold pushP; rw [if_pos hE, hEE]
  rw [hEE] at CF hE
  have hne : (E != 0) = true := by simpa using hE
  obtain ⟨F, hF⟩ : ∃ F : ByteArray, (⟨(oneF b).toArray⟩ : ByteArray) = F := ⟨_, rfl⟩
  rw [hF] at CF
  clear hF hE hEE hv
  go_enter Tryz.func10, Tryz.ntmps10
  go_wp2_with (go_at_call 30; refine CF.mono ?_; rintro e w1 ⟨rfl, hb1⟩)
  go_ret2
  exact PushR.bad hp hb1
set_option maxRecDepth 100000 in
set_option maxHeartbeats 40000000 in
theorem ref_Push_no (v : Value) (b : Bs) (j : J) (w : World) (hv : argRow w v b.length 1 (b.map bCell)) (hE : parseE b = 0) (hF : oneF b = formJ j) (hp : pushP b = (6, [])) (hok : okJ j) (hl : (formJ j).length ≤ 100000) (hno : ∀ l, j ≠ .obj [(kRecords, .arr l)]) :
    Calls Tryz.prog 10 #[v] w (PushR w b) := by
  have CF := ref_Form v b w hv
  rw [hE, hF] at CF
  by_cases hj : ∃ m, j = .obj m
  · obtain ⟨m, rfl⟩ := hj
    have CI := Lib.hid (show ∀ W, Calls Tryz.prog 31 #[.string (toB (formJ (.obj m))), .int .u8 123] W fun e w' => e = .returned (.bool true) ∧ w' = W from fun W => ref_is (formJ (.obj m)) 123 W (by omega))
    have hfo : (formJ (.obj m)).length = (formM m).length + 2 := by simp only [formJ, List.length_cons, List.length_append, List.length_nil]
    obtain ⟨pn, hpn⟩ : ∃ pn, (m.flatMap twoM).length = pn := ⟨_, rfl⟩
    have hpn2 : pn = 2 * m.length := by rw [← hpn, twoM_len]
    have hml := mem_count m
    have CP := Lib.hid (fun W => parts_row (formJ (.obj m)) W (by omega) (by omega) (parts_obj hok) hpn)
    obtain ⟨B, hB⟩ : ∃ B, toB (formJ (.obj m)) = B := ⟨_, rfl⟩
    rw [hB] at CI CP
    have CF2 : Calls Tryz.prog 30 #[v] w fun e w' => e = .returned (.tuple #[.string B, .int .i64 0]) ∧ Below w.heap.size w w' := by rw [← hB]; exact CF
    by_cases hm : m.length = 1
    · obtain ⟨⟨n, x⟩, rfl⟩ : ∃ y, m = [y] := by
        match m, hm with
        | [y], _ => exact ⟨y, rfl⟩
      have hin := mem_small (l := [(n, x)]) (m := (n, x)) (by simp)
      simp only at hin
      have hx := hok.1.2
      have hxn : ¬ (n = kRecords ∧ ∃ l, x = .arr l) := by
        rintro ⟨rfl, l, rfl⟩
        exact hno l rfl
      obtain ⟨ISA, hISA⟩ : ∃ q, headIs (formJ x) 91 = q := ⟨_, rfl⟩
      have CI2 := Lib.hid (show ∀ W, Calls Tryz.prog 31 #[.string (toB (formJ x)), .int .u8 91] W fun e w' => e = .returned (.bool ISA) ∧ w' = W from fun W => by
        rw [← hISA]
        exact ref_is (formJ x) 91 W (by omega))
      obtain ⟨Q, hQ⟩ : ∃ Q, toB (quote n) = Q := ⟨_, rfl⟩
      obtain ⟨Q2, hQ2⟩ : ∃ Q, toB (formJ x) = Q := ⟨_, rfl⟩
      have hqr := quote_recs (n := n)
      rw [hQ] at hqr
      rw [hQ2] at CI2
      have HQ := Lib.hid (And.intro hQ hQ2)
      have hcase : (decide (n = kRecords) = false) ∨ (decide (n = kRecords) = true ∧ ISA = false) := by
        by_cases hn : n = kRecords
        · refine .inr ⟨decide_eq_true hn, ?_⟩
          rw [← hISA]
          unfold headIs
          exact decide_eq_false fun e => hxn ⟨hn, (head_arr hx).1 e⟩
        · exact .inl (decide_eq_false hn)
      obtain ⟨NR, hNR⟩ : ∃ q, decide (n = kRecords) = q := ⟨_, rfl⟩
      rw [hNR] at hqr hcase
      obtain rfl : pn = 2 := hpn2
      clear CF hok hl hno hE hF hv hfo hpn hml hB hin hx hxn hm hISA hQ hQ2 hNR
      go_enter Tryz.func10, Tryz.ntmps10
      go_upto_region 4 with (go_at_call 30; refine CF2.mono ?_; rintro e w1 ⟨rfl, hb1⟩)
      have G1 := CI.out w1
      go_upto_region 6 with (go_at_call 31; refine G1.mono ?_; rintro e wx ⟨rfl, rfl⟩)
      have G2 := CP.out wx
      clear G1 CF2 CI
      go_upto_region 7 with (go_at_call 32; refine G2.mono ?_; rintro e w3 ⟨pa, pc, rfl, hr3, hb3⟩)
      have h3 := hb1.trans (hb3.mono hb1.size)
      obtain ⟨nb, noff, rfl, hnb, p1, p2⟩ := parts_cell (l := [(n, x)]) (k := 0) (m := 0) hr3 (by simp) rfl
      simp only [List.getElem_cons_zero] at p1 p2
      rw [HQ.out.1, Nat.add_zero] at p1
      rw [HQ.out.2, Nat.zero_add] at p2
      have G3 := CI2.out w3
      clear hr3 G2 CP CI2 hb3 hb1
      rcases hcase with rfl | ⟨rfl, rfl⟩
      · clear G3
        go_wp2
        go_ret2
        exact PushR.bad hp h3
      · go_wp2_with (go_at_call 31; refine G3.mono ?_; rintro e wx ⟨rfl, rfl⟩)
        go_ret2
        exact PushR.bad hp h3
    · have d1 : ((pn : Int) != 2) = true := by rw [bne_iff_ne]; omega
      have hpb : pn ≤ 300000 := by omega
      clear CF hok hl hno hE hF hv hfo hpn hpn2 hml hm hB
      go_enter Tryz.func10, Tryz.ntmps10
      go_upto_region 4 with (go_at_call 30; refine CF2.mono ?_; rintro e w1 ⟨rfl, hb1⟩)
      have G1 := CI.out w1
      go_upto_region 6 with (go_at_call 31; refine G1.mono ?_; rintro e wx ⟨rfl, rfl⟩)
      have G2 := CP.out wx
      clear G1 CF2 CI
      go_wp2_with (go_at_call 32; refine G2.mono ?_; rintro e w3 ⟨pa, pc, rfl, hr3, hb3⟩)
      go_ret2
      exact PushR.bad hp (hb1.trans (hb3.mono hb1.size))
  · have hi : headIs (formJ j) 123 = false := by
      unfold headIs
      exact decide_eq_false fun e => hj ((head_obj hok).1 e)
    have CI := Lib.hid (show ∀ W, Calls Tryz.prog 31 #[.string (toB (formJ j)), .int .u8 123] W fun e w' => e = .returned (.bool false) ∧ w' = W from fun W => by
      have h := ref_is (formJ j) 123 W (by omega)
      rw [hi] at h
      exact h)
    obtain ⟨B, hB⟩ : ∃ B, toB (formJ j) = B := ⟨_, rfl⟩
    rw [hB] at CI
    have CF2 : Calls Tryz.prog 30 #[v] w fun e w' => e = .returned (.tuple #[.string B, .int .i64 0]) ∧ Below w.heap.size w w' := by rw [← hB]; exact CF
    clear CF hok hl hno hE hF hv hi hj hB
    go_enter Tryz.func10, Tryz.ntmps10
    go_upto_region 4 with (go_at_call 30; refine CF2.mono ?_; rintro e w1 ⟨rfl, hb1⟩)
    have G1 := CI.out w1
    clear CF2 CI
    go_wp2_with (go_at_call 31; refine G1.mono ?_; rintro e wx ⟨rfl, rfl⟩)
    go_ret2
    exact PushR.bad hp hb1
/-- THE DOCUMENT'S PUSH IS THE PROGRAM'S, whatever the text. -/
theorem ref_Push (v : Value) (b : Bs) (w : World) (hv : argRow w v b.length 1 (b.map bCell)) : Calls Tryz.prog 10 #[v] w (PushR w b) := by
  by_cases hE : parseE b = 0
  · obtain ⟨h1, hval, j, hdoc, -, hpj, hone⟩ := parse_zero hE
    obtain ⟨hok, hlen⟩ := doc_ok hval hdoc
    have hp : pushP b = pushJ j := by
      unfold pushP
      rw [if_neg (by rw [hE]; decide), hpj]
    by_cases hj : ∃ l, j = .obj [(kRecords, .arr l)]
    · obtain ⟨l, rfl⟩ := hj
      exact ref_Push_arr v b l w hv hE hone hp hok (by omega)
    · refine ref_Push_no v b j w hv hE hone ?_ hok (by omega) fun l e => hj ⟨l, e⟩
      rw [hp]
      unfold pushJ
      rw [recs_no (fun l e => hj ⟨l, e⟩)]
  · exact ref_Push_err v b w hv hE
end Go.Proofs.YtljnbbdhmlfhjaaGreatDoor
