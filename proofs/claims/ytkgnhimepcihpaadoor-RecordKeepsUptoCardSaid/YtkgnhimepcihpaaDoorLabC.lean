/-
  The order of lists of labels: label.Compare.
-/
import Derived.Test.YtkgnhimepcihpaaDoorLabB
import Derived.Deep.RegionHeld3
import Derived.Deep.DeepCutAuto
import Derived.BigQuiet
namespace Go.Proofs.YtkgnhimepcihpaaDoor
open Go.RowKit

theorem belowA {a W : World} {o : Obj} (h : Below a.heap.size a W) : Below a.heap.size a (W.alloc o) := h.alloc h.size o
set_option maxRecDepth 100000 in
set_option maxHeartbeats 4000000 in
/-- cmp.Or at two numbers. -/
theorem or_two (x y : Int) (g : Nat) (w : World) (c0 : w.cell? ⟨g, 0, none⟩ = some (.int .i64 x)) (c1 : w.cell? ⟨g, 1, none⟩ = some (.int .i64 y)) : Calls Tryd.prog 43 #[.slice (some ⟨g, 0, none⟩) 2 2] w fun e w' =>
    e = .returned (.int .i64 (if x = 0 then y else x)) ∧ w = w' := by
  by_cases hx : x = 0
  · have e1 : (x != 0) = false := by simpa using hx
    rw [if_pos hx]
    subst hx
    by_cases hy : y = 0
    · subst hy
      go_enter Tryd.func43, Tryd.ntmps43
      go_wp2
      go_loop [8] (fun iv => ∃ k : Nat, iv = .int .i64 k ∧ k ≤ 2) (fun iv => 2 - (intOf iv).toNat)
      case atStart => exact ⟨0, rfl, by omega⟩
      case round =>
        obtain ⟨k, rfl, hk⟩ := hrel
        by_cases h0 : k = 0
        · subst h0
          go_wp2
          exact ⟨⟨1, rfl, by omega⟩, by simp [intOf]⟩
        · by_cases h1 : k = 1
          · subst h1
            go_wp2
            exact ⟨⟨2, rfl, by omega⟩, by simp [intOf]⟩
          · obtain rfl : k = 2 := by omega
            go_wp2
            go_ret
            exact ⟨rfl, rfl⟩
    · have e2 : (y != 0) = true := by simpa using hy
      go_enter Tryd.func43, Tryd.ntmps43
      go_wp2
      go_loop [8] (fun iv => ∃ k : Nat, iv = .int .i64 k ∧ k ≤ 1) (fun iv => 2 - (intOf iv).toNat)
      case atStart => exact ⟨0, rfl, by omega⟩
      case round =>
        obtain ⟨k, rfl, hk⟩ := hrel
        by_cases h0 : k = 0
        · subst h0
          go_wp2
          exact ⟨⟨1, rfl, by omega⟩, by simp [intOf]⟩
        · obtain rfl : k = 1 := by omega
          go_wp2
          go_ret
          exact ⟨rfl, rfl⟩
  · have e1 : (x != 0) = true := by simpa using hx
    rw [if_neg hx]
    go_enter Tryd.func43, Tryd.ntmps43
    go_wp2
    go_loop [8] (fun iv => iv = .int .i64 0) (fun iv => 2 - (intOf iv).toNat)
    case atStart => rfl
    case round =>
      obtain rfl := hrel
      go_wp2
      go_ret
      exact ⟨rfl, rfl⟩
def orI (x y : Int) : Int := if x = 0 then y else x
theorem or_new (x y : Int) (w : World) (t : TypeId) : Calls Tryd.prog 43 #[.slice (some ⟨w.heap.size, 0, none⟩) 2 2] (w.alloc (.cells #[.int .i64 x, .int .i64 y] t)).drew fun e w' =>
    e = .returned (.int .i64 (orI x y)) ∧ (w.alloc (.cells #[.int .i64 x, .int .i64 y] t)).drew = w' := by
  have := fun j => cell_of_row (w.alloc (.cells #[.int .i64 x, .int .i64 y] t)) w.heap.size j _ _ _ (heap_alloc_new _ _)
  exact or_two x y w.heap.size _ ((this 0).trans rfl) ((this 1).trans rfl)
theorem keep4 {a W : World} {p q r s : World → Prop} (h : ∀ W, Below a.heap.size a W → p W ∧ q W ∧ r W ∧ s W) (hb : Below a.heap.size a W) : p W ∧ q W ∧ r W ∧ s W ∧ Below a.heap.size a W := ⟨(h W hb).1, (h W hb).2.1, (h W hb).2.2.1, (h W hb).2.2.2, hb⟩
theorem two_box (W : World) (a b c d : Value) (t : TypeId) : ∀ w', Below ((W.alloc (.cells #[a, b] t)).alloc (.cells #[c, d] t)).heap.size ((W.alloc (.cells #[a, b] t)).alloc (.cells #[c, d] t)) w' →
    w'.cell? ⟨W.heap.size, 0, none⟩ = some a ∧ w'.cell? ⟨W.heap.size, 1, none⟩ = some b ∧ w'.cell? ⟨W.heap.size + 1, 0, none⟩ = some c ∧ w'.cell? ⟨W.heap.size + 1, 1, none⟩ = some d := by
  intro w' hb
  have s1 : (W.alloc (.cells #[a, b] t)).heap.size = W.heap.size + 1 := by simp
  have s2 : ((W.alloc (.cells #[a, b] t)).alloc (.cells #[c, d] t)).heap.size = W.heap.size + 2 := by simp
  have k1 := fun j => cell_of_row ((W.alloc (.cells #[a, b] t)).alloc (.cells #[c, d] t)) W.heap.size j #[a, b] t (0, 0) (by rw [heap_alloc_old _ _ (by omega)]; exact heap_alloc_new _ _)
  have k2 := fun j => cell_of_row ((W.alloc (.cells #[a, b] t)).alloc (.cells #[c, d] t)) (W.heap.size + 1) j #[c, d] t (0, 0) (by rw [← s1]; exact heap_alloc_new _ _)
  refine ⟨?_, ?_, ?_, ?_⟩
  · rw [hb.cell (p := ⟨W.heap.size, 0, none⟩) (show W.heap.size < _ by omega), k1]; rfl
  · rw [hb.cell (p := ⟨W.heap.size, 1, none⟩) (show W.heap.size < _ by omega), k1]; rfl
  · rw [hb.cell (p := ⟨W.heap.size + 1, 0, none⟩) (show W.heap.size + 1 < _ by omega), k2]; rfl
  · rw [hb.cell (p := ⟨W.heap.size + 1, 1, none⟩) (show W.heap.size + 1 < _ by omega), k2]; rfl

set_option maxRecDepth 100000 in
set_option maxHeartbeats 4000000 in
theorem compare_cmp (x y : Lab) (W : World) : Calls Tryd.prog 63 #[.agg #[.string x.1, .string x.2], .agg #[.string y.1, .string y.2]] W fun e w' =>
    e = .returned (.int .i64 (cmpLab x y)) ∧ Below W.heap.size W w' := by
  have hR : cmpLab x y = orI (cmpB x.1.toList y.1.toList) (cmpB x.2.toList y.2.toList) := rfl
  have c1 := Lib.hid (fun a b W' => cmp_str a b W')
  have cO := Lib.hid (fun a b W' t => or_new a b W' t)
  have hB := two_box W (.string x.1) (.string x.2) (.string y.1) (.string y.2) 47
  rw [hR]
  clear hR
  generalize x.1 = x1 at *
  generalize x.2 = x2 at *
  generalize y.1 = y1 at *
  generalize y.2 = y2 at *
  have hbw : Below W.heap.size W ((W.alloc (.cells #[.string x1, .string x2] 47)).alloc (.cells #[.string y1, .string y2] 47)) := belowA (belowA (Below.refl _ _))
  go_enter Tryd.func63, Tryd.ntmps63
  go_upto_region 1 with fail
  generalize (W.alloc (.cells #[.string x1, .string x2] 47)).alloc (.cells #[.string y1, .string y2] 47) = w1 at *
  have HB := Lib.hid hB
  clear hB
  have hB0 : Below w1.heap.size w1 w1.drew := (Below.refl _ _).drew
  go_region_held3 (fun w' => w'.cell? ⟨W.heap.size, 0, none⟩ = some (.string x1) ∧ w'.cell? ⟨W.heap.size, 1, none⟩ = some (.string x2) ∧ w'.cell? ⟨W.heap.size + 1, 0, none⟩ = some (.string y1) ∧ w'.cell? ⟨W.heap.size + 1, 1, none⟩ = some (.string y2) ∧ Below w1.heap.size w1 w')
    (first | exact keep4 HB.out (by first | assumption | exact (belowA (Below.refl _ _)).drew | exact belowA (by assumption)))
    (first | (go_at_call 60; refine (c1.out _ _ _).mono ?_; rintro e wn ⟨rfl, rfl⟩) | (go_at_call 43; refine (cO.out _ _ _ _).mono ?_; rintro e wn ⟨rfl, rfl⟩))
  all_goals
    go_wp2_with fail
    go_ret
    exact ⟨rfl, hbw.trans ((belowA (Below.refl w1.heap.size w1)).drew.mono hbw.size)⟩

theorem cmpLabs_cons {A B : List Lab} {k : Nat} (hA : k < A.length) (hB : k < B.length) : cmpLabs (A.drop k) (B.drop k) = if cmpLab A[k] B[k] = 0 then cmpLabs (A.drop (k + 1)) (B.drop (k + 1)) else cmpLab A[k] B[k] := by
  rw [List.drop_eq_getElem_cons hA, List.drop_eq_getElem_cons hB]
  rfl
theorem cmpLabs_over {A B : List Lab} {k : Nat} (hA : k < A.length) (hB : B.length ≤ k) : cmpLabs (A.drop k) (B.drop k) = 1 := by
  rw [List.drop_eq_getElem_cons hA, List.drop_of_length_le hB]
  rfl
theorem cmpLabs_under {A B : List Lab} {k : Nat} (hA : A.length ≤ k) (hB : k < B.length) : cmpLabs (A.drop k) (B.drop k) = -1 := by
  rw [List.drop_of_length_le hA, List.drop_eq_getElem_cons hB]
  rfl
theorem cmpLabs_end {A B : List Lab} {k : Nat} (hA : A.length ≤ k) (hB : B.length ≤ k) : cmpLabs (A.drop k) (B.drop k) = 0 := by
  rw [List.drop_of_length_le hA, List.drop_of_length_le hB]
  rfl

set_option maxRecDepth 100000 in
set_option maxHeartbeats 4000000 in
theorem compare_func (va vb : Value) (A B : List Lab) (w : World) (hA : LRow w va A) (hB : LRow w vb B) :
    Calls Tryd.prog 62 #[va, vb, .func (.func 63) #[] #[]] w fun e w' => e = .returned (.int .i64 (cmpLabs A B)) ∧ Below w.heap.size w w' := by
  obtain ⟨aa, ca, rfl, hca, hca2⟩ := hA.shape
  obtain ⟨ab, cb, rfl, hcb, hcb2⟩ := hB.shape
  unfold maxLen at hca2 hcb2
  have HA := Lib.hid hA
  have HB := Lib.hid hB
  clear hA hB
  obtain ⟨R, hR⟩ : ∃ R, cmpLabs A B = R := ⟨_, rfl⟩
  rw [hR]
  have HR := Lib.hid hR
  clear hR
  have cC := Lib.hid (fun x y W => compare_cmp x y W)
  go_enter Tryd.func62, Tryd.ntmps62
  go_wp2
  go_loopw [13] (fun iv wr => ∃ k : Nat, iv = .int .i64 k ∧ k ≤ A.length ∧ k ≤ B.length ∧ cmpLabs (A.drop k) (B.drop k) = R ∧ Below w.heap.size w wr) (fun iv _ => A.length - (intOf iv).toNat)
  case atStart => exact ⟨0, rfl, Nat.zero_le _, Nat.zero_le _, HR.out, Below.refl _ _⟩
  case round =>
    obtain ⟨k, rfl, hkA, hkB, hk, hb⟩ := hrel
    by_cases hltA : k < A.length
    · obtain ⟨ba, oa, rfl, hba, ga1, ga2⟩ := HA.out.at hltA
      by_cases hltB : k < B.length
      · obtain ⟨bb, ob, rfl, hbb, gb1, gb2⟩ := HB.out.at hltB
        have hst := cmpLabs_cons hltA hltB
        rw [hk] at hst
        have g1 : wr.cell? ⟨ba, oa + k * 2, none⟩ = some (.string A[k].1) := by rw [hb.cell (p := ⟨ba, _, none⟩) hba]; exact ga1
        have g2 : wr.cell? ⟨ba, oa + k * 2 + 1, none⟩ = some (.string A[k].2) := by rw [hb.cell (p := ⟨ba, _, none⟩) hba]; exact ga2
        have g3 : wr.cell? ⟨bb, ob + k * 2, none⟩ = some (.string B[k].1) := by rw [hb.cell (p := ⟨bb, _, none⟩) hbb]; exact gb1
        have g4 : wr.cell? ⟨bb, ob + k * 2 + 1, none⟩ = some (.string B[k].2) := by rw [hb.cell (p := ⟨bb, _, none⟩) hbb]; exact gb2
        have HST := Lib.hid hst
        clear hst hk ga1 ga2 gb1 gb2
        generalize A[k] = x at *
        generalize B[k] = y at *
        obtain ⟨x1, x2⟩ := x
        obtain ⟨y1, y2⟩ := y
        simp only at *
        have i0 : (0 : Int) ≤ (k : Int) := by omega
        have i1 : (k : Int) < (A.length : Int) := by omega
        have i2 : (k : Int) < (B.length : Int) := by omega
        have hs := hb.size
        have e3 : ∀ o : Obj, (wr.alloc o).cell? ⟨bb, ob + k * 2, none⟩ = some (.string y1) := fun o => by rw [(belowA (Below.refl wr.heap.size wr)).cell (p := ⟨bb, _, none⟩) (show bb < wr.heap.size by omega)]; exact g3
        have e4 : ∀ o : Obj, (wr.alloc o).cell? ⟨bb, ob + k * 2 + 1, none⟩ = some (.string y2) := fun o => by rw [(belowA (Below.refl wr.heap.size wr)).cell (p := ⟨bb, _, none⟩) (show bb < wr.heap.size by omega)]; exact g4
        have htb := two_box wr (.string x1) (.string x2) (.string y1) (.string y2) 47 _ (Below.refl _ _)
        obtain ⟨t1, t2, t3, t4⟩ := htb
        have hb2 := belowA (o := .cells #[.string y1, .string y2] 47) (belowA (o := .cells #[.string x1, .string x2] 47) hb)
        have hlx : ¬ (B.length : Int) ≤ (k : Int) := by omega
        have hly : ¬ B.length ≤ k := by omega
        go_upto_region 7 with fail
        generalize (wr.alloc (.cells #[.string x1, .string x2] 47)).alloc (.cells #[.string y1, .string y2] 47) = w3 at *
        have cx := cC.out (x1, x2) (y1, y2)
        simp only at cx
        obtain ⟨rc, hrc⟩ : ∃ r, cmpLab (x1, x2) (y1, y2) = r := ⟨_, rfl⟩
        rw [hrc] at cx HST
        clear hrc g1 g2 g3 g4 e3 e4
        by_cases hz : rc = 0
        · subst hz
          rw [if_pos rfl] at HST
          go_wp2_with (go_at_call 63; refine (cx _).mono ?_; rintro e w4 ⟨rfl, hb4⟩)
          go_roundw
          case rel => exact ⟨k + 1, by go_num, by omega, by omega, HST.out.symm, below_seq hb2 hb4⟩
          case measure => simp [intOf]; omega
        · rw [if_neg hz] at HST
          have hz' : (rc != 0) = true := by simpa using hz
          go_wp2_with (go_at_call 63; refine (cx _).mono ?_; rintro e w4 ⟨rfl, hb4⟩)
          go_ret
          exact ⟨by first | rfl | (rw [HST.out]; rfl), below_seq hb2 hb4⟩
      · have hR := cmpLabs_over hltA (B := B) (by omega)
        rw [hk] at hR
        have g1 : wr.cell? ⟨ba, oa + k * 2, none⟩ = some (.string A[k].1) := by rw [hb.cell (p := ⟨ba, _, none⟩) hba]; exact ga1
        have g2 : wr.cell? ⟨ba, oa + k * 2 + 1, none⟩ = some (.string A[k].2) := by rw [hb.cell (p := ⟨ba, _, none⟩) hba]; exact ga2
        clear ga1 ga2 hk
        generalize A[k] = x at *
        obtain ⟨x1, x2⟩ := x
        simp only at *
        have i0 : (0 : Int) ≤ (k : Int) := by omega
        have i1 : (k : Int) < (A.length : Int) := by omega
        have hlx : (B.length : Int) ≤ (k : Int) := by omega
        have hly : B.length ≤ k := by omega
        go_wp2
        go_ret
        exact ⟨by first | rfl | (rw [hR]; rfl), belowA hb⟩
    · have hnA : ¬ (k : Int) < (A.length : Int) := by omega
      by_cases hltB : k < B.length
      · have hR := cmpLabs_under (A := A) (by omega) hltB
        rw [hk] at hR
        have hAB : (A.length : Int) < (B.length : Int) := by omega
        have hABn : A.length < B.length := by omega
        go_wp2
        go_ret
        exact ⟨by first | rfl | (rw [hR]; rfl), hb⟩
      · have hR := cmpLabs_end (A := A) (B := B) (k := k) (by omega) (by omega)
        rw [hk] at hR
        have hAB : ¬ (A.length : Int) < (B.length : Int) := by omega
        have hABn : ¬ A.length < B.length := by omega
        go_wp2
        go_ret
        exact ⟨by first | rfl | (rw [hR]; rfl), hb⟩
theorem label_Compare (va vb : Value) (A B : List Lab) (w : World) (hA : LRow w va A) (hB : LRow w vb B) :
    Calls Tryd.prog 33 #[va, vb] w fun e w' => e = .returned (.int .i64 (cmpLabs A B)) ∧ Below w.heap.size w w' := by
  have cF := compare_func va vb A B w hA hB
  generalize cmpLabs A B = R at *
  go_enter Tryd.func33, Tryd.ntmps33
  go_wp2_with (go_at_call 62; refine cF.mono ?_; rintro e w1 ⟨rfl, hb1⟩)
  go_ret
  exact ⟨rfl, hb1⟩
end Go.Proofs.YtkgnhimepcihpaaDoor
