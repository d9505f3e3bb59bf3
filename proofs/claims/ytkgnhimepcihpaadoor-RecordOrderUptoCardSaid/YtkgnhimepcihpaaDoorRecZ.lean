/-
  The walk of RecordOrder.
-/
import Derived.Test.YtkgnhimepcihpaaDoorGetAll
namespace Go.Proofs.YtkgnhimepcihpaaDoor
open Go.RowKit
theorem cmpI_cases (a b : Int) : (cmpI a b = -1 ∧ a < b) ∨ (cmpI a b = 0 ∧ a = b) ∨ (cmpI a b = 1 ∧ b < a) := by
  unfold cmpI
  by_cases h1 : a < b
  · rw [if_pos h1]; exact .inl ⟨rfl, h1⟩
  · rw [if_neg h1]
    by_cases h2 : a = b
    · rw [if_pos h2]; exact .inr (.inl ⟨rfl, h2⟩)
    · rw [if_neg h2]; exact .inr (.inr ⟨rfl, by omega⟩)
theorem cmpRec_cases (a b : Rec) : (cmpRec a b = -1 ∧ (a.time < b.time ∨ a.time = b.time ∧ (a.seq : Int) < b.seq)) ∨ (cmpRec a b = 0 ∧ a.time = b.time ∧ (a.seq : Int) = b.seq) ∨ (cmpRec a b = 1 ∧ (b.time < a.time ∨ b.time = a.time ∧ (b.seq : Int) < a.seq)) := by
  unfold cmpRec orI
  rcases cmpI_cases a.time b.time with ⟨e, h⟩ | ⟨e, h⟩ | ⟨e, h⟩
  · rw [e]; exact .inl ⟨rfl, .inl h⟩
  · rw [e]
    rcases cmpI_cases (a.seq : Int) b.seq with ⟨e2, h2⟩ | ⟨e2, h2⟩ | ⟨e2, h2⟩
    · rw [e2]; exact .inl ⟨rfl, .inr ⟨h, h2⟩⟩
    · rw [e2]; exact .inr (.inl ⟨rfl, h, h2⟩)
    · rw [e2]; exact .inr (.inr ⟨rfl, .inr ⟨h.symm, h2⟩⟩)
  · rw [e]; exact .inr (.inr ⟨rfl, .inl h⟩)
theorem order_facts (a b c : Rec) : cmpRec b a = -cmpRec a b ∧ (cmpRec a b ≤ 0 → cmpRec b c ≤ 0 → cmpRec a c ≤ 0) ∧ (0 ≤ cmpRec a b → 0 ≤ cmpRec b c → 0 ≤ cmpRec a c) ∧ (a.time = b.time ∨ (cmpRec a b < 0 ↔ a.time < b.time)) := by
  rcases cmpRec_cases a b with ⟨e1, h1⟩ | ⟨e1, h1⟩ | ⟨e1, h1⟩ <;> rcases cmpRec_cases b a with ⟨e2, h2⟩ | ⟨e2, h2⟩ | ⟨e2, h2⟩ <;> rcases cmpRec_cases b c with ⟨e3, h3⟩ | ⟨e3, h3⟩ | ⟨e3, h3⟩ <;> rcases cmpRec_cases a c with ⟨e4, h4⟩ | ⟨e4, h4⟩ | ⟨e4, h4⟩ <;> rw [e1, e2, e3, e4] <;> omega
set_option maxRecDepth 100000 in
set_option maxHeartbeats 4000000 in
theorem comp_Compare (ta tb sa sb : Int) (na nb : ByteArray) (la lb : Value) (W : World) : Calls Tryd.prog 19 #[.agg #[.int .i64 ta, .int .u64 sa, la, .string na], .agg #[.int .i64 tb, .int .u64 sb, lb, .string nb]] W fun e w' =>
    e = .returned (.int .i64 (orI (cmpI ta tb) (cmpI sa sb))) ∧ Below W.heap.size W w' := by
  have c1 := Lib.hid (fun x y W' => cmp_i64 x y W')
  have c2 := Lib.hid (fun x y W' => cmp_u64 x y W')
  have cO := Lib.hid (fun a b W' t => or_new a b W' t)
  have hB := two_new W #[.int .i64 ta, .int .u64 sa, la, .string na] #[.int .i64 tb, .int .u64 sb, lb, .string nb] 27 27
  have hbw : Below W.heap.size W ((W.alloc (.cells #[.int .i64 ta, .int .u64 sa, la, .string na] 27)).alloc (.cells #[.int .i64 tb, .int .u64 sb, lb, .string nb] 27)) := belowA (belowA (Below.refl _ _))
  go_enter Tryd.func19, Tryd.ntmps19
  go_upto_region 1 with fail
  generalize (W.alloc (.cells #[.int .i64 ta, .int .u64 sa, la, .string na] 27)).alloc (.cells #[.int .i64 tb, .int .u64 sb, lb, .string nb] 27) = w1 at *
  have HB := Lib.hid (show ∀ w', Below w1.heap.size w1 w' → w'.cell? ⟨W.heap.size, 0, none⟩ = some (.int .i64 ta) ∧ w'.cell? ⟨W.heap.size, 1, none⟩ = some (.int .u64 sa) ∧ w'.cell? ⟨W.heap.size + 1, 0, none⟩ = some (.int .i64 tb) ∧ w'.cell? ⟨W.heap.size + 1, 1, none⟩ = some (.int .u64 sb) from fun w' h => ⟨(hB w' h 0).1, (hB w' h 1).1, (hB w' h 0).2, (hB w' h 1).2⟩)
  clear hB
  have hB0 : Below w1.heap.size w1 w1.drew := (Below.refl _ _).drew
  go_region_held3 (fun w' => w'.cell? ⟨W.heap.size, 0, none⟩ = some (.int .i64 ta) ∧ w'.cell? ⟨W.heap.size, 1, none⟩ = some (.int .u64 sa) ∧ w'.cell? ⟨W.heap.size + 1, 0, none⟩ = some (.int .i64 tb) ∧ w'.cell? ⟨W.heap.size + 1, 1, none⟩ = some (.int .u64 sb) ∧ Below w1.heap.size w1 w')
    (first | exact keep4 HB.out (by first | assumption | exact (belowA (Below.refl _ _)).drew | exact belowA (by assumption)))
    (first | (go_at_call 44; refine (c1.out _ _ _).mono ?_; rintro e wn ⟨rfl, rfl⟩) | (go_at_call 45; refine (c2.out _ _ _).mono ?_; rintro e wn ⟨rfl, rfl⟩) | (go_at_call 43; refine (cO.out _ _ _ _).mono ?_; rintro e wn ⟨rfl, rfl⟩))
  all_goals
    go_wp2_with fail
    go_ret
    exact ⟨rfl, hbw.trans ((belowA (Below.refl w1.heap.size w1)).drew.mono hbw.size)⟩
theorem three_new (W : World) (c d e : Array Value) (t : TypeId) : ∀ w', Below (((W.alloc (.cells c t)).alloc (.cells d t)).alloc (.cells e t)).heap.size (((W.alloc (.cells c t)).alloc (.cells d t)).alloc (.cells e t)) w' →
    ∀ j, w'.cell? ⟨W.heap.size, j, none⟩ = c[j]? ∧ w'.cell? ⟨W.heap.size + 1, j, none⟩ = d[j]? ∧ w'.cell? ⟨W.heap.size + 2, j, none⟩ = e[j]? := by
  intro w' hb j
  have s2 : ((W.alloc (.cells c t)).alloc (.cells d t)).heap.size = W.heap.size + 2 := by simp
  have h2 := two_new W c d t t _ (Below.refl _ _) j
  have h3 := one_new ((W.alloc (.cells c t)).alloc (.cells d t)) e t w' hb j
  have hb3 : Below ((W.alloc (.cells c t)).alloc (.cells d t)).heap.size ((W.alloc (.cells c t)).alloc (.cells d t)) w' := below_seq (belowA (Below.refl _ _)) hb
  rw [s2] at h3
  exact ⟨by rw [hb3.cell (p := ⟨W.heap.size, j, none⟩) (by rw [s2]; show W.heap.size < _; omega)]; exact h2.1, by rw [hb3.cell (p := ⟨W.heap.size + 1, j, none⟩) (by rw [s2]; show W.heap.size + 1 < _; omega)]; exact h2.2, h3⟩
set_option maxRecDepth 100000 in
set_option maxHeartbeats 4000000 in
theorem order_walk9 (a b c : Rec) (la lb lc : Value) (w : World) (hT : Tabs w) (ha : LRow w la a.labs) (hb : LRow w lb b.labs) (hc : LRow w lc c.labs) :
    Calls Tryd.prog 4 #[recV a la, recV b lb, recV c lc] w fun e w' => e = .returned (.bool true) ∧ Below w.heap.size w w' := by
  obtain ⟨al, ac, rfl, -, -⟩ := ha.shape
  obtain ⟨bl, bc, rfl, -, -⟩ := hb.shape
  obtain ⟨cl, cc, rfl, -, -⟩ := hc.shape
  have CA := Lib.hid (fun W (hW : Below w.heap.size w W) => law09_awake W (Utf8Tabs_below hT hW))
  have CK := Lib.hid (fun ta tb sa sb na nb la lb W => comp_Compare ta tb sa sb na nb la lb W)
  have e5 : cmpRec a a = 0 := by unfold cmpRec cmpI orI; simp
  obtain ⟨f1, f2, f3, f4⟩ := order_facts a b c
  have hx : cmpRec a b = -1 ∨ cmpRec a b = 0 ∨ cmpRec a b = 1 := by rcases cmpRec_cases a b with h | h | h <;> omega
  have hy : cmpRec b c = -1 ∨ cmpRec b c = 0 ∨ cmpRec b c = 1 := by rcases cmpRec_cases b c with h | h | h <;> omega
  clear ha hb hc
  have hxx : orI (cmpI a.time b.time) (cmpI a.seq b.seq) = cmpRec a b := rfl
  have hyy : orI (cmpI b.time c.time) (cmpI b.seq c.seq) = cmpRec b c := rfl
  have hzz : orI (cmpI a.time c.time) (cmpI a.seq c.seq) = cmpRec a c := rfl
  have h33 : orI (cmpI b.time a.time) (cmpI b.seq a.seq) = cmpRec b a := rfl
  have h55 : orI (cmpI a.time a.time) (cmpI a.seq a.seq) = cmpRec a a := rfl
  rw [f1] at h33
  rw [e5] at h55
  generalize cmpRec a b = x at *
  generalize cmpRec b c = y at *
  generalize cmpRec a c = z at *
  clear e5 f1
  unfold recV
  generalize a.labs.length = na at *
  generalize b.labs.length = nb at *
  generalize c.labs.length = nc at *
  generalize a.time = ta at *
  generalize b.time = tb at *
  generalize c.time = tc at *
  generalize (a.seq : Int) = sa at *
  generalize (b.seq : Int) = sb at *
  generalize (c.seq : Int) = sc at *
  generalize a.line = ia at *
  generalize b.line = ib at *
  generalize c.line = ic at *
  have hT3 := three_new w #[.int .i64 ta, .int .u64 sa, .slice al na ac, .string ia] #[.int .i64 tb, .int .u64 sb, .slice bl nb bc, .string ib] #[.int .i64 tc, .int .u64 sc, .slice cl nc cc, .string ic] 27
  have hbw : Below w.heap.size w (((w.alloc (.cells #[.int .i64 ta, .int .u64 sa, .slice al na ac, .string ia] 27)).alloc (.cells #[.int .i64 tb, .int .u64 sb, .slice bl nb bc, .string ib] 27)).alloc (.cells #[.int .i64 tc, .int .u64 sc, .slice cl nc cc, .string ic] 27)) := belowA (belowA (belowA (Below.refl _ _)))
  have hs3 : (((w.alloc (.cells #[.int .i64 ta, .int .u64 sa, .slice al na ac, .string ia] 27)).alloc (.cells #[.int .i64 tb, .int .u64 sb, .slice bl nb bc, .string ib] 27)).alloc (.cells #[.int .i64 tc, .int .u64 sc, .slice cl nc cc, .string ic] 27)).heap.size = w.heap.size + 3 := by simp
  have F4 : (ta == tb) = true ∨ ((ta == tb) = false ∧ (x < 0 ↔ ta < tb)) := by
    by_cases h : ta = tb
    · exact .inl (by simpa using h)
    · exact .inr ⟨by simpa using h, f4.resolve_left h⟩
  clear f4
  go_enter Tryd.func4, Tryd.ntmps4
  go_upto_region 1 with fail
  generalize ((w.alloc (.cells #[.int .i64 ta, .int .u64 sa, .slice al na ac, .string ia] 27)).alloc (.cells #[.int .i64 tb, .int .u64 sb, .slice bl nb bc, .string ib] 27)).alloc (.cells #[.int .i64 tc, .int .u64 sc, .slice cl nc cc, .string ic] 27) = w3 at *
  have HF := Lib.hid (show ∀ w', Below w3.heap.size w3 w' → (w'.cell? ⟨w.heap.size, 0, none⟩ = some (.int .i64 ta) ∧ w'.cell? ⟨w.heap.size, 1, none⟩ = some (.int .u64 sa) ∧ w'.cell? ⟨w.heap.size, 2, none⟩ = some (.slice al na ac) ∧ w'.cell? ⟨w.heap.size, 3, none⟩ = some (.string ia)) ∧
      (w'.cell? ⟨w.heap.size + 1, 0, none⟩ = some (.int .i64 tb) ∧ w'.cell? ⟨w.heap.size + 1, 1, none⟩ = some (.int .u64 sb) ∧ w'.cell? ⟨w.heap.size + 1, 2, none⟩ = some (.slice bl nb bc) ∧ w'.cell? ⟨w.heap.size + 1, 3, none⟩ = some (.string ib)) ∧
      (w'.cell? ⟨w.heap.size + 2, 0, none⟩ = some (.int .i64 tc) ∧ w'.cell? ⟨w.heap.size + 2, 1, none⟩ = some (.int .u64 sc) ∧ w'.cell? ⟨w.heap.size + 2, 2, none⟩ = some (.slice cl nc cc) ∧ w'.cell? ⟨w.heap.size + 2, 3, none⟩ = some (.string ic)) from
    fun w' h => ⟨⟨(hT3 w' h 0).1, (hT3 w' h 1).1, (hT3 w' h 2).1, (hT3 w' h 3).1⟩, ⟨(hT3 w' h 0).2.1, (hT3 w' h 1).2.1, (hT3 w' h 2).2.1, (hT3 w' h 3).2.1⟩, ⟨(hT3 w' h 0).2.2, (hT3 w' h 1).2.2, (hT3 w' h 2).2.2, (hT3 w' h 3).2.2⟩⟩)
  clear hT3
  go_upto_region 3 with (go_at_call 12; refine (CA.out _ hbw).mono ?_; rintro en w4 ⟨rfl, hb4⟩; obtain ⟨⟨p0, p1, p2, p3⟩, ⟨q0, q1, q2, q3⟩, r0, r1, r2, r3⟩ := HF.out w4 hb4)
  rcases hx with rfl | rfl | rfl
  all_goals
    rcases hy with rfl | rfl | rfl
    all_goals
      have z1 := f2
      have z2 := f3
      simp only [Int.reduceLE, Int.reduceNeg, true_imp_iff, false_imp_iff, Int.reduceLT] at z1 z2
      clear f2 f3
      first | (have z3 : ¬ 0 < z := by omega) | skip
      first | (have z4 : ¬ z < 0 := by omega) | skip
      clear z1 z2
      go_upto_region 7 with (go_at_call 19; refine (CK.out _ _ _ _ _ _ _ _ _).mono ?_; rintro en wn ⟨rfl, hbn⟩; have hBn := below_seq (w := w3) (by assumption) hbn; obtain ⟨⟨p0, p1, p2, p3⟩, ⟨q0, q1, q2, q3⟩, r0, r1, r2, r3⟩ := HF.out wn hBn)
      have hba := belowA (o := .cells #[.int .i64 ta, .int .u64 sa, .slice cl nc cc, .string ic] 27) (Below.refl wn.heap.size wn)
      have hbb := below_seq hBn hba
      have hsn : w.heap.size + 2 < wn.heap.size := by have := hBn.size; omega
      have hna : ¬ w.heap.size = wn.heap.size := by omega
      have hnb : ¬ w.heap.size + 1 = wn.heap.size := by omega
      have hnc : ¬ w.heap.size + 2 = wn.heap.size := by omega
      obtain ⟨d0, d1, d2, d3, -, -, -, -⟩ := cells4 (heap_alloc_new wn (.cells #[.int .i64 ta, .int .u64 sa, .slice cl nc cc, .string ic] 27))
      go_upto_region 10 with fail
      have hs9 : wn.heap.size < (wn.alloc (.cells #[.int .i64 ta, .int .u64 sa, .slice cl nc cc, .string ic] 27)).heap.size := by simp
      generalize wn.alloc (.cells #[.int .i64 ta, .int .u64 sa, .slice cl nc cc, .string ic] 27) = w9 at *
      have HG := Lib.hid (show ∀ W, Below w9.heap.size w9 W → W.cell? ⟨wn.heap.size, 0, none⟩ = some (.int .i64 ta) ∧ W.cell? ⟨wn.heap.size, 1, none⟩ = some (.int .u64 sa) ∧ W.cell? ⟨wn.heap.size, 2, none⟩ = some (.slice cl nc cc) ∧ W.cell? ⟨wn.heap.size, 3, none⟩ = some (.string ic) from fun W h =>
        ⟨by rw [h.cell (p := ⟨wn.heap.size, 0, none⟩) hs9]; exact d0, by rw [h.cell (p := ⟨wn.heap.size, 1, none⟩) hs9]; exact d1, by rw [h.cell (p := ⟨wn.heap.size, 2, none⟩) hs9]; exact d2, by rw [h.cell (p := ⟨wn.heap.size, 3, none⟩) hs9]; exact d3⟩)
      clear p0 p1 p2 p3 q0 q1 q2 q3 r0 r1 r2 r3 hna hnb hnc hba hs9 hsn hBn
      generalize wn.heap.size = bd at *
      obtain ⟨⟨p0, p1, p2, p3⟩, ⟨q0, q1, q2, q3⟩, -⟩ := HF.out w9 hbb
      have hB9 := Below.refl w9.heap.size w9
      rcases F4 with F4 | ⟨F4, F5⟩
      all_goals
        first | (have F6 : ta < tb := by omega) | (have F6 : ¬ ta < tb := by omega) | skip
        try clear F5
        go_wp2_with (go_at_call 19; refine (CK.out _ _ _ _ _ _ _ _ _).mono ?_; rintro en wm ⟨rfl, hbm⟩; have hBm := below_seq (w := w9) (by assumption) hbm; obtain ⟨d0, d1, d2, d3⟩ := HG.out wm hBm; obtain ⟨⟨p0, p1, p2, p3⟩, ⟨q0, q1, q2, q3⟩, -⟩ := HF.out wm (below_seq hbb hBm))
        go_ret
        exact ⟨by first | rfl | (simp; done) | (simp; omega), below_seq hbw (below_seq hbb hBm)⟩
end Go.Proofs.YtkgnhimepcihpaaDoor
