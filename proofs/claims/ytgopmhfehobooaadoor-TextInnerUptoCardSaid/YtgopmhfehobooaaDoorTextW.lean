/-
  The contract of text.runs.
-/
import Derived.Test.YtgopmhfehobooaaDoorTextE
import Derived.Test.YtgopmhfehobooaaDoorTextU
import Derived.Test.YtgopmhfehobooaaDoorTextV
import Derived.Lib.OthersKept
import Derived.Deep.RegionLaw
import Derived.Deep.AppendLies
import Derived.Outline
import Derived.Deep.DeepCutAuto
namespace Go.Proofs.YtgopmhfehobooaaDoor
open Go.RowKit

theorem word_width (l : List UInt8) (hne : l ≠ []) (hw : wordN (Lib.decodeL l).1 = true) : (encR (Lib.decodeL l).1).length = (Lib.decodeL l).2 := by
  have hv : ¬ ((Lib.decodeL l).1 = 65533 ∧ (Lib.decodeL l).2 = 1) := by
    intro h
    rw [h.1] at hw
    revert hw
    decide
  have hl := Lib.decodeL_le l hne
  unfold encR
  rw [Lib.encode_decode l hne hv, List.length_take]
  omega
theorem marks_pos (s : ByteArray) (pos : Nat) (h : pos < s.size) :
    marks pos (s.data.toList.drop pos) = ((Utf8.decode s pos).1, pos, (Utf8.decode s pos).2) :: marks (pos + (Utf8.decode s pos).2) (s.data.toList.drop (pos + (Utf8.decode s pos).2)) := by
  have hl : s.data.toList.length = s.size := by simp [ByteArray.size_data]
  rw [marks_step _ _ (by intro e; have := congrArg List.length e; simp only [List.length_drop, List.length_nil, hl] at this; omega), ← decode_drop, List.drop_drop]
theorem marks_end (s : ByteArray) (pos : Nat) (h : ¬ pos < s.size) : marks pos (s.data.toList.drop pos) = [] := by
  have hl : s.data.toList.length = s.size := by simp [ByteArray.size_data]
  rw [List.drop_of_length_le (by omega)]; rfl
theorem mem_iterAt {w : World} {B : Nat} {l : Value} {L : List Run} (h : RunsMem w B l L) {k : Nat} (hk : k < B) (s : ByteArray) (p : Nat) : RunsMem (w.iterAt k s p) B l L :=
  runsMem_above h (by rw [Lib.iterAt_size]; exact Nat.le_refl _) fun j hj _ => by
    unfold World.iterAt
    simp only
    rw [Array.getElem?_setIfInBounds_ne (by omega)]
theorem info_run : (Tryd.prog.info? 35).map (fun i => (i.zero, i.size, i.bytes)) = some (some (.agg #[.slice none 0 0, .int .i64 0, .int .i64 0]), 3, 40) := by kernel_rfl
theorem info_rune : (Tryd.prog.info? 21).map (fun i => (i.zero, i.size, i.bytes)) = some (some (.int .i32 0), 1, 4) := by kernel_rfl

theorem runsMem_shape {w : World} {B : Nat} {l : Value} {L0 : List Run} {x : Run} (h : RunsMem w B l (L0 ++ [x])) : ∃ g cap, l = .slice (some ⟨g, 0, none⟩) (L0.length + 1) cap := by
  obtain ⟨_, _, g, cap, e, _⟩ := runsMem_last (run := x.1) (f := x.2.1) (t := x.2.2) h
  exact ⟨g, cap, e⟩
theorem flat_of_owns {w : World} {A B : Nat} {e : TypeId} {sz : Nat} {v : Value} {n : Nat} {xs ys : List Value} (h : w.ownsRow A e sz v n xs) (k : w.ownsRow B e sz v n ys) : xs = ys := by
  have h1 := h.1
  have k1 := k.1
  rcases h.2 with ⟨rfl, h0⟩ | ⟨g, cap, cur, rfl, _, hh, _, _, _, ht⟩
  · subst h0
    rw [List.eq_nil_of_length_eq_zero (by omega : xs.length = 0), List.eq_nil_of_length_eq_zero (by omega : ys.length = 0)]
  · rcases k.2 with ⟨e2, _⟩ | ⟨g', cap', cur', e2, _, hh', _, _, _, ht'⟩
    · cases e2
    · injection e2 with e2 _ _
      injection e2 with e2
      injection e2 with e2 _ _
      subst e2
      rw [hh] at hh'
      injection hh' with hh'
      injection hh' with hh' _ _
      rw [← ht, ← ht', hh']
theorem grown_undrew {w w1 : World} {o : Obj} {r : Option Nat} (h : (w.alloc o).drew.grownBy w1 r) : (w.alloc o).grownBy w1 r := ⟨h.os, h.tape, h.output, h.size, h.block⟩
theorem grown_cells {W2 : World} {g i j : Nat} {u v x : Value} (hg : g < W2.heap.size) (h0 : W2.cell? ⟨g, i, none⟩ = some u) (f0 : W2.frozen? ⟨g, i, none⟩ = false) (h2 : W2.cell? ⟨g, j, none⟩ = some v) (f2 : W2.frozen? ⟨g, j, none⟩ = false)
    (hne : ∀ k, x.ownBlock = some k → k ≠ g) : ∀ (o : Obj) (w1 : World), (W2.alloc o).grownBy w1 x.ownBlock →
      w1.cell? ⟨g, i, none⟩ = some u ∧ w1.frozen? ⟨g, i, none⟩ = false ∧ w1.cell? ⟨g, j, none⟩ = some v ∧ w1.frozen? ⟨g, j, none⟩ = false := by
  intro o w1 hgr
  have hn : some g ≠ x.ownBlock := fun e => hne g e.symm rfl
  have hb : Below W2.heap.size W2 (W2.alloc o) := (Below.refl _ _).alloc (Nat.le_refl _) o
  have hs : ∀ k, (⟨g, k, none⟩ : Addr).block < (W2.alloc o).heap.size := fun k => by simp; omega
  refine ⟨?_, ?_, ?_, ?_⟩
  · rw [hgr.cell_far _ (hs i) hn, hb.cell (p := ⟨g, i, none⟩) hg]; exact h0
  · rw [hgr.frozen_far _ (hs i) hn, hb.frozen (p := ⟨g, i, none⟩) hg]; exact f0
  · rw [hgr.cell_far _ (hs j) hn, hb.cell (p := ⟨g, j, none⟩) hg]; exact h2
  · rw [hgr.frozen_far _ (hs j) hn, hb.frozen (p := ⟨g, j, none⟩) hg]; exact f2
def RunsRel (s : ByteArray) (B : Nat) (TOT : List Run) (w : World) (l o : Value) (wr : World) : Prop :=
  ∃ (pos : Nat) (op : Bool) (L : List Run), pos ≤ s.size ∧ o = .bool op ∧ wr.heap[w.heap.size]? = some (.stringIter s pos) ∧ RunsMem wr B l L ∧ gathered (op, L) (marks pos (s.data.toList.drop pos)) = TOT ∧
    (op = true → ∃ L0 run f t, L = L0 ++ [(run, f, t)]) ∧ L.length ≤ pos ∧ Below w.heap.size w wr ∧ w.heap.size < wr.heap.size

theorem rel_more {s : ByteArray} {TOT : List Run} {w W3 : World} {l : Value} {L0 : List Run} {run : List Nat} {f t pos n r : Nat} (hpl : pos + n ≤ s.size) (hT : gathered (true, L0 ++ [(run, f, t)]) (marks pos (s.data.toList.drop pos)) = TOT)
    (hmk : marks pos (s.data.toList.drop pos) = (r, pos, n) :: marks (pos + n) (s.data.toList.drop (pos + n))) (hw : wordN r = true) (hlen : L0.length + 1 ≤ pos + n) (hit : W3.heap[w.heap.size]? = some (.stringIter s (pos + n)))
    (hmem : RunsMem W3 (w.heap.size + 1) l (L0 ++ [(run ++ [r], f, pos + n)])) (hb : Below w.heap.size w W3) (hs : w.heap.size < W3.heap.size) : RunsRel s (w.heap.size + 1) TOT w l (.bool true) W3 :=
  ⟨pos + n, true, _, hpl, rfl, hit, hmem, by rw [← hT, hmk, gathered_cons, gather_more _ _ _ _ _ hw], fun _ => ⟨_, _, _, _, rfl⟩, by simp; omega, hb, hs⟩
theorem rel_new {s : ByteArray} {TOT : List Run} {w W3 : World} {l : Value} {L : List Run} {pos n r : Nat} (hpl : pos + n ≤ s.size) (hT : gathered (false, L) (marks pos (s.data.toList.drop pos)) = TOT)
    (hmk : marks pos (s.data.toList.drop pos) = (r, pos, n) :: marks (pos + n) (s.data.toList.drop (pos + n))) (hw : wordN r = true) (hlen : L.length + 1 ≤ pos + n) (hit : W3.heap[w.heap.size]? = some (.stringIter s (pos + n)))
    (hmem : RunsMem W3 (w.heap.size + 1) l (L ++ [([] ++ [r], pos, pos + n)])) (hb : Below w.heap.size w W3) (hs : w.heap.size < W3.heap.size) : RunsRel s (w.heap.size + 1) TOT w l (.bool true) W3 :=
  ⟨pos + n, true, _, hpl, rfl, hit, hmem, by rw [← hT, hmk, gathered_cons, gather_new _ _ hw]; rfl, fun _ => ⟨_, _, _, _, rfl⟩, by simp; omega, hb, hs⟩
theorem rel_no {s : ByteArray} {TOT : List Run} {w W3 : World} {l : Value} {L : List Run} {o : Bool} {pos n r : Nat} (hpl : pos + n ≤ s.size) (hT : gathered (o, L) (marks pos (s.data.toList.drop pos)) = TOT)
    (hmk : marks pos (s.data.toList.drop pos) = (r, pos, n) :: marks (pos + n) (s.data.toList.drop (pos + n))) (hw : wordN r = false) (hlen : L.length ≤ pos) (hit : W3.heap[w.heap.size]? = some (.stringIter s (pos + n)))
    (hmem : RunsMem W3 (w.heap.size + 1) l L) (hb : Below w.heap.size w W3) (hs : w.heap.size < W3.heap.size) : RunsRel s (w.heap.size + 1) TOT w l (.bool false) W3 :=
  ⟨pos + n, false, L, hpl, rfl, hit, hmem, by rw [← hT, hmk, gathered_cons, gather_no _ _ _ hw], (fun h => by cases h), by omega, hb, hs⟩
theorem heap_grown {W2 w3 : World} {k : Nat} {o : Obj} {x : Value} (hk : k < W2.heap.size) (hx : x.ownBlock ≠ some k) (h : (W2.alloc o).grownBy w3 x.ownBlock) : w3.heap[k]? = W2.heap[k]? := by
  rw [h.block k (by simp; omega) (fun e => hx e.symm), Below.heap_alloc _ _ _ hk]
theorem heap_set {W : World} {k g j : Nat} {u : Value} (hk : k < g) : (W.setCell ⟨g, j, none⟩ u).heap[k]? = W.heap[k]? :=
  ((Below.refl (k + 1) W).setCell (p := ⟨g, j, none⟩) hk u).block k (by omega)

set_option maxRecDepth 100000 in
set_option maxHeartbeats 4000000 in
theorem text_runs (s : ByteArray) (w : World) (hs : s.size ≤ 1000000000) :
    Calls Tryd.prog 14 #[.string s] w fun e w' => ∃ v, e = .returned v ∧ RunsMem w' (w.heap.size + 1) v (runsOfText s.data.toList) ∧ Below w.heap.size w w' := by
  obtain ⟨i0, hi, hz0, hz1, hz2⟩ := info_parts info_run
  obtain ⟨j0, ji, jz0, jz1, jz2⟩ := info_parts info_rune
  obtain ⟨TOT, hTOT⟩ : ∃ F, runsOfText s.data.toList = F := ⟨_, rfl⟩
  rw [hTOT]
  have HTOT := Lib.hid hTOT; clear hTOT
  go_enter Tryd.func14, Tryd.ntmps14
  go_wp2
  go_loopw [3, 4] (fun l o wr => RunsRel s (w.heap.size + 1) TOT w l o wr) (fun _ _ w' => s.size - w'.iterPos w.heap.size)
  case atStart => exact ⟨0, false, [], by omega, rfl, World.iter_heap _ _ _, .inl ⟨rfl, rfl⟩, by rw [List.drop_zero]; exact HTOT.out, by simp, by simp, below_iter w s 0, by simp [World.iter]⟩
  case round =>
    obtain ⟨pos, o, L, hpos, rfl, hit, hmem, hT, ho, hLp, hb, hsz⟩ := hrel
    have HT := Lib.hid hT
    have HIT := Lib.hid hit
    clear hT
    by_cases hp : pos < s.size
    · have hnx : ∀ ty, (Instr.next (.pointer (some ⟨w.heap.size, 0, none⟩)) true ty).run Tryd.prog wr = _ := fun ty => Lib.run_next_any_at wr w.heap.size s pos ty hit hp
      have hwd := width_pos' s pos
      have hpl := pos_le s pos hp
      have HMK := Lib.hid (marks_pos s pos hp)
      have hsc := decodeL_scalar (s.data.toList.drop pos)
      have hww := word_width (s.data.toList.drop pos) (by intro e; have := congrArg List.length e; simp [ByteArray.size_data] at this; omega)
      rw [← decode_drop] at hsc hww
      have hsm := smallN_scalar hsc
      have hmem2 := mem_iterAt hmem (k := w.heap.size) (by omega) s (pos + (Utf8.decode s pos).2)
      have hb2 := Lib.below_iterAt hb (Nat.le_refl _) s (pos + (Utf8.decode s pos).2)
      have hit2 := Lib.iterAt_heap wr w.heap.size s pos (pos + (Utf8.decode s pos).2) hit
      have hsz2 : w.heap.size < (wr.iterAt w.heap.size s (pos + (Utf8.decode s pos).2)).heap.size := by rw [Lib.iterAt_size]; exact hsz
      have HM := Lib.hid (iterPos_of hit)
      clear hit hmem hb hsz
      have cW := fun W => utf_Word (((Utf8.decode s pos).1 : Nat) : Int) W (by omega) (by unfold scalar at hsc; omega)
      rw [wordB_nat] at cW
      have cS := fun W => utf_Small (((Utf8.decode s pos).1 : Nat) : Int) W (by omega) (by unfold scalar at hsc; omega)
      rw [smallZ_nat] at cS
      have hr1 : smallN (Utf8.decode s pos).1 ≤ 1114111 := by unfold scalar at hsm; omega
      have HEN := Lib.hid (utf8_encode (Utf8.decode s pos).1 hsc)
      clear hsc hsm
      generalize Utf8.decode s pos = d at *
      obtain ⟨r, n⟩ := d
      simp only at *
      generalize hW2 : wr.iterAt w.heap.size s (pos + n) = W2 at *
      have HW2 := Lib.hid hW2; clear hW2
      have HIT2 := Lib.hid hit2; clear hit2
      by_cases hword : wordN r = true
      · have HWW := Lib.hid (hww hword)
        rw [hword] at cW
        have HWR := Lib.hid hword
        clear hww hword
        generalize hsr : smallN r = sr at *
        have HSR := Lib.hid hsr; clear hsr
        cases o
        case' false =>
          obtain ⟨E, hE, hown, _⟩ := runsMem_owns hmem2
          obtain ⟨la, lc, rfl⟩ := owns_slice hown
          have hnb : (Value.slice la L.length lc).ownBlock ≠ some w.heap.size := fun e => by have := (hown.lt _ e).1; omega
          have HNB := Lib.hid hnb
          have HNC := Lib.hid (fun k e => (hown.lt k e).1 : ∀ k, (Value.slice la L.length lc).ownBlock = some k → w.heap.size + 1 ≤ k)
          clear hnb ho
          go_upto_region 11 with (first | (go_at_call 19; refine (cW _).mono ?_; rintro e w' ⟨rfl, rfl⟩) | (at_builtin; refine wpList_append_lies _ rfl _ _ 31 rfl (w.heap.size + 1) 35 i0 (.agg #[.slice none 0 0, .int .i64 0, .int .i64 0]) 3 40 Tryd.underlying31 hi hz0 hz1 hz2 rfl (by decide) _ _ _ rfl (hown.alloc _) ⟨W2.heap.size, 0, none⟩ 1 1 [.slice none 0 0, .int .i64 (pos : Int), .int .i64 0] rfl rfl (World.news_of_block (heap_alloc_new _ _)) (by simp [Value.oneCell']) (by omega) (by unfold maxLen; omega) (by omega) (by simp; omega) _ rfl ?_; intro g0 cap0 WX hownX hgrX _ hltX))
          have hmX : RunsMem WX (w.heap.size + 1) (.slice (some ⟨g0, 0, none⟩) (L.length + 1) cap0) (L ++ [([], pos, 0)]) :=
            runsMem_new hmem2 _ pos 0 (by omega) (fun E' hE' hown' => by
              have e1 : flat3 (E'.zip (L.map (·.2))) = flat3 (E.zip (L.map (·.2))) := flat_of_owns hown' hown
              rw [e1]; exact hownX) hgrX
          have hszX' := hgrX.size
          simp only [World.size_alloc] at hszX'
          have hbX := (hb2.alloc (by omega) _).grown hgrX (by simp; omega) (fun k hk => by have := HNC.out k hk; omega)
          have HITX := Lib.hid ((heap_grown hsz2 HNB.out hgrX).trans HIT2.out)
          have hszX : w.heap.size < WX.heap.size := by omega
          have hL0 : L.length ≤ pos := hLp
          have hL1 : L.length + 1 ≤ pos + n := by omega
          obtain ⟨run, hrun⟩ : ∃ run : List Nat, run = [] := ⟨_, rfl⟩
          obtain ⟨f, hf⟩ : ∃ f, f = pos := ⟨_, rfl⟩
          have HREL := Lib.hid (fun W3 l => by rw [hrun, hf]; exact rel_new hpl HT.out HMK.out HWR.out hL1 : ∀ (W3 : World) (l : Value), W3.heap[w.heap.size]? = some (.stringIter s (pos + n)) → RunsMem W3 (w.heap.size + 1) l (L ++ [(run ++ [r], f, pos + n)]) → Below w.heap.size w W3 → w.heap.size < W3.heap.size → RunsRel s (w.heap.size + 1) TOT w l (.bool true) W3)
          obtain ⟨t, ht⟩ : ∃ t, t = 0 := ⟨_, rfl⟩
          have hmY : RunsMem WX (w.heap.size + 1) (.slice (some ⟨g0, 0, none⟩) (L.length + 1) cap0) (L ++ [(run, f, t)]) := by rw [hrun, hf, ht]; exact hmX
          clear hmX ht hf hrun hL1
          have hmX := hmY
          clear hmY hown hE hmem2 hgrX hownX hb2 hsz2 HIT2 hLp HNB HNC hltX HT hszX' cW
          generalize L = L0 at *
        case' true =>
          obtain ⟨L0, run, f, t, rfl⟩ := ho rfl
          have hL0 : L0.length ≤ pos := by simp at hLp; omega
          have hL1 : L0.length + 1 ≤ pos + n := by simp at hLp; omega
          have HREL := Lib.hid (fun W3 l => rel_more hpl HT.out HMK.out HWR.out hL1 : ∀ (W3 : World) (l : Value), W3.heap[w.heap.size]? = some (.stringIter s (pos + n)) → RunsMem W3 (w.heap.size + 1) l (L0 ++ [(run ++ [r], f, pos + n)]) → Below w.heap.size w W3 → w.heap.size < W3.heap.size → RunsRel s (w.heap.size + 1) TOT w l (.bool true) W3)
          obtain ⟨g0, cap0, rfl⟩ := runsMem_shape hmem2
          have hmX := hmem2
          clear ho hLp hmem2 HT hL1
          go_upto_region 11 with (first | (go_at_call 19; refine (cW _).mono ?_; rintro e w' ⟨rfl, rfl⟩))
          clear cW
          obtain ⟨WX, hWX⟩ : ∃ WX : World, WX = W2 := ⟨_, rfl⟩
          subst hWX
          have hbX := hb2
          have hszX := hsz2
          have HITX := HIT2
          clear hb2 hsz2 HIT2
        all_goals
          obtain ⟨wv, K, g, cap, hsl, hBg, hgs, hKs, hwown, hc0, hc2, hfz, hwvb, hBK, hto, hupd⟩ := runsMem_last hmX
          injection hsl with e2 _ e3
          injection e2 with e2
          injection e2 with e2 _ _
          subst e2
          subst e3
          have hfz0 := hfz (L0.length * 3)
          have hfz2 := hfz (L0.length * 3 + 2)
          obtain ⟨wa, wc, rfl⟩ := owns_slice hwown
          have HVB := Lib.hid hwvb
          have HTO := Lib.hid hto
          have HUP := Lib.hid hupd
          have HWO := Lib.hid hwown
          have HMX := Lib.hid hmX
          clear hfz hwvb hto hupd hwown hmX hnx
          have hm32 := wr32_len run
          have HWL := Lib.hid (wr32_snoc run r)
          generalize hmm : (wr32 run).length = m at *
          have HMM := Lib.hid hmm; clear hmm
          have hes : (Utf8.encode (r : Int)).size = n := by rw [HEN.out, ← HWW.out]; rfl
          by_cases hfull : m < 32
          · have hdec : decide ((m : Int) < 32) = true := by simp; omega
            go_upto_region 13 with fail
            have HHW := Lib.hid (fun o => HWO.out.alloc o : ∀ o, (WX.alloc o).ownsRow K 21 1 (Value.slice wa m wc) m (List.map runeCell (wr32 run)))
            have HST := Lib.hid (grown_cells hgs hc0 hfz0 hc2 hfz2 (fun k hk => (HVB.out k hk).1))
            go_region_law (first | (refine step_append_lies _ rfl _ _ 33 rfl K 21 j0 (.int .i32 0) 1 4 Tryd.underlying33 ji jz0 jz1 jz2 rfl (by decide) _ _ _ rfl (by first | exact HHW.out _ | exact (HHW.out _).drew) ⟨WX.heap.size, 0, none⟩ 1 1 [runeCell sr] rfl rfl (by exact cell_one_new _ _ _) (by simp [runeCell, Value.oneCell']) (by omega) (by unfold maxLen; omega) (by omega) (by simp; omega) _ rfl ?_; intro g1 cap1 w3 hown3 hgr3 _ hlt3; have hgr4 := grown_undrew hgr3; obtain ⟨k1, k2, k3, k4⟩ := HST.out _ _ hgr4) | (go_simp; go_at_call 20; refine (cS _).mono ?_; rintro e w' ⟨rfl, rfl⟩))
            all_goals
              clear hgr3
              go_wp2
              go_roundw
              case rel =>
                have hmm : RunsMem (w3.setCell ⟨g0, L0.length * 3, none⟩ (.slice (some ⟨g1, 0, none⟩) (m + 1) cap1)) (w.heap.size + 1) (.slice (some ⟨g0, 0, none⟩) (L0.length + 1) cap0) (L0 ++ [(run ++ [r], f, t)]) :=
                  HUP.out _ _ _ _ hgr4 (by rw [HWL.out, if_pos hfull, HSR.out, List.length_append, HMM.out, List.map_append]; exact hown3)
                obtain ⟨_, _, g', cap', e1, _, _, _, _, _, _, _, _, _, hto, _⟩ := runsMem_last hmm
                injection e1 with e2 _ e3
                injection e2 with e2
                injection e2 with e2 _ _
                subst e2
                have hbb := ((hbX.alloc (by omega) _).grown hgr4 (by simp; omega) (fun k hk => by have := (HVB.out k hk).2; omega))
                have hsz3 := hgr4.size
                simp only [World.size_alloc] at hsz3
                exact HREL.out _ _ (by rw [heap_set (by omega), heap_set (by omega), heap_grown hszX (fun e => by have := (HVB.out _ e).2; omega) hgr4]; exact HITX.out) (hto (pos + n)) ((hbb.setCell (p := ⟨_, _, none⟩) (by simp only; omega) _).setCell (p := ⟨_, _, none⟩) (by simp only; omega) _) (by simp; omega)
              case measure =>
                rw [iterPos_of (by rw [heap_set (by omega), heap_set (by omega), heap_grown hszX (fun e => by have := (HVB.out _ e).2; omega) hgr4]; exact HITX.out), HM.out]
                omega
          · have hdec : decide ((m : Int) < 32) = false := by simp; omega
            go_wp2
            go_roundw
            case rel =>
              have hmm : RunsMem WX (w.heap.size + 1) (.slice (some ⟨g0, 0, none⟩) (L0.length + 1) cap0) (L0 ++ [(run ++ [r], f, t)]) := runsMem_full HMX.out (by rw [HWL.out, if_neg hfull])
              obtain ⟨_, _, g', cap', e1, _, _, _, _, _, _, _, _, _, hto, _⟩ := runsMem_last hmm
              injection e1 with e2 _ e3
              injection e2 with e2
              injection e2 with e2 _ _
              subst e2
              exact HREL.out _ _ (by rw [heap_set (by omega)]; exact HITX.out) (hto (pos + n)) (hbX.setCell (p := ⟨_, _, none⟩) (by simp only; omega) _) (by simp; omega)
            case measure =>
              rw [iterPos_of (by rw [heap_set (by omega)]; exact HITX.out), HM.out]
              omega
      · have hwf : wordN r = false := by simpa using hword
        rw [hwf] at cW
        have HWF := Lib.hid hwf
        clear hword hwf hww
        go_wp2_with (first | (go_at_call 19; refine (cW _).mono ?_; rintro e w' ⟨rfl, rfl⟩))
        go_roundw
        case rel => exact rel_no hpl HT.out HMK.out HWF.out hLp HIT2.out hmem2 hb2 hsz2
        case measure => rw [iterPos_of HIT2.out, HM.out]; omega
    · have hnx : ∀ ty, (Instr.next (.pointer (some ⟨w.heap.size, 0, none⟩)) true ty).run Tryd.prog wr = _ := fun ty => Lib.run_next_end_at wr w.heap.size s pos ty hit hp
      have e := HT.out
      rw [marks_end s pos hp] at e
      have e' : L = TOT := e
      subst e'
      go_wp2
      go_ret
      exact ⟨_, rfl, hmem, hb⟩

end Go.Proofs.YtgopmhfehobooaaDoor
