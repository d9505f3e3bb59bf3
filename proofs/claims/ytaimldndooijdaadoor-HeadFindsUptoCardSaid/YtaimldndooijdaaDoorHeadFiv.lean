/-
  Plain: records that may be, numbered anew; what HeadFinds asks.
-/
import Derived.Test.YtaimldndooijdaaDoorHeadFor
namespace Go.Proofs.YtaimldndooijdaaDoor
open Go.RowKit
def filt : Nat → List RecL → List RecL
  | _, [] => []
  | i, z :: t => if chkRec z.1 = 0 then ({ z.1 with seq := i }, z.2) :: filt (i + 1) t else filt (i + 1) t
theorem filt_snoc : ∀ (i : Nat) (Z : List RecL) (z : RecL), filt i (Z ++ [z]) = filt i Z ++ if chkRec z.1 = 0 then [({ z.1 with seq := i + Z.length }, z.2)] else []
  | i, [], z => by simp [filt]
  | i, y :: t, z => by
    simp only [List.cons_append, filt, filt_snoc (i + 1) t z, List.length_cons]
    rw [show i + 1 + t.length = i + (t.length + 1) by omega]
    split <;> simp
theorem chk_seq (r : Rec) (s : Nat) : chkRec { r with seq := s } = chkRec r := rfl
theorem filt_len : ∀ (i : Nat) (Z : List RecL), (filt i Z).length ≤ Z.length
  | _, [] => Nat.le_refl _
  | i, z :: t => by
    have := filt_len (i + 1) t
    unfold filt
    split <;> simp <;> omega
theorem filt_mem : ∀ (i : Nat) (Z : List RecL), ∀ y ∈ filt i Z, (∃ z ∈ Z, y.2 = z.2 ∧ y.1.labs = z.1.labs ∧ y.1.line = z.1.line) ∧ chkRec y.1 = 0 ∧ i ≤ y.1.seq
  | i, z :: t, y, h => by
    unfold filt at h
    split at h
    · rename_i hc
      rcases List.mem_cons.1 h with rfl | h
      · exact ⟨⟨z, by simp, rfl, rfl, rfl⟩, hc, Nat.le_refl _⟩
      · obtain ⟨⟨x, hx, h1⟩, h2, h3⟩ := filt_mem (i + 1) t y h
        exact ⟨⟨x, by simp [hx], h1⟩, h2, by omega⟩
    · obtain ⟨⟨x, hx, h1⟩, h2, h3⟩ := filt_mem (i + 1) t y h
      exact ⟨⟨x, by simp [hx], h1⟩, h2, by omega⟩
theorem filt_seqs : ∀ (i : Nat) (Z : List RecL), Seqs ((filt i Z).map Prod.fst)
  | _, [] => List.Pairwise.nil
  | i, z :: t => by
    have ih := filt_seqs (i + 1) t
    unfold filt
    split
    · unfold Seqs at *
      rw [List.map_cons, List.pairwise_cons]
      refine ⟨fun r hr => ?_, ih⟩
      obtain ⟨y, hy, rfl⟩ := List.mem_map.1 hr
      have := (filt_mem (i + 1) t y hy).2.2
      show i < _
      omega
    · exact ih
theorem adds_all {L : List Rec} (hc : ∀ r ∈ L, chkRec r = 0) (hs : Seqs L) (hl : L.length ≤ 65536) : addE false 0 0 L = 0 :=
  addE_zero.2 ⟨putBad_all hc, rises_spec.2 ⟨fun h => (by cases h), hs⟩, by omega⟩
theorem adds_two {L : List Rec} {K : Nat} (hK : K ≤ L.length) (hc : ∀ r ∈ L, chkRec r = 0) (hs : Seqs L) (hl : L.length ≤ 65536) :
    addE false 0 0 (L.take K) = 0 ∧ addE (false || decide (0 < (L.take K).length)) (lastS 0 (L.take K)) K (L.drop K) = 0 := by
  have hr : rises false 0 L = true := rises_spec.2 ⟨fun h => (by cases h), hs⟩
  have e := rises_append (L.take K) (L.drop K) false 0
  rw [List.take_append_drop, hr] at e
  obtain ⟨h1, h2⟩ : rises false 0 (L.take K) = true ∧ rises (false || decide (L.take K ≠ [])) (lastS 0 (L.take K)) (L.drop K) = true := by
    have := e.symm
    rw [Bool.and_eq_true] at this
    exact this
  have hlt : (L.take K).length = K := by rw [List.length_take, Nat.min_eq_left hK]
  refine ⟨addE_zero.2 ⟨putBad_all fun r hr => hc r (List.mem_of_mem_take hr), h1, by omega⟩, addE_zero.2 ⟨putBad_all fun r hr => hc r (List.mem_of_mem_drop hr), ?_, by rw [List.length_drop]; omega⟩⟩
  have hd : decide (0 < (L.take K).length) = decide (L.take K ≠ []) := decide_eq_decide.2 List.length_pos_iff
  rw [hd]
  exact h2
theorem same_order {L A B C : List Rec} {K : Nat} (hs : Seqs L) (hA : A.Perm ([] ++ L)) (sA : Sorted A) (hB : B.Perm ([] ++ L.take K)) (hC : C.Perm (B ++ L.drop K)) (sC : Sorted C) : A = C := by
  rw [List.nil_append] at hA hB
  have h1 : C.Perm L := by
    refine hC.trans ?_
    have := List.Perm.append_right (L.drop K) hB
    rw [List.take_append_drop] at this
    exact this
  exact sorted_unique sA sC (hs.one.perm hA.symm) (hA.trans h1.symm)
theorem sorted_strict {L A : List Rec} (hs : Seqs L) (hA : A.Perm ([] ++ L)) (sA : Sorted A) {i : Nat} (hi : i + 1 < A.length) : cmpRec A[i] A[i + 1] < 0 := by
  rw [List.nil_append] at hA
  exact List.pairwise_iff_getElem.1 ((hs.one.perm hA.symm).strict sA) i (i + 1) (by omega) hi (Nat.lt_succ_self _)
end Go.Proofs.YtaimldndooijdaaDoor
/-
  The walk of HeadFinds.
-/
namespace Go.Proofs.YtaimldndooijdaaDoor
open Go.RowKit
theorem plI_len (t : Txt) (L : List Rec) : (plI t L).length ≤ L.length := by
  unfold plI
  rw [List.length_map]
  exact places_len t L 0
theorem part_len (L : List Rec) (T : List Txt) (j : Nat) (t : Txt) : (part L T j t).length ≤ L.length + 1 := by
  unfold part
  rw [List.length_append]
  have := plI_len t L
  split <;> simp <;> omega
theorem empty_head {w : World} {q : Nat} (h : w.heap[q]? = some (headObj (.slice none 0 0) (.map none) ((0 : Nat) : Int) false)) : HeadAt w q 0 false [] :=
  ⟨_, _, [], h, ROwn.nil _ _, rfl, by decide, fun r hr => (by cases hr), .inl ⟨rfl, rfl⟩⟩
set_option maxRecDepth 100000 in
set_option maxHeartbeats 8000000 in
theorem finds_walk13 (v : Value) (Z : List RecL) (c : Int) (t : Txt) (w : World) (hT : Tabs w) (h : RRow w v Z) (hZ : Z.length ≤ 1048576) (ht : t.length ≤ 1000000000) :
    Calls Tryd.prog 4 #[v, .int .i64 c, strV t] w fun e w' => e = .returned (.bool true) ∧ Below w.heap.size w w' := by
  have CA := Lib.hid (law13_awake w hT)
  have H := Lib.hid h
  have HT := Lib.hid hT
  obtain ⟨al, cl, rfl, hlc, hlc2⟩ := h.shape
  unfold maxLen at hlc2
  clear h hT
  unfold strV
  obtain ⟨ts, hts⟩ : ∃ s, (⟨t.toArray⟩ : ByteArray) = s := ⟨_, rfl⟩
  rw [hts]
  have HTS0 := Lib.hid hts
  clear hts
  go_enter Tryd.func4, Tryd.ntmps4
  go_upto_region 3 with (go_at_call 6; refine CA.out.mono ?_; rintro e w1 ⟨rfl, hb1⟩)
  clear CA
  go_wp2_with fail
  go_loopw [7, 8] (fun m i wr => ∃ k : Nat, k ≤ Z.length ∧ i = .int .i64 k ∧ wr.ownsRow w1.heap.size 25 4 m (filt 0 (Z.take k)).length (recsCells (filt 0 (Z.take k))) ∧ Below w1.heap.size w1 wr) (fun _ i _ => Z.length - (intOf i).toNat)
  case atStart => exact ⟨0, by omega, rfl, World.ownsRow_nil _ _ _ _, Below.refl _ _⟩
  case round =>
    obtain ⟨k, hk, rfl, hown, hbr⟩ := hrel
    have hszr := hbr.size
    have hbw := below_seq hb1 hbr
    by_cases hlz : k < Z.length
    · obtain ⟨bz, off, rfl, hbz, g0, g1, g2, g3⟩ := (H.out.below hbw).at hlz
      have hat := (H.out.2 _ (List.getElem_mem hlz))
      have hft : filt 0 (Z.take (k + 1)) = filt 0 (Z.take k) ++ if chkRec Z[k].1 = 0 then [({ Z[k].1 with seq := k }, Z[k].2)] else [] := by
        rw [List.take_succ_eq_append_getElem hlz, filt_snoc, List.length_take, Nat.min_eq_left (by omega), Nat.zero_add]
      have hrl := filt_len 0 (Z.take k)
      rw [List.length_take, Nat.min_eq_left (by omega)] at hrl
      obtain ⟨⟨r, lv⟩, hzz⟩ : ∃ z, Z[k] = z := ⟨_, rfl⟩
      rw [hzz] at hat hft g0 g1 g2 g3
      simp only at hat hft g0 g1 g2 g3
      have hck := fun W (hW : Below w.heap.size w W) => rec_Check { r with seq := k } lv W ((hat.below hW).same rfl rfl) (Utf8Tabs_below HT.out hW)
      rw [chk_seq] at hck
      obtain ⟨la, lc, rfl, -, -⟩ := hat.1.shape
      unfold recV at hck
      generalize filt 0 (Z.take k) = Y at *
      have hYl : Y.length ≤ 1048576 := by omega
      have HFT := Lib.hid hft
      have CK := Lib.hid hck
      clear hft hrl hzz hat hck
      simp only at CK
      generalize r.labs.length = nl at *
      have hcv : IntKind.u64.wrap (k : Int) = (k : Int) := by rw [IntKind.wrap_u64]; omega
      go_upto_region 8 with fail
      have hx := heap_alloc_new wr (.cells #[.int .i64 r.time, .int .u64 (r.seq : Int), .slice la nl lc, .string r.line] 25)
      have hbb := belowA (o := .cells #[.int .i64 r.time, .int .u64 (r.seq : Int), .slice la nl lc, .string r.line] 25) (Below.refl wr.heap.size wr)
      clear g0 g1 g2 g3
      generalize wr.alloc (.cells #[.int .i64 r.time, .int .u64 (r.seq : Int), .slice la nl lc, .string r.line] 25) = wx at *
      have e1 := cell_own hx (j := 1) rfl
      have ef := Lib.frozen_of_heap hx 1
      have hx2 := heap_setCell_same wx wr.heap.size 1 _ _ (.int .u64 (k : Int)) hx
      have hb3 : Below wr.heap.size wr (wx.setCell ⟨wr.heap.size, 1, none⟩ (.int .u64 (k : Int))) := hbb.setCell (Nat.le_refl _) _
      have hbs : wr.heap.size < (wx.setCell ⟨wr.heap.size, 1, none⟩ (.int .u64 (k : Int))).heap.size := (Array.getElem?_eq_some_iff.1 hx2).1
      have HX2 := Lib.hid hx2
      clear hx2 hx
      go_upto_region 9 with fail
      have q0 := cell_own HX2.out (j := 0) rfl
      have q1 := cell_own HX2.out (j := 1) rfl
      have q2 := cell_own HX2.out (j := 2) rfl
      have q3 := cell_own HX2.out (j := 3) rfl
      clear e1 ef
      generalize wx.setCell ⟨wr.heap.size, 1, none⟩ (.int .u64 (k : Int)) = w3 at *
      have hbw3 := below_seq hbw hb3
      obtain ⟨C, hC⟩ : ∃ C, chkRec r = C := ⟨_, rfl⟩
      rw [hC] at CK HFT
      by_cases hc0 : C = 0
      · have hft2 := HFT.out
        rw [if_pos hc0] at hft2
        have HFT2 := Lib.hid hft2
        subst hc0
        clear HFT hft2 hC
        go_upto_region 10 with (go_at_call 10; refine (CK.out _ hbw3).mono ?_; rintro e w4 ⟨rfl, hb4⟩)
        have hx4 := (hb4.block wr.heap.size hbs).trans HX2.out
        have r0 := cell_own hx4 (j := 0) rfl
        have r1 := cell_own hx4 (j := 1) rfl
        have r2 := cell_own hx4 (j := 2) rfl
        have r3 := cell_own hx4 (j := 3) rfl
        have hb34 := below_seq hb3 hb4
        have hown3 := owns_below hown hb34
        have hs3 := hb34.size
        clear hx4 q0 q1 q2 q3 hown
        go_wp2_with (at_builtin; refine wpList_append_src rfl _ _ _ _ rfl w1.heap.size ER _ Y.length (recsCells Y) rfl (hown3.alloc _) _ 1 [.int .i64 r.time, .int .u64 (k : Int), .slice la nl lc, .string r.line] rfl (by exact src_last (cs := #[.int .i64 r.time, .int .u64 (k : Int), .slice la nl lc, .string r.line]) Tryd.underlying31 1 1 4 rfl rfl (by simp [Value.oneCell'])) (by unfold maxLen; omega) (by omega) (by simp; omega) ?_; intro v5 w5 hown5 hgr5 _ _)
        go_roundw
        case rel =>
          refine ⟨k + 1, by omega, by go_num, ?_, (belowA ((hbr.trans (hb34.mono hszr)))).grown hgr5 (by simp; omega) (fun j hj => (hown3.lt j hj).1)⟩
          rw [HFT2.out, recsCells_append, List.length_append]
          exact hown5
        case measure => simp [intOf]; omega
      · have hft2 := HFT.out
        rw [if_neg hc0, List.append_nil] at hft2
        have HFT2 := Lib.hid hft2
        have hcb : (C == 0) = false := by simpa using hc0
        clear HFT hft2 hC hc0
        go_wp2_with (go_at_call 10; refine (CK.out _ hbw3).mono ?_; rintro e w4 ⟨rfl, hb4⟩)
        go_roundw
        case rel =>
          refine ⟨k + 1, by omega, by go_num, ?_, hbr.trans ((below_seq hb3 hb4).mono hszr)⟩
          rw [HFT2.out]
          exact owns_below hown (below_seq hb3 hb4)
        case measure => simp [intOf]; omega
    · obtain rfl : k = Z.length := by omega
      rw [List.take_length] at hown
      have hYl := filt_len 0 Z
      have hYm : ∀ y ∈ filt 0 Z, ∀ W, Below w.heap.size w W → RecAt W y.2 y.1 := fun y hy W hW => by
        obtain ⟨⟨z, hz, e1, e2, e3⟩, -, -⟩ := filt_mem 0 Z y hy
        rw [e1]
        exact ((H.out.2 z hz).below hW).same e2 e3
      have hYc : ∀ r ∈ (filt 0 Z).map Prod.fst, chkRec r = 0 := fun r hr => by
        obtain ⟨y, hy, rfl⟩ := List.mem_map.1 hr
        exact (filt_mem 0 Z y hy).2.1
      have hYs := filt_seqs 0 Z
      have HYM := Lib.hid hYm
      have HYC := Lib.hid hYc
      have HYS := Lib.hid hYs
      have hYle : (filt 0 Z).length ≤ 1048576 := by omega
      clear hYs hYm hYc hlz hk hYl
      generalize filt 0 Z = Y at *
      have hLs := HYS.out
      have FX : ∀ K, K ≤ Y.length → Y.length ≤ 65536 → (addE false 0 0 ((Y.take K).map Prod.fst) = 0 ∧ ∀ A' : List Rec, A'.Perm ([] ++ (Y.take K).map Prod.fst) → addE (false || decide (0 < (Y.take K).length)) (lastS 0 ((Y.take K).map Prod.fst)) A'.length ((Y.drop K).map Prod.fst) = 0) ∧
          ∀ A B C : List Rec, A.Perm ([] ++ Y.map Prod.fst) → Sorted A → B.Perm ([] ++ (Y.take K).map Prod.fst) → C.Perm (B ++ (Y.drop K).map Prod.fst) → Sorted C → A = C := fun K hK hl => by
        rw [List.map_take, List.map_drop]
        have hK' : K ≤ (Y.map Prod.fst).length := by rw [List.length_map]; exact hK
        obtain ⟨f1, f2⟩ := adds_two hK' HYC.out hLs (by rw [List.length_map]; exact hl)
        refine ⟨⟨f1, fun A' hA' => ?_⟩, fun A B C hA sA hB hC sC => same_order hLs hA sA hB hC sC⟩
        have e1 : A'.length = K := by rw [hA'.length_eq, List.nil_append, List.length_take, Nat.min_eq_left hK']
        have e2 : (Y.take K).length = ((Y.map Prod.fst).take K).length := by rw [List.length_take, List.length_take, List.length_map]
        rw [e1, e2]
        exact f2
      have F1 := fun (hl : Y.length ≤ 65536) => adds_all HYC.out hLs (by rw [List.length_map]; exact hl)
      have HFX := Lib.hid FX
      have HF1 := Lib.hid F1
      have hrowY := fun W (hW : Below wr.heap.size wr W) => (⟨owns_below hown hW, fun y hy => HYM.out y hy W (below_seq hbw hW)⟩ : W.ownsRow w1.heap.size 25 4 u7 Y.length (recsCells Y) ∧ ∀ y ∈ Y, RecAt W y.2 y.1)
      have HRY := Lib.hid hrowY
      have hcase : (∃ g cy, u7 = .slice (some ⟨g, 0, none⟩) Y.length cy ∧ Y.length ≤ cy ∧ cy ≤ maxLen) ∨ (u7 = .slice none 0 0 ∧ Y = []) := by
        rcases hown.2 with ⟨e, h0⟩ | ⟨g, cap, cur, e, _, _, h1, h2, _⟩
        · exact .inr ⟨e, List.eq_nil_of_length_eq_zero h0⟩
        · exact .inl ⟨g, cap, e, h1, h2⟩
      clear hrowY hown FX F1 hLs
      by_cases hbig : 65536 < Y.length
      · rcases hcase with ⟨g, cy, rfl, hcy, hcm⟩ | ⟨rfl, hYnil⟩
        · unfold maxLen at hcm
          have hbi : (65536 : Int) < (Y.length : Int) := by omega
          go_wp2
          go_ret
          exact ⟨rfl, hbw⟩
        · rw [hYnil] at hbig
          exact absurd hbig (by decide)
      · rcases hcase with ⟨g, cy, rfl, hcy, hcm⟩ | ⟨rfl, hYnil⟩
        case' inl =>
          unfold maxLen at hcm
          have hbi : ¬ (65536 : Int) < (Y.length : Int) := by omega
          have HNE := Lib.hid (fun (n : Nat) (hn : n = Y.length) => (by rw [hn]; simp : ((n : Int) != (Y.length : Int)) = false))
          obtain ⟨K, hK, hKm⟩ := umod c Y.length
          have HM := Lib.hid (fun W (hW : Below wr.heap.size wr W) => (⟨argRow_owns (HRY.out W hW).1, (HRY.out W hW).2⟩ : RRow W (.slice (some ⟨g, 0, none⟩) Y.length cy) Y))
          have HA := Lib.hid (fun W (hW : Below wr.heap.size wr W) => mine_take (HRY.out W hW).1 hK (HRY.out W hW).2 rfl)
          have i1 : (0 : Int) ≤ (K : Int) := by omega
          have i6 : (K : Int) ≤ (Y.length : Int) := by omega
          obtain ⟨⟨F2, F3⟩, F4⟩ := HFX.out K hK (by omega)
          have G1 := Lib.hid (HF1.out (by omega))
          have G2 := Lib.hid F2
          have G3 := Lib.hid F3
          have G4 := Lib.hid F4
          clear F2 F3 F4
          by_cases hKc : K < cy
          case' pos =>
            have HB := Lib.hid (fun W (hW : Below wr.heap.size wr W) => mine_drop (a' := some ⟨g, K * 4, none⟩) (c' := cy - K) (HRY.out W hW).1 hK (HRY.out W hW).2 rfl rfl ⟨by omega, by omega⟩ (fun b off e _ => by cases e; rw [Nat.zero_add]))
            have i2 : (K : Int) ≤ (cy : Int) := by omega
            have i3 : ¬ cy = 0 := by omega
            have i5 : ¬ cy - K = 0 := by omega
            go_upto_region 14 with fail
            clear hKm
          case' neg =>
            obtain rfl : K = cy := by omega
            have HB := Lib.hid (fun W (hW : Below wr.heap.size wr W) => mine_drop (a' := some ⟨g, 0, none⟩) (c' := 0) (m := 0) (HRY.out W hW).1 hK (HRY.out W hW).2 rfl (by omega) ⟨by omega, by omega⟩ (fun b off e h => by omega))
            have i2 : (K : Int) ≤ (K : Int) := by omega
            have i5 : K - K = 0 := by omega
            go_upto_region 14 with fail
            clear hKm
        case' inr =>
          have hY0 : Y.length = 0 := by rw [hYnil]; rfl
          have HNE := Lib.hid (fun (n : Nat) (hn : n = Y.length) => (by rw [hn, hY0]; rfl : ((n : Int) != 0) = false))
          obtain ⟨K, hK0⟩ : ∃ k : Nat, k = 0 := ⟨0, rfl⟩
          have hK : K ≤ Y.length := by omega
          have hn1 : Y.take K = [] := by rw [hYnil, List.take_nil]
          have hn2 : Y.drop K = [] := by rw [hYnil, List.drop_nil]
          obtain ⟨⟨F2, F3⟩, F4⟩ := HFX.out K hK (by omega)
          have G1 := Lib.hid (HF1.out (by omega))
          have G2 := Lib.hid F2
          have G3 := Lib.hid F3
          have G4 := Lib.hid F4
          have HM := Lib.hid (fun W (_ : Below wr.heap.size wr W) => (by rw [hYnil]; exact rrow_nil W : RRow W (.slice none 0 0) Y))
          have HA := Lib.hid (fun W (_ : Below wr.heap.size wr W) => (by rw [hn1]; exact rrow_nil W : RRow W (.slice none 0 0) (Y.take K)))
          have HB := Lib.hid (fun W (_ : Below wr.heap.size wr W) => (by rw [hn2]; exact rrow_nil W : RRow W (.slice none 0 0) (Y.drop K)))
          have hKm1 : (IntKind.u64.wrap c).tmod 1 = 0 := by simp
          clear F2 F3 F4 hn1 hn2 hK0 hYnil hY0
          go_upto_region 14 with fail
          clear hKm1
        all_goals
          have hbp : ∀ pp, wr.heap.size ≤ pp → ∀ a b, Below wr.heap.size wr a → a.grownBy b (some pp) → Below wr.heap.size wr b := fun pp hpp a b ha hg => ha.grown hg ha.size (fun k hk => by cases hk; exact hpp)
          have HBP := Lib.hid hbp
          clear hbp
          go_upto_region 15 with (go_at_call 11; refine (hd_New _).mono ?_; rintro e w2 ⟨rfl, hdh, hb2⟩)
          generalize hpp : (⟨wr.heap.size, 0, none⟩ : Addr) = pa at *
          generalize hpe : wr.heap.size = p at hpp hdh
          have hpw : wr.heap.size ≤ p := Nat.le_of_eq hpe
          subst hpp
          clear hpe
          go_upto_region 16 with (go_at_call 11; refine (head_New _).mono ?_; rintro e w3 ⟨rfl, rfl⟩)
          have hq3 := heap_alloc_new w2 (headObj (.slice none 0 0) (.map none) 0 false)
          have hb23 := belowA (o := headObj (.slice none 0 0) (.map none) 0 false) (Below.refl w2.heap.size w2)
          have hs23 : (w2.alloc (headObj (.slice none 0 0) (.map none) 0 false)).heap.size = w2.heap.size + 1 := by simp
          have hp2 := hdh.lt
          generalize w2.alloc (headObj (.slice none 0 0) (.map none) 0 false) = w3 at *
          have hq2 : wr.heap.size ≤ w2.heap.size := hb2.size
          have hb3w := below_seq hb2 hb23
          have hvM := fun W (hW : w3.grownBy W (some p)) => HM.out W (HBP.out p hpw _ _ hb3w hW)
          have cH := hd_Add hdh hb23 (Utf8Tabs_below HT.out (below_seq hbw hb3w)) _ Y hvM (by omega)
          rw [show addE false 0 ([] : List Rec).length (Y.map Prod.fst) = 0 from G1.out] at cH
          have CH := Lib.hid cH
          clear cH hvM hdh
          go_wp2_with fail
          refine CH.out.mono ?_
          rintro e w4 ⟨rfl, -, hok4⟩
          obtain ⟨hg4, AH, hpH, hsH, hstH⟩ := hok4 (by first | trivial | rfl)
          have hqp : ¬ w2.heap.size = p := by omega
          have hd4 := empty_head ((hg4.block w2.heap.size (by omega) (fun e => hqp (Option.some.inj e))).trans hq3)
          have hb4w := HBP.out p hpw _ _ hb3w hg4
          have cA := hd_Add hd4 (Below.refl _ _) (Utf8Tabs_below HT.out (below_seq hbw hb4w)) _ (Y.take K) (fun W hW => HA.out W (HBP.out _ hq2 _ _ hb4w hW)) (by rw [List.length_take]; omega)
          rw [show addE false 0 ([] : List Rec).length ((Y.take K).map Prod.fst) = 0 from G2.out] at cA
          have CA2 := Lib.hid cA
          have HSTH := Lib.hid hstH
          have HPH := Lib.hid hpH
          have HSH := Lib.hid hsH
          have HG4 := Lib.hid hg4
          clear cA hd4 hstH hpH hsH hok4 CH hg4 hq3
          go_wp2_with fail
          refine CA2.out.mono ?_
          rintro e w5 ⟨rfl, -, hok5⟩
          obtain ⟨hg5, AG, hpG, -, hstG⟩ := hok5 (by first | trivial | rfl)
          have hd5 := hstG w5 (fun _ _ _ => rfl)
          have hb5w := HBP.out _ hq2 _ _ hb4w hg5
          have cB := hd_Add hd5 (Below.refl _ _) (Utf8Tabs_below HT.out (below_seq hbw hb5w)) _ (Y.drop K) (fun W hW => HB.out W (HBP.out _ hq2 _ _ hb5w hW)) (by rw [List.length_drop]; omega)
          rw [G3.out AG hpG] at cB
          have CB2 := Lib.hid cB
          have HPG := Lib.hid hpG
          have HG5 := Lib.hid hg5
          clear cB hd5 hpG hstG hok5 CA2 hg5
          go_wp2_with fail
          refine CB2.out.mono ?_
          rintro e w6 ⟨rfl, -, hok6⟩
          obtain ⟨hg6, AC, hpC, hsC, hstC⟩ := hok6 (by first | trivial | rfl)
          have hdg := hstC w6 (fun _ _ _ => rfl)
          have hb6w := HBP.out _ hq2 _ _ hb5w hg6
          have hdh := HSTH.out w6 (fun k hk hl => by
            have h5 : k < w5.heap.size := Nat.lt_of_lt_of_le hl HG5.out.size
            have hne : some k ≠ some w2.heap.size := fun e => by have := Option.some.inj e; omega
            rw [hg6.block k h5 hne, HG5.out.block k hl hne])
          have hAC := G4.out AH AG AC HPH.out HSH.out HPG.out hpC hsC
          rw [← hAC] at hdg
          have hAl : AH.length = Y.length := by rw [HPH.out.length_eq, List.nil_append, List.length_map]
          have hST := fun i (hi : i + 1 < AH.length) => sorted_strict HYS.out HPH.out HSH.out hi
          have hAch : ∀ r ∈ AH, chkRec r = 0 := fun r hr => HYC.out r (by have := HPH.out.mem_iff.1 hr; simpa using this)
          have HST := Lib.hid hST
          have HAL := Lib.hid hAl
          have HACH := Lib.hid hAch
          have hAle : AH.length ≤ 65536 := by omega
          have cA1 := Lib.hid (hd_All hdh)
          have cF1' := (fun W (hW : Below w6.heap.size w6 W) => hd_Find (hdh.below hW) t (by omega))
          unfold strV at cF1'
          rw [HTS0.out] at cF1'
          have cF1 := Lib.hid cF1'
          have cA3 := Lib.hid (fun W (hW : Below w6.heap.size w6 W) => hd_All (hdg.below hW))
          have cF3' := (fun W (hW : Below w6.heap.size w6 W) => hd_Find (hdg.below hW) t (by omega))
          unfold strV at cF3'
          rw [HTS0.out] at cF3'
          have cF3 := Lib.hid cF3'
          clear cF1' cF3'
          clear hok6 hg6 hpC hsC hstC hAC hAl hST hAch hdg hdh HSTH HPH HSH HPG HG5 HG4 CB2 G1 G2 G3 G4 HA HB HM
          go_upto_region 19 with (go_at_call 13; refine cA1.out.mono ?_; rintro e w7 ⟨v7, Z7, rfl, hZ7, ho7, hb7⟩)
          have hl7 : Z7.length = AH.length := by have := congrArg List.length hZ7; rw [List.length_map] at this; exact this
          have hne7 := HNE.out Z7.length (hl7.trans HAL.out)
          obtain ⟨a7, c7, rfl⟩ := owns_slice ho7.own
          have HO7 := Lib.hid ho7
          have HZ7 := Lib.hid hZ7
          have HL7 := Lib.hid hl7
          have hpl := plI_len t AH
          clear ho7 hZ7 hl7 cA1
          go_wp2_with fail
          refine (cA3.out w7 hb7).mono ?_
          rintro e w8 ⟨v8, Z8, rfl, hZ8, ho8, hb8⟩
          obtain ⟨a8, c8, rfl⟩ := owns_slice ho8.own
          have cS := rrec_SameAll (.slice a7 Z7.length c7) (.slice a8 Z8.length c8) Z7 Z8 w8 (HO7.out.keptB hb8).row ho8.row (by rw [HL7.out]; omega)
          rw [HZ7.out, hZ8, decide_eq_true rfl] at cS
          have CS := Lib.hid cS
          clear cS hZ8 ho8
          go_wp2_with fail
          refine CS.out.mono ?_
          rintro e w9 ⟨rfl, hb9⟩
          have hb69 := below_seq (below_seq hb7 hb8) hb9
          clear CS
          go_wp2_with fail
          refine (cF1.out w9 hb69).mono ?_
          rintro e w10 ⟨v10, rfl, ho10, hb10⟩
          have hb610 := below_seq hb69 hb10
          go_wp2_with fail
          refine (cF3.out w10 hb610).mono ?_
          rintro e w11 ⟨v11, rfl, ho11, hb11⟩
          have cS3 := ref03_Same v10 v11 (plI t AH) (plI t AH) w11 (argRow_below (argRow_owns ho10) hb11) (argRow_owns ho11) (by omega) (by omega)
          rw [decide_eq_true rfl] at cS3
          have CS3 := Lib.hid cS3
          clear cS3 ho10 ho11
          go_wp2_with fail
          refine CS3.out.mono ?_
          rintro e w12 ⟨rfl, hb12⟩
          have hb612 := below_seq (below_seq hb610 hb11) hb12
          have ho12 := HO7.out.keptB (below_seq (below_seq (below_seq (below_seq hb8 hb9) hb10) hb11) hb12)
          have HO12 := Lib.hid ho12
          have hb12w := below_seq (below_seq hb6w hb612) (Below.refl _ _)
          clear ho12 CS3 HO7 cA3 cF3 hb10 hb11 hb12 hb69 hb610 hb7 hb8 hb9
          go_wp2_with fail
          have hs12 := hb612.size
          go_loopw [14, 15] (fun m i wr => ∃ k : Nat, k ≤ AH.length ∧ i = .int .i64 k ∧ wr.ownsRow w12.heap.size 22 1 m (plI t (AH.take k)).length (u64s (plI t (AH.take k))) ∧ Below w12.heap.size w12 wr) (fun _ i _ => AH.length - (intOf i).toNat)
          case atStart => exact ⟨0, by omega, rfl, World.ownsRow_nil _ _ _ _, Below.refl _ _⟩
          case round =>
            obtain ⟨k, hk, rfl, hown, hbr2⟩ := hrel
            have hl7i : (Z7.length : Int) = (AH.length : Int) := by rw [HL7.out]
            have hl7a : Z7.length ≤ AH.length := Nat.le_of_eq HL7.out
            have hl7b : AH.length ≤ Z7.length := Nat.le_of_eq HL7.out.symm
            clear hl7i
            by_cases hkl : k < AH.length
            · obtain ⟨g7, rfl⟩ : ∃ g, a7 = some ⟨g, 0, none⟩ := by
                obtain ⟨b7, o7, e7, _⟩ := (HO12.out.row).at (k := k) (by omega)
                rcases HO12.out.own.2 with ⟨e, h0⟩ | ⟨gg, cap, cur, e, _⟩
                · omega
                · exact ⟨gg, (Value.slice.inj e).1⟩
              have hat : ∀ i (hi : i < AH.length) W, Below w12.heap.size w12 W → ∃ la lc, W.cell? ⟨g7, i * 4, none⟩ = some (.int .i64 AH[i].time) ∧ W.cell? ⟨g7, i * 4 + 1, none⟩ = some (.int .u64 (AH[i].seq : Int)) ∧ W.cell? ⟨g7, i * 4 + 2, none⟩ = some (.slice la AH[i].labs.length lc) ∧ W.cell? ⟨g7, i * 4 + 3, none⟩ = some (.string AH[i].line) ∧ RecAt W (.slice la AH[i].labs.length lc) AH[i] := fun i hi W hW => by
                have hi7 : i < Z7.length := by omega
                have ho := HO12.out.keptB hW
                obtain ⟨b7, o7, e7, -, c0, c1, c2, c3⟩ := ho.row.at (k := i) hi7
                cases e7
                have hz : Z7[i].1 = AH[i] := by
                  have : (Z7.map Prod.fst)[i]? = AH[i]? := by rw [HZ7.out]
                  rw [List.getElem?_map, List.getElem?_eq_getElem hi7, List.getElem?_eq_getElem hi] at this
                  exact Option.some.inj this
                have hr := (ho.labs Z7[i] (List.getElem_mem hi7)).2
                obtain ⟨la, lc, e, -, -⟩ := hr.1.shape
                rw [hz] at c0 c1 c3 hr e
                rw [e] at c2 hr
                rw [Nat.zero_add] at c0 c1 c2 c3
                exact ⟨la, lc, c0, c1, c2, c3, hr⟩
              have HAT := Lib.hid hat
              have hi7 : (k : Int) < (Z7.length : Int) := by omega
              have hk0' : (0 : Int) ≤ (k : Int) := by omega
              clear hat
              go_upto_region 25 with fail
              go_cut [117] from 103 to 117 (fun bb wx => bb = .bool false ∧ Below wr.heap.size wr wx)
              case first =>
                by_cases hk0 : 0 < k
                case pos =>
                  obtain ⟨j, rfl⟩ : ∃ j, k = j + 1 := ⟨k - 1, by omega⟩
                  have hC := HST.out j hkl
                  obtain ⟨la, lc, c0, c1, c2, c3, -⟩ := HAT.out j (by omega) wr hbr2
                  obtain ⟨lb, lk, d0, d1, d2, d3, -⟩ := HAT.out (j + 1) hkl wr hbr2
                  have cC := Lib.hid (fun W => record_Compare (AH[j]'(by omega)) AH[j + 1] (.slice la (AH[j]'(by omega)).labs.length lc) (.slice lb AH[j + 1].labs.length lk) W)
                  unfold recV at cC
                  generalize cmpRec (AH[j]'(by omega)) AH[j + 1] = CC at *
                  have ij : (0 : Int) < ((j + 1 : Nat) : Int) := by omega
                  have ij2 : (j : Int) < (Z7.length : Int) := by omega
                  have ij3 : (0 : Int) ≤ (j : Int) := by omega
                  have hCn : ¬ (0 : Int) ≤ CC := by omega
                  have hd1 : decide ((0 : Int) < ((j + 1 : Nat) : Int)) = true := decide_eq_true ij
                  have hwj : IntKind.i64.wrap (((j + 1 : Nat) : Int) - 1) = (j : Int) := by rw [IntWalk.i64_in _ (by omega)]; omega
                  have f0 := cell_regrown c0
                  have f1 := cell_regrown c1
                  have f2 := cell_regrown c2
                  have f3 := cell_regrown c3
                  have h0 := cell_regrown d0
                  have h1 := cell_regrown d1
                  have h2 := cell_regrown d2
                  have h3 := cell_regrown d3
                  have dC : ∀ d os, Calls Tryd.prog 17 _ (Sort.grow (redrawn wr d) os) fun e w'' => e = .returned (.int .i64 CC) ∧ ∃ p : Regrown, w'' = Sort.grow (redrawn wr p.d) p.os := fun d os => Calls.regrown_of (cC.out _)
                  clear hC cC c0 c1 c2 c3 d0 d1 d2 d3
                  generalize (AH[j]'(by omega)).time = ta at *
                  generalize ((AH[j]'(by omega)).seq : Int) = sa at *
                  generalize (AH[j]'(by omega)).line = na at *
                  generalize (AH[j]'(by omega)).labs.length = qa at *
                  generalize AH[j + 1].time = tb at *
                  generalize (AH[j + 1].seq : Int) = sb at *
                  generalize AH[j + 1].line = nb at *
                  generalize AH[j + 1].labs.length = qb at *
                  refine wp_region_quiet_below (by kernel_rfl) (by kernel_rfl) ?_
                  repeat (go_big_quiet_step (first | with_reducible exact dC _ _))
                  refine wpQuiet_nil ?_
                  intro _ hw'
                  obtain ⟨⟨dq, osq⟩, hw''⟩ := hw'
                  subst hw''
                  have hbx := below_regrown wr dq osq
                  go_wp2_with fail
                  go_meet
                  exact ⟨rfl, hbx⟩
                case neg =>
                  have ij : ¬ (0 : Int) < (k : Int) := by omega
                  have hd1 : decide ((0 : Int) < (k : Int)) = false := decide_eq_false ij
                  refine wp_region_quiet_below (by kernel_rfl) (by kernel_rfl) ?_
                  repeat (go_big_quiet_step (fail))
                  refine wpQuiet_nil ?_
                  intro _ hw'
                  obtain ⟨⟨dq, osq⟩, hw''⟩ := hw'
                  subst hw''
                  have hbx := below_regrown wr dq osq
                  go_wp2_with fail
                  go_meet
                  exact ⟨rfl, hbx⟩
              case rest =>
                obtain ⟨rfl, hbx⟩ := hcut
                obtain ⟨wx, hwx⟩ : ∃ x : World, x = wc := ⟨_, rfl⟩
                subst hwx
                go_upto_region 27 with fail
                have hbxr := below_seq hbr2 hbx
                obtain ⟨la, lc, c0, c1, c2, c3, hrec⟩ := HAT.out k hkl wx hbxr
                have cT := head_Terms AH[k] _ wx hrec
                have hsm := terms_small (HACH.out AH[k] (List.getElem_mem hkl))
                have hstrict := once_strict (words AH[k].line.data.toList ++ AH[k].labs.map labT)
                replace hstrict : strict (termsOf AH[k]) := hstrict
                have hpe := part_end (AH.take k) AH[k] t
                rw [← List.take_succ_eq_append_getElem hkl] at hpe
                have hlk : (AH.take k).length = k := by rw [List.length_take]; omega
                have hps := part_start (AH.take k) (termsOf AH[k]) t
                rw [← hps] at hown
                have hpl2 := fun j => part_len (AH.take k) (termsOf AH[k]) j t
                rw [hlk] at hpl2
                unfold recV at cT
                generalize termsOf AH[k] = T at *
                generalize AH[k].time = ta at *
                generalize (AH[k].seq : Int) = sa at *
                generalize AH[k].line = na at *
                generalize AH[k].labs.length = nl at *
                have CT := Lib.hid cT
                have HSTR := Lib.hid hstrict
                have HPE := Lib.hid hpe
                have HLK := Lib.hid hlk
                have HPL := Lib.hid hpl2
                obtain ⟨hTl, hTs⟩ := hsm
                have HTS := Lib.hid hTs
                clear cT hstrict hpe hlk hps hpl2 hTs hrec
                go_upto_region 28 with (go_at_call 8; refine CT.out.mono ?_; rintro e w13 ⟨v13, rfl, hT13, hb13⟩)
                obtain ⟨a13, c13, rfl⟩ := owns_slice hT13
                have hown13 := owns_below (owns_below hown hbx) hb13
                have hb1213 := below_seq hbxr hb13
                have hT0 := owns_base (A := 0) hT13 (Nat.zero_le _)
                clear hown hT13 c0 c1 c2 c3 CT
                obtain ⟨wo, hwo⟩ : ∃ wo : World, wo = wr := ⟨_, rfl⟩
                subst hwo
                go_wp2_with fail
                go_loopw [14, 17] (fun m i wr => ∃ j : Nat, j ≤ T.length ∧ i = .int .i64 j ∧ wr.ownsRow w12.heap.size 22 1 m (part (AH.take k) T j t).length (u64s (part (AH.take k) T j t)) ∧ Texts wr 0 (.slice a13 T.length c13) T ∧ Below w12.heap.size w12 wr) (fun _ i _ => T.length - (intOf i).toNat)
                case atStart => exact ⟨0, by omega, rfl, hown13, hT0, hb1213⟩
                case round =>
                  obtain ⟨j, hj, rfl, hwant, hTj, hbj⟩ := hrel
                  by_cases hjl : j < T.length
                  · obtain ⟨g13, rfl⟩ : ∃ g, a13 = some ⟨g, 0, none⟩ := by
                      rcases hTj.2 with ⟨e, h0⟩ | ⟨gg, cap, cur, e, _⟩
                      · omega
                      · exact ⟨gg, (Value.slice.inj e).1⟩
                    have hcl : ∀ W, Texts W 0 (.slice (some ⟨g13, 0, none⟩) T.length c13) T → ∀ i (hi : i < T.length), W.cell? ⟨g13, i, none⟩ = some (.string ⟨T[i].toArray⟩) := fun W hW i hi => by
                      have := hW.cellAt (g := g13) i (by omega)
                      rw [this, List.getElem?_map, List.getElem?_eq_getElem hi]
                      rfl
                    have q0 := hcl wr hTj j hjl
                    have hstep := part_step (L := AH.take k) HSTR.out hjl t
                    have hbe : ((⟨T[j].toArray⟩ : ByteArray).toList == ts.toList) = decide (T[j] = t) := by rw [← HTS0.out]; exact strV_beq _ _
                    have hsz := HTS.out T[j] (List.getElem_mem hjl)
                    have hlt1 : ∀ i (hi : i + 1 = j), Op.bytesLess (⟨(T[i]'(by omega)).toArray⟩ : ByteArray).toList (⟨T[j].toArray⟩ : ByteArray).toList = true ∧ Op.bytesLess (⟨T[j].toArray⟩ : ByteArray).toList (⟨(T[i]'(by omega)).toArray⟩ : ByteArray).toList = false ∧ ((⟨T[j].toArray⟩ : ByteArray).toList == (⟨(T[i]'(by omega)).toArray⟩ : ByteArray).toList) = false := fun i hi => by
                      subst hi
                      have hh := (List.pairwise_iff_getElem.1 HSTR.out i (i + 1) (by omega) hjl (Nat.lt_succ_self _))
                      rw [strV_less, strV_less, strV_beq]
                      exact ⟨decide_eq_true hh, decide_eq_false (tlt_asymm hh), decide_eq_false (fun e => tlt_irrefl (T[i]'(by omega)) (e ▸ hh))⟩
                    have HCL := Lib.hid hcl
                    have HLT := Lib.hid hlt1
                    have hpl3 := HPL.out j
                    have hj7 : (j : Int) < (T.length : Int) := by omega
                    have hj0 : (0 : Int) ≤ (j : Int) := by omega
                    have hcv : IntKind.u64.wrap (k : Int) = (k : Int) := by rw [IntKind.wrap_u64]; omega
                    clear hcl hlt1
                    generalize hsj : (⟨T[j].toArray⟩ : ByteArray) = sj at *
                    have HSJ := Lib.hid hsj
                    clear hsj
                    have HBE := Lib.hid hbe
                    clear hbe
                    go_upto_if 134 with fail
                    go_cut [14] from 134 to 139 (fun m wx => (∃ a n c, m = .slice a n c) ∧ wx.ownsRow w12.heap.size 22 1 m (part (AH.take k) T (j + 1) t).length (u64s (part (AH.take k) T (j + 1) t)) ∧ Texts wx 0 (.slice (some ⟨g13, 0, none⟩) T.length c13) T ∧ Below w12.heap.size w12 wx)
                    case first =>
                      by_cases hjt : t = T[j]
                      case pos =>
                        have hb : (sj.toList == ts.toList) = true := by rw [HBE.out]; exact decide_eq_true hjt.symm
                        rw [if_pos hjt, ← hjt, HLK.out] at hstep
                        have HSTP := Lib.hid hstep
                        clear hstep hjt
                        generalize hwp : part (AH.take k) T j t = WP at *
                        have HWP := Lib.hid hwp
                        clear hwp
                        have hsj3 := hbj.size
                        rw [hb]
                        clear hb
                        go_wp2_with (at_builtin; refine wpList_append_src rfl _ _ _ _ rfl w12.heap.size EU _ WP.length (u64s WP) rfl (hwant.alloc _) _ 1 [.int .u64 k] rfl (by exact src_last (cs := #[.int .u64 k]) Tryd.underlying41 1 1 1 rfl rfl (by simp [Value.oneCell'])) (by unfold maxLen; omega) (by omega) (by simp; omega) ?_; intro v14 w14 hown14 hgr14 _ _)
                        have hWW : w14.ownsRow w12.heap.size 22 1 v14 (part (AH.take k) T (j + 1) t).length (u64s (part (AH.take k) T (j + 1) t)) := by
                          rw [← HSTP.out]
                          unfold u64s at hown14 ⊢
                          rw [List.map_append, List.length_append]
                          exact hown14
                        have hTT := (hTj.alloc (.cells #[.int .u64 k] 22)).kept hgr14 (by
                          cases hv : (Value.slice (some ⟨g13, 0, none⟩) T.length c13).ownBlock with
                          | none => exact .inl rfl
                          | some gg => exact .inr fun e => own_apart (hwant.alloc (.cells #[.int .u64 k] 22)) (World.ownsRow.alloc hTj (.cells #[.int .u64 k] 22)) (show (22 : Nat) ≠ 9 by decide) e.symm hv)
                        have hBB := (hbj.alloc hsj3 (.cells #[.int .u64 k] 22)).grown hgr14 (by simp; omega) (fun jj hjj => (hwant.lt jj hjj).1)
                        obtain ⟨a14, c14, rfl⟩ := owns_slice hWW
                        go_meet
                        exact ⟨⟨_, _, _, rfl⟩, hWW, hTT, hBB⟩
                      case neg =>
                        have hb : (sj.toList == ts.toList) = false := by rw [HBE.out]; exact decide_eq_false (fun e => hjt e.symm)
                        rw [if_neg hjt] at hstep
                        have HSTP := Lib.hid hstep
                        clear hstep hjt
                        rw [hb]
                        clear hb
                        go_wp2
                        have hWW := hwant
                        rw [HSTP.out] at hWW
                        obtain ⟨a14, c14, rfl⟩ := owns_slice hWW
                        go_meet
                        exact ⟨⟨_, _, _, rfl⟩, hWW, hTj, hbj⟩
                    case rest =>
                      obtain ⟨⟨a14, n14, c14, rfl⟩, hWW, hTT, hBB⟩ := hcut
                      obtain ⟨w14, hw14⟩ : ∃ x : World, x = wc := ⟨_, rfl⟩
                      subst hw14
                      have q1 := HCL.out w14 hTT j hjl
                      rw [HSJ.out] at q1
                      by_cases hj1 : 0 < j
                      case' pos =>
                        obtain ⟨i, hij⟩ : ∃ i, j = i + 1 := ⟨j - 1, by omega⟩
                        have q2 := HCL.out w14 hTT i (by omega)
                        obtain ⟨hbl, hbl2, hbl3⟩ := HLT.out i hij.symm
                        generalize (⟨(T[i]'(by omega)).toArray⟩ : ByteArray) = si at *
                        have ij : (0 : Int) < (j : Int) := by omega
                        have ij2 : (i : Int) < (T.length : Int) := by omega
                        have ij3 : (0 : Int) ≤ (i : Int) := by omega
                        have hd1 : decide ((0 : Int) < (j : Int)) = true := decide_eq_true ij
                        have hwi : IntKind.i64.wrap ((j : Int) - 1) = (i : Int) := by rw [IntWalk.i64_in _ (by omega)]; omega
                        clear hij
                        have r1 := cell_regrown q1
                        have r2 := cell_regrown q2
                      case' neg =>
                        have ij : ¬ (0 : Int) < (j : Int) := by omega
                        have hd1 : decide ((0 : Int) < (j : Int)) = false := decide_eq_false ij
                      all_goals
                        go_wp2_with fail
                        refine wp_region_quiet_below (by kernel_rfl) (by kernel_rfl) ?_
                        repeat (go_big_quiet_step (fail))
                        refine wpQuiet_nil ?_
                        intro _ hw'
                        obtain ⟨⟨dq, osq⟩, hw''⟩ := hw'
                        subst hw''
                        have hb15 := below_regrown w14 dq osq
                        have hWW2 := owns_below hWW hb15
                        have hTT2 := owns_below hTT hb15
                        generalize Sort.grow (redrawn w14 dq) osq = w15 at *
                        have hB2 := below_seq hBB hb15
                        obtain ⟨a15, c15, e15⟩ := owns_slice hWW2
                        cases e15
                        clear hWW hTT hBB hd1
                        go_wp2_with fail
                        go_roundw
                        case rel => exact ⟨j + 1, by omega, by go_num, hWW2, hTT2, hB2⟩
                        case measure => simp [intOf]; omega
                  · obtain rfl : j = T.length := by omega
                    rw [HPE.out] at hwant
                    clear hTj
                    go_wp2_with fail
                    go_roundw
                    case rel => exact ⟨k + 1, by omega, by go_num, hwant, hbj⟩
                    case measure => simp [intOf]; omega
            · obtain rfl : k = AH.length := by omega
              rw [List.take_length] at hown
              have hB6 := below_seq hb612 hbr2
              go_wp2_with fail
              refine (cF1.out wr hB6).mono ?_
              rintro e w16 ⟨v16, rfl, ho16, hb16⟩
              obtain ⟨aw, cw, rfl⟩ := owns_slice hown
              have cS4 := ref03_Same v16 (.slice aw (plI t AH).length cw) (plI t AH) (plI t AH) w16 (argRow_owns ho16) (argRow_below (argRow_owns hown) hb16) (by omega) (by omega)
              rw [decide_eq_true rfl] at cS4
              have CS4 := Lib.hid cS4
              clear cS4 ho16 hown
              go_wp2_with fail
              refine CS4.out.mono ?_
              rintro e w17 ⟨rfl, hb17⟩
              go_wp2_with fail
              go_ret
              exact ⟨by first | rfl | (simp; done), below_seq hbw (below_seq (below_seq (below_seq hb6w hB6) hb16) hb17)⟩
end Go.Proofs.YtaimldndooijdaaDoor
