/-
  slices.SortFunc at records.
-/
import Derived.Test.YtaimldndooijdaaGreatDoorHeadOne
import Derived.Test.YtaimldndooijdaaGreatDoorRdAll
import Derived.Shelf.Spec.SlicesGrow
import Derived.Maps.GroupsBeside
import Derived.Maps.Views
namespace Go.Proofs.YtaimldndooijdaaGreatDoor
open Go.RowKit Go.Sort Go.Lib Go.Shelf
set_option maxRecDepth 100000 in
set_option maxHeartbeats 4000000 in
theorem record_CompareG (a b : Rec) (la lb : Value) (W : World) : Calls Tryz.prog 26 #[recV a la, recV b lb] W fun e w' =>
    e = .returned (.int .i64 (cmpRec a b)) ∧ ∃ q os', w' = Go.Sort.grow (W.drewN q) os' := by
  have hR : cmpRec a b = orI (cmpI a.time b.time) (cmpI a.seq b.seq) := rfl
  have c1 := Lib.hid (fun x y W' => cmp_i64 x y W')
  have c2 := Lib.hid (fun x y W' => cmp_u64 x y W')
  have cO := Lib.hid (fun a b W' t => or_new a b W' t)
  rw [hR]
  clear hR
  unfold recV
  generalize a.time = ta
  generalize b.time = tb
  generalize (a.seq : Int) = sa
  generalize (b.seq : Int) = sb
  generalize a.line = na
  generalize b.line = nb
  have hB := two_new W #[.int .i64 ta, .int .u64 sa, la, .string na] #[.int .i64 tb, .int .u64 sb, lb, .string nb] 47 47
  have hbw : ∃ os', (W.alloc (.cells #[.int .i64 ta, .int .u64 sa, la, .string na] 47)).alloc (.cells #[.int .i64 tb, .int .u64 sb, lb, .string nb] 47) = grow W os' := ⟨_, by rw [alloc_eq_grow, alloc_eq_grow, grow_grow]⟩
  go_enter Tryz.func26, Tryz.ntmps26
  go_upto_region 1 with fail
  generalize (W.alloc (.cells #[.int .i64 ta, .int .u64 sa, la, .string na] 47)).alloc (.cells #[.int .i64 tb, .int .u64 sb, lb, .string nb] 47) = w1 at *
  have HB := Lib.hid (show ∀ w', Below w1.heap.size w1 w' → w'.cell? ⟨W.heap.size, 0, none⟩ = some (.int .i64 ta) ∧ w'.cell? ⟨W.heap.size, 1, none⟩ = some (.int .u64 sa) ∧ w'.cell? ⟨W.heap.size + 1, 0, none⟩ = some (.int .i64 tb) ∧ w'.cell? ⟨W.heap.size + 1, 1, none⟩ = some (.int .u64 sb) from fun w' h => ⟨(hB w' h 0).1, (hB w' h 1).1, (hB w' h 0).2, (hB w' h 1).2⟩)
  have HW := Lib.hid hbw
  clear hB hbw
  have hB0 : Below w1.heap.size w1 w1.drew := (Below.refl _ _).drew
  go_region_held3 (fun w' => w'.cell? ⟨W.heap.size, 0, none⟩ = some (.int .i64 ta) ∧ w'.cell? ⟨W.heap.size, 1, none⟩ = some (.int .u64 sa) ∧ w'.cell? ⟨W.heap.size + 1, 0, none⟩ = some (.int .i64 tb) ∧ w'.cell? ⟨W.heap.size + 1, 1, none⟩ = some (.int .u64 sb) ∧ Below w1.heap.size w1 w')
    (first | exact keep4 HB.out (by first | assumption | exact (belowA (Below.refl _ _)).drew | exact belowA (by assumption)))
    (first | (go_at_call 44; refine (c1.out _ _ _).mono ?_; rintro e wn ⟨rfl, rfl⟩) | (go_at_call 45; refine (c2.out _ _ _).mono ?_; rintro e wn ⟨rfl, rfl⟩) | (go_at_call 43; refine (cO.out _ _ _ _).mono ?_; rintro e wn ⟨rfl, rfl⟩))
  all_goals
    go_wp2_with fail
    go_ret
    refine ⟨rfl, 1, ?_⟩
    obtain ⟨os', ho⟩ := HW.out
    subst ho
    exact ⟨os' ++ #[_], by rw [alloc_eq_grow, grow_grow]; rfl⟩

/-! ### Records whose labels are one cell each -/
abbrev RecS := { z : RecL // z.2.oneCell' = true }
instance recS_inh : Inhabited RecS := ⟨⟨(⟨0, 0, [], ⟨#[]⟩⟩, .slice none 0 0), rfl⟩⟩
def encRec (z : RecS) : List Value := recCells z.1
def unS (L : List RecS) : List RecL := L.map Subtype.val
def toS (Z : List RecL) (h : ∀ z ∈ Z, z.2.oneCell' = true) : List RecS := Z.attach.map fun z => ⟨z.1, h z.1 z.2⟩
theorem unS_toS (Z : List RecL) (h : ∀ z ∈ Z, z.2.oneCell' = true) : unS (toS Z h) = Z := by
  unfold unS toS
  rw [List.map_map]
  exact List.attach_map_subtype_val Z
theorem flat_rec (L : List RecS) : flatK encRec 4 L.toArray = (recsCells (unS L)).toArray := by
  have hlen : (unS L).length = L.length := by unfold unS; rw [List.length_map]
  refine ext_get! (by simp [recsCells_len, hlen]) fun t ht => ?_
  have ht' : t < L.length * 4 := by simpa using ht
  rw [get_flatK _ _ _ t (by simpa using ht')]
  have hk : t / 4 < L.length := by omega
  have hk' : t / 4 < (unS L).length := by omega
  have h1 := recsCells_get (unS L) (t / 4) hk' (t % 4) (by omega)
  have e0 : L.toArray[t / 4]! = L[t / 4] := by simp [hk]
  rw [e0]
  have hl := recsCells_len (unS L)
  have e1 : (recsCells (unS L)).toArray[t]! = (recsCells (unS L))[t]'(by omega) := by
    rw [getElem!_pos _ t (by simp; omega)]
    simp
  rw [e1]
  have et : t / 4 * 4 + t % 4 = t := by omega
  rw [et, List.getElem?_eq_getElem (by omega)] at h1
  have e2 : (unS L)[t / 4] = L[t / 4].1 := by simp only [unS, List.getElem_map]
  have hl4 : (recCells L[t / 4].1).length = 4 := rfl
  rw [e2, List.getElem?_eq_getElem (by omega)] at h1
  rw [Option.some.inj h1]
  show (recCells L[t / 4].1)[t % 4]! = _
  rw [getElem!_pos _ _ (by omega)]
theorem swoR : SWO (ltOf fun x y : RecS => cmpRec x.1.1 y.1.1) where
  irrefl x := by
    show decide (cmpRec x.1.1 x.1.1 < 0) = false
    rw [decide_eq_false_iff_not, cmpRec_lt]
    omega
  trans x y z h1 h2 := by
    have h1 := of_decide_eq_true h1
    have h2 := of_decide_eq_true h2
    refine decide_eq_true ?_
    rw [cmpRec_lt] at *
    omega
  ntrans x y z h1 h2 := by
    have h1 := of_decide_eq_false h1
    have h2 := of_decide_eq_false h2
    refine decide_eq_false ?_
    rw [cmpRec_lt] at *
    omega
theorem cmp_not_lt {a b : Rec} (h : ¬ cmpRec b a < 0) : cmpRec a b ≤ 0 := by
  rw [cmpRec_lt] at h
  rw [cmpRec_le]
  omega
theorem rec_sort {w : World} {B : Nat} {v : Value} {Z : List RecL} (h : w.ownsRow B 47 4 v Z.length (recsCells Z)) (h1c : ∀ z ∈ Z, z.2.oneCell' = true) (hL : Z.length ≤ 1000000000) :
    Calls Tryz.prog 25 #[v, .func (.func 26) #[] #[]] w fun e w' => e = .returned (.tuple #[]) ∧
      ∃ Z', Z'.Perm Z ∧ Sorted (Z'.map Prod.fst) ∧ w'.ownsRow B 47 4 v Z'.length (recsCells Z') ∧ w.grownBy w' v.ownBlock := by
  rcases h.2 with ⟨rfl, h0⟩ | ⟨g, cap, cur, rfl, hbase, hb, h1, h2, h3, h4⟩
  · have : Z = [] := List.eq_nil_of_length_eq_zero h0
    subst this
    refine (AnyF.slices_SortFunc_none Tryz.sortRec none 0 _ w).mono ?_
    rintro e w' ⟨rfl, rfl⟩
    exact ⟨rfl, [], List.Perm.refl _, List.Pairwise.nil, h, World.grownBy.refl _ _⟩
  · have eg : ∀ args w, (callFunc 26 args).run Tryz.prog w = .ok (.enter 26 args) w := enters_of Tryz.func26 (by kernel_rfl) rfl
    obtain ⟨L, hLZ⟩ : ∃ L, toS Z h1c = L := ⟨_, rfl⟩
    have hZ : Z = unS L := by rw [← hLZ, unS_toS]
    subst hZ
    have hlS : (unS L).length = L.length := by unfold unS; rw [List.length_map]
    have hlen := recsCells_len (unS L)
    have hH : HoldsK encRec 4 w g 0 L.toArray := by
      unfold HoldsK
      rw [flat_rec]
      exact holds_id hb (by rw [hlen]; exact h4)
    have hcmp : CmpLays Tryz.prog 26 #[] encRec 4 (fun x y => cmpRec x.1.1 y.1.1) g 0 L.toArray.size w := fun m os dk _ x y => record_CompareG x.1.1 y.1.1 x.1.2 y.1.2 _
    have hcon := AnyQ.slices_SortFunc Tryz.sortRec 4 Tryz.isAgg47 Tryz.sizeOf47 encRec (fun _ => rfl) (fun x v hv => by simp [encRec, recCells] at hv; rcases hv with rfl | rfl | rfl | rfl; rfl; rfl; exact x.2; rfl) (fun x y => cmpRec x.1.1 y.1.1) swoR 26 #[] g 0 cap L.toArray w eg hcmp hH (Array.getElem?_eq_some_iff.1 hb).1 (by simp; omega)
    have e1 : (L.toArray).size = L.length := by simp
    rw [e1, ← hlS] at hcon
    refine (show Calls Tryz.prog 25 _ _ _ from hcon).mono ?_
    rintro e w' ⟨rfl, d', n, os, hp, hs, rfl⟩
    rw [hlS] at hp hs
    have hd : d' = d'.toList.toArray := by simp
    have hsz : d'.toList.length = L.length := by have := hp.1; simpa using this
    have hun : (unS d'.toList).length = d'.toList.length := by unfold unS; rw [List.length_map]
    refine ⟨rfl, unS d'.toList, ?_, ?_, ?_, ?_⟩
    · have := hp.2.2
      have ex : d'.extract 0 L.length = d' := by rw [← hsz]; simp
      rw [ex] at this
      have hpp : d'.toList.Perm L := by simpa using this
      exact hpp.map _
    · unfold Sorted
      rw [List.pairwise_iff_getElem]
      intro i j hi hj hij
      have hj' : j < d'.toList.length := by simpa [unS] using hj
      have hi' : i < d'.toList.length := by omega
      have := hs i j (Nat.zero_le _) hij (by omega)
      have g1 : d'[j]! = d'.toList[j] := by rw [getElem!_pos d' j (by simpa using hj')]; simp
      have g2 : d'[i]! = d'.toList[i] := by rw [getElem!_pos d' i (by simpa using hi')]; simp
      rw [g1, g2] at this
      have := cmp_not_lt (of_decide_eq_false this)
      simpa [unS] using this
    · have hfl : flatK encRec 4 d' = (recsCells (unS d'.toList)).toArray := by
        conv => lhs; rw [hd]
        exact flat_rec _
      have hl2 := recsCells_len (unS d'.toList)
      unfold sortWorldK putRowK
      rw [hfl]
      refine ⟨by rw [hl2], .inr ⟨g, cap, _, by rw [hun, hsz, hlS], hbase, heap_id _ hb, by omega, h2, by simp [putCells, h3], ?_⟩⟩
      rw [← hl2]
      exact take_id cur _ (by rw [h3]; omega)
    · exact grownBy_id _
end Go.Proofs.YtaimldndooijdaaGreatDoor
/-
  head.copied; the law's copied.
-/
namespace Go.Proofs.YtaimldndooijdaaGreatDoor
open Go.RowKit
theorem cell_own {w : World} {g j : Nat} {cs : Array Value} {t : TypeId} {u : Value} (h : w.heap[g]? = some (.cells cs t (0, 0))) (hj : cs[j]? = some u) : w.cell? ⟨g, j, none⟩ = some u := by
  rw [cell_of_row w g j cs t (0, 0) h, hj]
set_option maxRecDepth 100000 in
set_option maxHeartbeats 4000000 in
theorem head_copied (v : Value) (Z : List RecL) (w : World) (h : RRow w v Z) (hZ : Z.length ≤ 2000000) :
    Calls Tryz.prog 24 #[v] w fun e w' => ∃ v' Z', e = .returned v' ∧ Z'.map Prod.fst = Z.map Prod.fst ∧ ROwn w' w.heap.size v' Z' ∧ Below w.heap.size w w' := by
  have H := Lib.hid h
  obtain ⟨al, cl, rfl, hlc, hlc2⟩ := h.shape
  unfold maxLen at hlc2
  clear h
  go_enter Tryz.func24, Tryz.ntmps24
  go_wp2
  go_loopw [3, 8] (fun o i wr => ∃ k : Nat, ∃ Y : List RecL, k ≤ Z.length ∧ i = .int .i64 k ∧ Y.map Prod.fst = (Z.take k).map Prod.fst ∧ ROwn wr w.heap.size o Y ∧ Below w.heap.size w wr) (fun _ i _ => Z.length - (intOf i).toNat)
  case atStart => exact ⟨0, [], by omega, rfl, rfl, ROwn.nil _ _, Below.refl _ _⟩
  case round =>
    obtain ⟨k, Y, hk, rfl, hY, hown, hbr⟩ := hrel
    have hszr := hbr.size
    by_cases hlt : k < Z.length
    · obtain ⟨b, off, rfl, hbl, g0, g1, g2, g3⟩ := (H.out.below hbr).at hlt
      have hat := (H.out.2 _ (List.getElem_mem hlt)).below hbr
      have hft : (Z.take (k + 1)).map Prod.fst = (Z.take k).map Prod.fst ++ [Z[k].1] := by rw [List.take_succ_eq_append_getElem hlt, List.map_append]; rfl
      have hYl : Y.length = k := by
        have := congrArg List.length hY
        rw [List.length_map, List.length_map, List.length_take] at this
        omega
      obtain ⟨⟨r, lv⟩, hzz⟩ : ∃ z, Z[k] = z := ⟨_, rfl⟩
      rw [hzz] at hat hft g0 g1 g2 g3
      simp only at hat hft g0 g1 g2 g3
      have cC := fun W (hW : Below wr.heap.size wr W) => label_clone lv r.labs W (hat.1.below hW) (by have := hat.2.2.1; omega)
      obtain ⟨la, lc, rfl, -, -⟩ := hat.1.shape
      have CC := Lib.hid cC
      have HAT := Lib.hid hat
      have HFT := Lib.hid hft
      have HYY := Lib.hid hY
      have HYL := Lib.hid hYl
      clear hat hft hY hYl cC hzz
      have hYle : Y.length ≤ k := Nat.le_of_eq HYL.out
      generalize hnl : r.labs.length = nl at *
      have HNL := Lib.hid hnl
      clear hnl
      go_upto_region 5 with fail
      have hx := heap_alloc_new wr (.cells #[.int .i64 r.time, .int .u64 (r.seq : Int), .slice la nl lc, .string r.line] 47)
      have hb1 := belowA (o := .cells #[.int .i64 r.time, .int .u64 (r.seq : Int), .slice la nl lc, .string r.line] 47) (Below.refl wr.heap.size wr)
      have hs1 : (wr.alloc (.cells #[.int .i64 r.time, .int .u64 (r.seq : Int), .slice la nl lc, .string r.line] 47)).heap.size = wr.heap.size + 1 := by simp
      generalize wr.alloc (.cells #[.int .i64 r.time, .int .u64 (r.seq : Int), .slice la nl lc, .string r.line] 47) = w1 at *
      have c2 := cell_own hx (j := 2) rfl
      have HX := Lib.hid hx
      have HS1 := Lib.hid hs1
      clear hx hs1
      go_upto_region 6 with (go_at_call 40; refine (CC.out _ hb1).mono ?_; rintro e w2 ⟨v2, rfl, ho2, hb2⟩; obtain ⟨a2, k2, rfl⟩ := owns_slice ho2; have hx2 := (hb2.block wr.heap.size (by have := HS1.out; omega)).trans HX.out; have d0 := cell_own hx2 (j := 0) rfl; have d1 := cell_own hx2 (j := 1) rfl; have d2 := cell_own hx2 (j := 2) rfl; have d3 := cell_own hx2 (j := 3) rfl; have df := Lib.frozen_of_heap hx2 2; have HX2 := Lib.hid hx2; clear hx2 c2)
      have hx3 := heap_setCell_same w2 wr.heap.size 2 _ _ (.slice a2 nl k2) HX2.out
      have hb12 := below_seq hb1 hb2
      have hb3 : Below wr.heap.size wr (w2.setCell ⟨wr.heap.size, 2, none⟩ (.slice a2 nl k2)) := hb12.setCell (Nat.le_refl _) _
      have ho3 : (w2.setCell ⟨wr.heap.size, 2, none⟩ (.slice a2 nl k2)).ownsRow w.heap.size 62 2 (.slice a2 nl k2) nl (labCells r.labs) := owns_base (own_kept ho2 (grown_set _ _ _ _) (fun k hk => by cases hk; have := HS1.out; omega)) (by have := HS1.out; omega)
      have e0 := cell_own hx3 (j := 0) rfl
      have e1 := cell_own hx3 (j := 1) rfl
      have e2 := cell_own hx3 (j := 2) rfl
      have e3 := cell_own hx3 (j := 3) rfl
      have hown3 := hown.keptB hb3
      clear d0 d1 d2 d3 df hx3 g0 g1 g2 g3 hown HX HX2 ho2 hb2
      generalize w2.setCell ⟨wr.heap.size, 2, none⟩ (.slice a2 nl k2) = w3 at *
      have hs3 := hb3.size
      go_wp2_with (at_builtin; refine wpList_append_src rfl _ _ _ _ rfl w.heap.size ER _ Y.length (recsCells Y) rfl (hown3.own.alloc _) _ 1 (recCells (r, .slice a2 nl k2)) rfl (by exact src_last (cs := #[.int .i64 r.time, .int .u64 (r.seq : Int), .slice a2 nl k2, .string r.line]) Tryz.underlying28 1 1 4 rfl rfl (by simp [Value.oneCell'])) (by unfold maxLen; omega) (by omega) (by simp; omega) ?_; intro v4 w4 hown4 hgr4 _ _)
      go_roundw
      case rel =>
        have hol := ho3.alloc (.cells #[.int .i64 r.time, .int .u64 (r.seq : Int), .slice a2 nl k2, .string r.line] 47)
        have hol2 : (w3.alloc (.cells #[.int .i64 r.time, .int .u64 (r.seq : Int), .slice a2 nl k2, .string r.line] 47)).ownsRow w.heap.size 62 2 (.slice a2 nl k2) r.labs.length (labCells r.labs) := by rw [HNL.out]; exact hol
        refine ⟨k + 1, Y ++ [(r, .slice a2 nl k2)], by omega, by go_num, by rw [List.map_append, HYY.out, HFT.out]; rfl, ?_, (hbr.trans ((belowA hb3).mono hszr)).grown hgr4 (by simp; omega) (fun j hj => (hown3.own.lt j hj).1)⟩
        refine (hown3.keptB (belowA (Below.refl _ _))).more (z := (r, .slice a2 nl k2)) ⟨hol2, LRow_own hol2, HAT.out.2⟩ hgr4 hown4
      case measure => simp [intOf]; omega
    · obtain rfl : k = Z.length := by omega
      rw [List.take_length] at hY
      go_wp2
      go_ret
      exact ⟨_, _, rfl, hY, hown, hbr⟩
end Go.Proofs.YtaimldndooijdaaGreatDoor
/-
  slices.Grow of nil, slices.Concat of two, at records; slices.Clone at numbers.
-/
namespace Go.Proofs.YtaimldndooijdaaGreatDoor
open Go.RowKit
theorem info_rec : (Tryz.prog.info? 47).map (fun i => (i.zero, i.size, i.bytes)) = some (some (.agg #[.int .i64 0, .int .u64 0, .slice none 0 0, .string ⟨#[]⟩]), 4, 56) := by kernel_rfl
theorem rec_grow (n : Nat) (w : World) (hn : n ≤ 1000000000) :
    Calls Tryz.prog 39 #[.slice none 0 0, .int .i64 n] w fun e w' => ∃ v, e = .returned v ∧ w'.ownsRow w.heap.size 47 4 v 0 [] ∧ Below w.heap.size w w' := by
  by_cases h0 : n = 0
  · subst h0
    refine (Any8.slices_Grow_room Tryz.growRec none 0 0 0 w (by omega) (by omega) (by omega) (by omega)).mono ?_
    rintro e w' ⟨rfl, rfl⟩
    exact ⟨_, rfl, World.ownsRow_nil _ _ _ _, Below.refl _ _⟩
  · obtain ⟨i0, hi, hz0, hz1, hz2⟩ := info_parts info_rec
    have h := Any8.slices_Grow_grow Tryz.growRec i0 _ hi hz0 (by rw [hz1]; decide) none 0 0 n [] w (by omega) (by omega) (by rw [hz2]; omega) (by omega) (by simp) (fun _ => rfl) (fun a ha => by cases ha)
    rw [Nat.zero_add] at h
    refine (show Calls Tryz.prog 39 _ _ _ from h).mono ?_
    rintro e w' ⟨rfl, rfl⟩
    have hge := grownCap_ge w n 0 47
    have hcm : grownCap w n 0 47 ≤ maxLen := grownCap_le_maxLen w n 0 47 (by unfold maxLen; omega)
    refine ⟨_, rfl, ⟨rfl, .inr ⟨w.heap.size, _, _, rfl, Nat.le_refl _, heap_alloc_new w.drew _, Nat.zero_le _, hcm, ?_, rfl⟩⟩, ((Below.refl _ _).drew).alloc (Nat.le_refl _) _⟩
    simp only [Array.size_append, List.size_toArray, size_zeroCells, List.length_nil]
    change 0 + (n - 0) * 4 + (grownCap w n 0 47 - n) * 4 = grownCap w n 0 47 * 4
    omega
theorem recsCells_oneC {Z : List RecL} (h : ∀ z ∈ Z, z.2.oneCell' = true) : ∀ u ∈ recsCells Z, u.oneCell' = true := by
  intro u hu
  obtain ⟨z, hz, hx⟩ := List.mem_flatMap.1 hu
  simp only [recCells, List.mem_cons, List.mem_nil_iff, or_false] at hx
  rcases hx with rfl | rfl | rfl | rfl
  · rfl
  · rfl
  · exact h z hz
  · rfl
theorem RRow.one {w : World} {v : Value} {Z : List RecL} (h : RRow w v Z) : ∀ z ∈ Z, z.2.oneCell' = true := fun z hz => by
  obtain ⟨a, c, e, -, -⟩ := (h.2 z hz).1.shape
  rw [e]
  rfl
set_option maxRecDepth 100000 in
set_option maxHeartbeats 4000000 in
theorem rec_concat (va vb : Value) (ZA ZB : List RecL) (g : Nat) (w : World) (hg : g < w.heap.size) (h0 : w.cell? ⟨g, 0, none⟩ = some va) (h1 : w.cell? ⟨g, 1, none⟩ = some vb) (hA : RRow w va ZA) (hB : RRow w vb ZB) (hlA : ZA.length ≤ 2000000) (hlB : ZB.length ≤ 2000000) :
    Calls Tryz.prog 23 #[.slice (some ⟨g, 0, none⟩) 2 2] w fun e w' => ∃ v, e = .returned v ∧ w'.ownsRow w.heap.size 47 4 v (ZA ++ ZB).length (recsCells (ZA ++ ZB)) ∧ Below w.heap.size w w' := by
  have HA := Lib.hid hA
  have HB := Lib.hid hB
  have H1A := Lib.hid (recsCells_oneC hA.one)
  have H1B := Lib.hid (recsCells_oneC hB.one)
  obtain ⟨aa, ca, rfl, -, -⟩ := hA.shape
  obtain ⟨ab, cb, rfl, -, -⟩ := hB.shape
  clear hA hB
  go_enter Tryz.func23, Tryz.ntmps23
  go_wp2_with fail
  have s0 : ¬ ((0 : Int) + (ZA.length : Int) < 0) := by omega
  have s1 : ¬ ((ZA.length : Int) + (ZB.length : Int) < 0) := by omega
  go_loop [3, 11] (fun s i => (s = .int .i64 0 ∧ i = .int .i64 0) ∨ (s = .int .i64 ZA.length ∧ i = .int .i64 1) ∨ (s = .int .i64 ((ZA.length : Int) + (ZB.length : Int)) ∧ i = .int .i64 2)) (fun _ i => 2 - (intOf i).toNat)
  case atStart => exact .inl ⟨rfl, rfl⟩
  case round =>
    rcases hrel with ⟨rfl, rfl⟩ | ⟨rfl, rfl⟩ | ⟨rfl, rfl⟩
    · go_wp2
      go_round
      case rel => exact .inr (.inl ⟨by simp, rfl⟩)
      case measure => simp [intOf]
    · go_wp2
      go_round
      case rel => exact .inr (.inr ⟨rfl, rfl⟩)
      case measure => simp [intOf]
    · have cG := Lib.hid (rec_grow (ZA.length + ZB.length) w (by omega))
      clear s0 s1
      go_upto_region 10 with (go_at_call 39; refine cG.out.mono ?_; rintro e w1 ⟨v1, rfl, ho1, hb1⟩)
      have hz1 := hb1.size
      clear cG
      go_wp2_with fail
      go_loopw [6, 27] (fun s i wr => ∃ ZZ : List RecL, wr.ownsRow w.heap.size 47 4 s ZZ.length (recsCells ZZ) ∧ Below w.heap.size w wr ∧ ((ZZ = [] ∧ i = .int .i64 0) ∨ (ZZ = ZA ∧ i = .int .i64 1) ∨ (ZZ = ZA ++ ZB ∧ i = .int .i64 2))) (fun _ i _ => 2 - (intOf i).toNat)
      case atStart => exact ⟨[], ho1, hb1, .inl ⟨rfl, rfl⟩⟩
      case round =>
        obtain ⟨ZZ, hown, hbr, hcase⟩ := hrel
        have hszr := hbr.size
        have k0 : wr.cell? ⟨g, 0, none⟩ = some (.slice aa ZA.length ca) := by rw [hbr.cell (p := ⟨g, 0, none⟩) hg]; exact h0
        have k1 : wr.cell? ⟨g, 1, none⟩ = some (.slice ab ZB.length cb) := by rw [hbr.cell (p := ⟨g, 1, none⟩) hg]; exact h1
        rcases hcase with ⟨rfl, rfl⟩ | ⟨rfl, rfl⟩ | ⟨rfl, rfl⟩
        · go_wp2_with (at_builtin; refine wpList_append_src rfl _ _ _ _ rfl w.heap.size ER _ 0 [] rfl hown _ ZA.length (recsCells ZA) rfl (by exact src_arg Tryz.underlying28 (HA.out.below hbr).1 H1A.out) (by unfold maxLen; omega) (by omega) (by omega) ?_; intro v4 w4 hown4 hgr4 _ _)
          go_roundw
          case rel => exact ⟨ZA, by simpa using hown4, hbr.grown hgr4 hszr (fun j hj => (hown.lt j hj).1), .inr (.inl ⟨rfl, rfl⟩)⟩
          case measure => simp [intOf]
        · go_wp2_with (at_builtin; refine wpList_append_src rfl _ _ _ _ rfl w.heap.size ER _ ZZ.length (recsCells ZZ) rfl hown _ ZB.length (recsCells ZB) rfl (by exact src_arg Tryz.underlying28 (HB.out.below hbr).1 H1B.out) (by unfold maxLen; omega) (by omega) (by omega) ?_; intro v4 w4 hown4 hgr4 _ _)
          go_roundw
          case rel => exact ⟨ZZ ++ ZB, by rw [List.length_append, recsCells_append]; exact hown4, hbr.grown hgr4 hszr (fun j hj => (hown.lt j hj).1), .inr (.inr ⟨rfl, rfl⟩)⟩
          case measure => simp [intOf]
        · go_wp2
          go_ret
          exact ⟨_, rfl, hown, hbr⟩
theorem EU : ElemT Tryz.prog 39 44 (.int .u64 0) 1 8 := ⟨Tryz.underlying39, by kernel_rfl, rfl, by decide⟩
theorem eql_nil_u (a : Option Addr) (l c : Nat) (W : World) : (binOp .eql 39 (.slice a l c) (.slice none 0 0)).run Tryz.prog W = .ok (.bool a.isNone) W := by
  have h := run_equal_slice_nil (P := Tryz.prog) W 39 44 a l c Tryz.underlying39
  simp [binOp, h]
def u64s (zs : List Int) : List Value := zs.map (Value.int .u64)
theorem u64s_one (zs : List Int) : ∀ u ∈ u64s zs, u.oneCell' = true := by
  intro u hu
  obtain ⟨z, _, rfl⟩ := List.mem_map.1 hu
  rfl
set_option maxRecDepth 100000 in
set_option maxHeartbeats 4000000 in
theorem u64_clone (v : Value) (zs : List Int) (w : World) (h : argRow w v zs.length 1 (u64s zs)) (hL : zs.length ≤ 1000000000) :
    Calls Tryz.prog 31 #[v] w fun e w' => ∃ v', e = .returned v' ∧ w'.ownsRow w.heap.size 44 1 v' zs.length (u64s zs) ∧ Below w.heap.size w w' := by
  obtain ⟨_, a, c, rfl, hc, hcm, hcell⟩ := id h
  unfold maxLen at hcm
  have HR := Lib.hid h
  have hl0 : a = none → zs = [] := fun e => Classical.byContradiction fun hne => by
    obtain ⟨b, off, e', _⟩ := hcell (List.length_pos_iff.2 hne)
    rw [e] at e'
    cases e'
  clear h hcell
  have hnil := fun a l c W => eql_nil_u a l c W
  cases a with
  | none =>
    obtain rfl := hl0 rfl
    clear hl0
    go_enter Tryz.func31, Tryz.ntmps31
    go_wp2
    go_ret
    exact ⟨_, rfl, World.ownsRow_nil _ _ _ _, Below.refl _ _⟩
  | some p =>
    clear hl0
    go_enter Tryz.func31, Tryz.ntmps31
    go_wp2_with (at_builtin; refine wpList_append_src rfl _ _ _ _ rfl w.heap.size EU _ 0 [] rfl (World.ownsRow_lit w #[] 0 (Nat.le_refl _) (by decide) rfl) _ zs.length (u64s zs) rfl (by exact src_arg Tryz.underlying39 (argRow_below HR.out (belowA (Below.refl _ _))) (u64s_one zs)) (by unfold maxLen; omega) (by omega) (by simp) ?_; intro v1 w1 hown1 hgr1 _ _)
    go_ret
    refine ⟨_, rfl, by simpa using hown1, (belowA (Below.refl _ _)).grown hgr1 (by simp) (fun k hk => ?_)⟩
    cases hk
    exact Nat.le_refl _
end Go.Proofs.YtaimldndooijdaaGreatDoor
/-
  A map of rows of numbers: what is laid under a text.
-/
namespace Go.Proofs.YtaimldndooijdaaGreatDoor
open Go.RowKit Go.WideMaps Go.Maps Go.WideElems Go.MapKept
open Go.ChangeShapes (lits)
section
variable {P : Program} {k e : TypeId} {q : IntKind} {w : World} {b n : Nat} {D : DataW Unit}
theorem gen_blocks {w' : World} (h : w.ownsGroups P k (b + 1) e q b n D) (hk : ∀ j, b ≤ j → j < w.heap.size → w'.heap[j]? = w.heap[j]?) : w'.ownsGroups P k (b + 1) e q b n D := by
  obtain ⟨es, clock, hb, F, hs, rfl, hbb, hlen, hap⟩ := h
  have hblt : b < w.heap.size := (Array.getElem?_eq_some_iff.1 hb).1
  have hoo : ∀ v zs, w.ownsInts (b + 1) e q v zs → w'.ownsInts (b + 1) e q v zs := fun v zs h => ⟨by
    obtain ⟨h, _⟩ := h
    refine ⟨h.1, ?_⟩
    rcases h.2 with ⟨rfl, h2⟩ | ⟨g, cap, cur, rfl, hB, hg, h2⟩
    · exact .inl ⟨rfl, h2⟩
    · exact .inr ⟨g, cap, cur, rfl, hB, by rw [hk g (by omega) (Array.getElem?_eq_some_iff.1 hg).1]; exact hg, h2⟩, h.2⟩
  have hst : ∀ x ∈ es.toList, ∀ z, rowElem (H := Unit) w (b + 1) e q x.val = some z → rowElem w' (b + 1) e q x.val = some z := fun x _ z hz => by
    obtain ⟨zs, ho, rfl⟩ := rowElem_inv hz
    exact rowElem_mk (hoo _ _ ho)
  obtain ⟨F1, hmap, _⟩ := F.stay hst
  refine ⟨es, clock, (hk b (Nat.le_refl _) hblt).trans hb, F1, hs, by rw [hmap], hbb, fun x hx zs ho => ?_, hap⟩
  obtain ⟨y, hy⟩ := F.reads x hx
  obtain ⟨z, hz, _⟩ := rd_val hy
  obtain ⟨zs0, ho0, _⟩ := rowElem_inv hz
  rw [ho.unique (hoo _ _ ho0)]
  exact hlen x hx zs0 ho0
theorem gen_look {t E : TypeId} {key : Value} {kl : Lit} (h : w.ownsGroups P k (b + 1) e q b n D) (K : Keyed P k) (hu : P.underlying t = some (.map k E)) (hz : ∀ W, (zeroValue E).run P W = .ok (.slice none 0 0) W) (hn : n < maxLen) (hkey : keyOf P k key = some kl) :
    ∃ v zs, (∀ W, Below w.heap.size w W → (Instr.lookup t (.map (some b)) key false).run P W = .ok v W) ∧ D.atKey kl .nil = rowDatum q v zs ∧ w.ownsInts (b + 1) e q v zs ∧ zs.length ≤ n ∧ w.groupBack P t k (b + 1) e q b n D key kl v := by
  obtain ⟨es, clock, hb, F, hs, rfl, hbb, hlen, hap⟩ := id h
  have hW : ∀ W, Below w.heap.size w W → W.heap[b]? = some (.map es clock) ∧ Fit P k (rowElem (H := Unit) W (b + 1) e q) es clock := fun W hW => by
    have hst : ∀ x ∈ es.toList, ∀ z, rowElem (H := Unit) w (b + 1) e q x.val = some z → rowElem W (b + 1) e q x.val = some z := fun x _ z hz => by
      obtain ⟨zs, ho, rfl⟩ := rowElem_inv hz
      exact rowElem_mk ⟨owns_below ho.1 hW, ho.2⟩
    exact ⟨(hW.block b (Array.getElem?_eq_some_iff.1 hb).1).trans hb, (F.stay hst).1⟩
  rcases Maps.fit_look false K hu (hz w) hb F hkey with ⟨hrun, hno, hat⟩ | ⟨e0, y, hm0, h3, hrun, hR, hat, _⟩
  · refine ⟨.slice none 0 0, [], fun W hb' => ?_, hat _, World.ownsInts_nil _ _ _ _, Nat.zero_le _, groups_back K hu hb F hs hn hbb hlen hap hkey (fun x _ _ => ?_) (by simp [Value.ownBlock])⟩
    · rcases Maps.fit_look false K hu (hz W) (hW W hb').1 (hW W hb').2 hkey with ⟨hrun', _, _⟩ | ⟨e1, _, hm1, h31, _⟩
      · exact hrun'
      · exact absurd h31 (hno e1 hm1)
    · cases x.val.ownBlock <;> simp [Value.ownBlock]
  · obtain ⟨zs, ho, rfl⟩ := rowElem_inv hR
    refine ⟨e0.val, zs, fun W hb' => ?_, hat _, ho, hlen e0 hm0 zs ho, groups_back K hu hb F hs hn hbb hlen hap hkey (fun x hx hne => hap x hx e0 hm0 (by rw [h3]; exact hne)) (fun e1 => ?_)⟩
    · rcases Maps.fit_look false K hu (hz W) (hW W hb').1 (hW W hb').2 hkey with ⟨_, hno, _⟩ | ⟨e1, _, hm1, h31, hrun', _⟩
      · exact absurd h3 (hno e0 hm0)
      · have hnd := F.stamped.2.2
        have e : e1 = e0 := by
          obtain ⟨i, hi, rfl⟩ := List.getElem_of_mem hm1
          obtain ⟨j, hj, rfl⟩ := List.getElem_of_mem hm0
          have hij : i = j := by
            rcases Nat.lt_trichotomy i j with h | h | h
            · exact absurd (by rw [List.getElem_map, List.getElem_map, h31, h3]) (List.pairwise_iff_getElem.1 hnd i j (by simpa using hi) (by simpa using hj) h)
            · exact h
            · exact absurd (by rw [List.getElem_map, List.getElem_map, h31, h3]) (List.pairwise_iff_getElem.1 hnd j i (by simpa using hj) (by simpa using hi) h)
          subst hij
          rfl
        rw [e] at hrun'
        exact hrun'
    · have := (ho.1.lt b e1).1
      omega
end
theorem keyS : Keyed Tryz.prog 9 := string_keyed Tryz.underlying9
theorem zeroU (w : World) : (zeroValue 39).run Tryz.prog w = .ok (.slice none 0 0) w := by kernel_rfl
/-- At most n rows of numbers by text. -/
abbrev Groups (w : World) (b n : Nat) (D : DataW Unit) : Prop := w.ownsGroups Tryz.prog 9 (b + 1) 44 .u64 b n D
theorem keyT (t : Txt) (h : t.length ≤ maxLen) : keyOf Tryz.prog 9 (strV t) = some (.string t) := by
  unfold strV
  exact keyOf_string_mk Tryz.underlying9 (by show t.toArray.size ≤ maxLen; rw [List.size_toArray]; exact h)
theorem groups_blocks {w w' : World} {b n : Nat} {D : DataW Unit} (h : Groups w b n D) (hk : ∀ j, b ≤ j → j < w.heap.size → w'.heap[j]? = w.heap[j]?) : Groups w' b n D := gen_blocks h hk
/-- What lies under a text, in every later world; and the way back. -/
theorem groups_look {w : World} {b n : Nat} {D : DataW Unit} (h : Groups w b n D) (t : Txt) (ht : t.length ≤ maxLen) (hn : n < maxLen) :
    ∃ v zs, (∀ W, Below w.heap.size w W → (Instr.lookup 51 (.map (some b)) (strV t) false).run Tryz.prog W = .ok v W) ∧ D.atKey (.string t) .nil = rowDatum .u64 v zs ∧ w.ownsInts (b + 1) 44 .u64 v zs ∧ zs.length ≤ n ∧
      w.groupBack Tryz.prog 51 9 (b + 1) 44 .u64 b n D (strV t) (.string t) v :=
  gen_look h keyS Tryz.underlying51 zeroU hn (keyT t ht)
/-- What a map reads as at a text. -/
def ReadsD (D : DataW Unit) (t : Txt) (zs : List Int) : Prop := (D.atKey (.string t) .nil = .nil ∧ zs = []) ∨ D.atKey (.string t) .nil = .slice (lits .u64 zs) []
theorem lits_inj {zs ys : List Int} (h : (lits .u64 zs : List (DataW Unit)) = lits .u64 ys) : zs = ys := by
  unfold lits at h
  exact (List.map_inj_right (fun a b hab => by cases hab; rfl)).1 h
theorem ReadsD.eq {D : DataW Unit} {t : Txt} {zs ys : List Int} {w : World} {B : Nat} {v : Value} (h : ReadsD D t zs) (ho : w.ownsInts B 44 .u64 v ys) (hat : D.atKey (.string t) .nil = rowDatum .u64 v ys) : ys = zs := by
  rcases ho.datum (H := Unit) with ⟨h1, h2⟩ | h1
  · rw [h1] at hat
    rcases h with ⟨_, h⟩ | h
    · rw [h, h2]
    · rw [hat] at h; cases h
  · rw [h1] at hat
    rcases h with ⟨h, _⟩ | h
    · rw [hat] at h; cases h
    · rw [hat] at h
      injection h with h _
      exact lits_inj h
/-- What lies under each text. -/
def Idx (w : World) (b n : Nat) (f : Txt → List Int) : Prop := ∃ D, Groups w b n D ∧ IsMap D ∧ ∀ t, ReadsD D t (f t)
theorem Idx.blocks {w w' : World} {b n : Nat} {f : Txt → List Int} (h : Idx w b n f) (hk : ∀ j, b ≤ j → j < w.heap.size → w'.heap[j]? = w.heap[j]?) : Idx w' b n f := by
  obtain ⟨D, h1, h2, h3⟩ := h
  exact ⟨D, groups_blocks h1 hk, h2, h3⟩
theorem Idx.made (w : World) : Idx (w.alloc (.map #[] 0)) w.heap.size 0 (fun _ => []) := ⟨.map [], World.ownsGroups_made _ _ _ _ _, ⟨[], rfl⟩, fun _ => .inl ⟨rfl, rfl⟩⟩
end Go.Proofs.YtaimldndooijdaaGreatDoor
/-
  A head's memory; (*Head).index.
-/
namespace Go.Proofs.YtaimldndooijdaaGreatDoor
open Go.RowKit Go.WideMaps Go.Maps Go.WideElems Go.MapKept
open Go.ChangeShapes (lits)
section
variable {P : Program} {w : World}
end
/-- The cells of a head. -/
def headObj (av mv : Value) (last : Int) (so : Bool) : Obj := .cells #[av, mv, .int .u64 last, .bool so] 53 (0, 0)
theorem own_typed {w : World} {B size n : Nat} {e : TypeId} {v : Value} {xs : List Value} (h : w.ownsRow B e size v n xs) {p : Nat} {cs : Array Value} {T : TypeId} {fr : Nat × Nat} (hp : w.heap[p]? = some (.cells cs T fr)) (hT : e ≠ T) : v.ownBlock ≠ some p := by
  intro hv
  rcases h.2 with ⟨rfl, _⟩ | ⟨g, cap, cur, rfl, _, hg, _⟩
  · cases hv
  · have e1 : g = p := Option.some.inj hv
    subst e1
    rw [hp] at hg
    have := Obj.cells.inj (Option.some.inj hg)
    exact hT this.2.1.symm
theorem own_off {w w' : World} {B size n : Nat} {e : TypeId} {v : Value} {xs : List Value} (h : w.ownsRow B e size v n xs) {p : Nat} {cs : Array Value} {T : TypeId} {fr : Nat × Nat} (hp : w.heap[p]? = some (.cells cs T fr)) (hT : e ≠ T) (hg : w.grownBy w' (some p)) : w'.ownsRow B e size v n xs :=
  h.kept hg (.inr (own_typed h hp hT))
theorem ROwn.off {w w' : World} {B p : Nat} {v : Value} {Z : List RecL} {cs : Array Value} {fr : Nat × Nat} (h : ROwn w B v Z) (hp : w.heap[p]? = some (.cells cs 53 fr)) (hg : w.grownBy w' (some p)) : ROwn w' B v Z :=
  ⟨own_off h.own hp (by decide) hg, fun z hz => by
    have h1 := own_off (h.labs z hz).1 hp (by decide) hg
    exact ⟨h1, LRow_own h1, (h.labs z hz).2.2⟩⟩
theorem ROwn.base {w : World} {A B : Nat} {v : Value} {Z : List RecL} (h : ROwn w B v Z) (hA : A ≤ B) : ROwn w A v Z := ⟨owns_base h.own hA, fun z hz => ⟨owns_base (h.labs z hz).1 hA, (h.labs z hz).2⟩⟩
theorem ReadsD.put {D : DataW Unit} (hD : IsMap D) {f : Txt → List Int} (h : ∀ t, ReadsD D t (f t)) (t0 : Txt) (zs : List Int) : ∀ t, ReadsD (D.put (.string t0) (.slice (lits .u64 zs) [])) t (if t = t0 then zs else f t) := by
  intro t
  by_cases ht : t = t0
  · subst ht
    rw [if_pos rfl]
    exact .inr (atKey_put_same hD (show WideAt.IsKeyLit (.string t) from trivial) _ _)
  · rw [if_neg ht]
    have := h t
    unfold ReadsD at *
    rw [atKey_put_other (fun e => ht (by injection e))]
    exact this
/-- What index keeps. -/
structure Ix (w0 : World) (p b : Nat) (hc : Obj) (n : Nat) (f : Txt → List Int) (wr : World) : Prop where
  gr : w0.grownBy wr (some p)
  hd : wr.heap[p]? = some hc
  ix : Idx wr b n f
  pb : p < b
  b0 : w0.heap.size ≤ b
  bl : b < wr.heap.size
theorem Ix.below {w0 wr w' : World} {p b n : Nat} {hc : Obj} {f : Txt → List Int} (h : Ix w0 p b hc n f wr) (hb : Below wr.heap.size wr w') : Ix w0 p b hc n f w' :=
  ⟨h.gr.trans (grown_of_below hb _), by rw [hb.block p (Nat.lt_trans h.pb h.bl)]; exact h.hd, h.ix.blocks fun j _ hj => hb.block j hj, h.pb, h.b0, Nat.lt_of_lt_of_le h.bl hb.size⟩
theorem Ix.congr {w0 wr : World} {p b n : Nat} {hc : Obj} {f g : Txt → List Int} (h : Ix w0 p b hc n f wr) (e : ∀ t, f t = g t) : Ix w0 p b hc n g wr := by
  rw [← show f = g from funext e]; exact h
end Go.Proofs.YtaimldndooijdaaGreatDoor
