/-
  A head, and the blocks that it lies in.
-/
import Derived.Test.YtaimldndooijdaaGreatDoorHeadFor
namespace Go.Proofs.YtaimldndooijdaaGreatDoor
open Go.RowKit Go.WideMaps Go.Maps Go.WideElems Go.MapKept
open Go.ChangeShapes (lits)
def MapOn (F : Nat → Prop) (w : World) (mv : Value) (A : List Rec) : Prop :=
  (mv = .map none ∧ A = []) ∨ ∃ b n wt, mv = .map (some b) ∧ n ≤ 1000000000 ∧ Idx wt b n (fun t => plI t A) ∧ ∀ j, b ≤ j → j < wt.heap.size → F j ∧ w.heap[j]? = wt.heap[j]?
/-- A head, all of it in blocks of which F holds. -/
def HeadOn (F : Nat → Prop) (w : World) (p last : Nat) (so : Bool) (A : List Rec) : Prop :=
  ∃ av mv ZA, w.heap[p]? = some (headObj av mv last so) ∧ ROwn w 0 av ZA ∧ ZA.map Prod.fst = A ∧ A.length ≤ 65536 ∧ (∀ r ∈ A, chkRec r = 0) ∧ MapOn F w mv A ∧ F p ∧ (∀ k, av.ownBlock = some k → F k) ∧ ∀ z ∈ ZA, ∀ k, z.2.ownBlock = some k → F k
theorem HeadOn.at {F : Nat → Prop} {w : World} {p last : Nat} {so : Bool} {A : List Rec} (h : HeadOn F w p last so A) : HeadAt w p last so A := by
  obtain ⟨av, mv, ZA, hp, hA, h1, h2, h3, hm, -⟩ := h
  refine ⟨av, mv, ZA, hp, hA, h1, h2, h3, ?_⟩
  rcases hm with hm | ⟨b, n, wt, e, hn, hi, hj⟩
  · exact .inl hm
  · exact .inr ⟨b, n, e, hn, hi.blocks fun j hb hl => (hj j hb hl).2⟩
theorem HeadOn.lt {F : Nat → Prop} {w : World} {p last : Nat} {so : Bool} {A : List Rec} (h : HeadOn F w p last so A) : p < w.heap.size := h.at.lt
theorem HeadOn.foot {F : Nat → Prop} {w : World} {p last : Nat} {so : Bool} {A : List Rec} (h : HeadOn F w p last so A) : F p := by
  obtain ⟨av, mv, ZA, hp, hA, h1, h2, h3, hm, h4, -⟩ := h
  exact h4
/-- It stays where its blocks stay. -/
theorem HeadOn.stay {F : Nat → Prop} {w w' : World} {p last : Nat} {so : Bool} {A : List Rec} (h : HeadOn F w p last so A) (hk : ∀ k, F k → k < w.heap.size → w'.heap[k]? = w.heap[k]?) : HeadOn F w' p last so A := by
  obtain ⟨av, mv, ZA, hp, hA, h1, h2, h3, hm, h4, h5, h6⟩ := h
  refine ⟨av, mv, ZA, (hk p h4 (Array.getElem?_eq_some_iff.1 hp).1).trans hp, hA.stay (fun k e => hk k (h5 k e) (hA.own.lt k e).2) (fun z hz k e => hk k (h6 z hz k e) ((hA.labs z hz).1.lt k e).2), h1, h2, h3, ?_, h4, h5, h6⟩
  rcases hm with hm | ⟨b, n, wt, e, hn, hi, hj⟩
  · exact .inl hm
  · refine .inr ⟨b, n, wt, e, hn, hi, fun j hb hl => ?_⟩
    obtain ⟨j1, j2⟩ := hj j hb hl
    have hjl : j < w.heap.size := by
      have h7 := Array.getElem?_eq_getElem hl
      rw [← j2] at h7
      exact (Array.getElem?_eq_some_iff.1 h7).1
    exact ⟨j1, (hk j j1 hjl).trans j2⟩
theorem HeadOn.below {F : Nat → Prop} {w w' : World} {p last : Nat} {so : Bool} {A : List Rec} (h : HeadOn F w p last so A) (hb : Below w.heap.size w w') : HeadOn F w' p last so A := h.stay fun k _ hl => hb.block k hl
theorem HeadOn.mono {F G : Nat → Prop} {w : World} {p last : Nat} {so : Bool} {A : List Rec} (h : HeadOn F w p last so A) (hk : ∀ k, F k → k < w.heap.size → G k) : HeadOn G w p last so A := by
  obtain ⟨av, mv, ZA, hp, hA, h1, h2, h3, hm, h4, h5, h6⟩ := h
  refine ⟨av, mv, ZA, hp, hA, h1, h2, h3, ?_, hk p h4 (Array.getElem?_eq_some_iff.1 hp).1, fun k e => hk k (h5 k e) (hA.own.lt k e).2, fun z hz k e => hk k (h6 z hz k e) ((hA.labs z hz).1.lt k e).2⟩
  rcases hm with hm | ⟨b, n, wt, e, hn, hi, hj⟩
  · exact .inl hm
  · refine .inr ⟨b, n, wt, e, hn, hi, fun j hb hl => ?_⟩
    obtain ⟨j1, j2⟩ := hj j hb hl
    have hjl : j < w.heap.size := by
      have h7 := Array.getElem?_eq_getElem hl
      rw [← j2] at h7
      exact (Array.getElem?_eq_some_iff.1 h7).1
    exact ⟨hk j j1 hjl, j2⟩
theorem hd_NewOn (w : World) : Calls Tryz.prog 5 #[] w fun e w' => e = .returned (.pointer (some ⟨w.heap.size, 0, none⟩)) ∧ HeadOn (fun k => k = w.heap.size) w' w.heap.size 0 false [] ∧ Below w.heap.size w w' ∧ w'.heap.size = w.heap.size + 1 :=
  (head_New w).mono fun e w' ⟨he, hw⟩ => by
    subst hw
    exact ⟨he, ⟨_, _, [], heap_alloc_new _ _, ROwn.nil _ _, rfl, by decide, fun r hr => (by cases hr), .inl ⟨rfl, rfl⟩, rfl, fun k e => (by cases e), fun z hz => (by cases hz)⟩, belowA (Below.refl _ _), by simp⟩
theorem hd_TakeOn {F : Nat → Prop} {w : World} {p last : Nat} {so : Bool} {A : List Rec} (h : HeadOn F w p last so A) :
    Calls Tryz.prog 17 #[.pointer (some ⟨p, 0, none⟩)] w fun e w' => ∃ v' Z', e = .returned v' ∧ Z'.map Prod.fst = A ∧ ROwn w' w.heap.size v' Z' ∧ HeadOn (fun k => k = p) w' p last so [] ∧ w.grownBy w' (some p) := by
  obtain ⟨av, mv, ZA, hp, hA, h1, h2, h3, hm, h4, h5, h6⟩ := h
  have := head_Take p av mv last so ZA w hp hA (by rw [← List.length_map (f := Prod.fst), h1]; exact h2)
  rw [h1] at this
  refine this.mono fun e w' ⟨v', Z', he, hz, ho, hh, hg⟩ => ⟨v', Z', he, hz, ho, ⟨_, _, [], hh, ROwn.nil _ _, rfl, by decide, fun r hr => (by cases hr), .inl ⟨rfl, rfl⟩, rfl, fun k e => (by cases e), fun z hz => (by cases hz)⟩, hg⟩
theorem hd_AddOn {F : Nat → Prop} {w2 : World} {p last : Nat} {so : Bool} {A : List Rec} (h : HeadOn F w2 p last so A) (hT : Tabs w2) (v : Value) (Z : List RecL) (hv : ∀ W, w2.grownBy W (some p) → RRow W v Z) (hZ : Z.length ≤ 2000000) :
    Calls Tryz.prog 8 #[.pointer (some ⟨p, 0, none⟩), v] w2 fun e w3 => e = .returned (.int .i64 (addE so last A.length (Z.map Prod.fst))) ∧
      (addE so last A.length (Z.map Prod.fst) ≠ 0 → Below w2.heap.size w2 w3) ∧
      (addE so last A.length (Z.map Prod.fst) = 0 → w2.grownBy w3 (some p) ∧ ∃ A', A'.Perm (A ++ Z.map Prod.fst) ∧ Sorted A' ∧ HeadOn (fun k => F k ∨ w2.heap.size ≤ k ∧ k < w3.heap.size) w3 p (lastS last (Z.map Prod.fst)) (so || decide (0 < Z.length)) A') := by
  obtain ⟨av, mv, ZA, hp, hA, h1, h2, h3, hm, h4, h5, h6⟩ := h
  have hlA : ZA.length = A.length := by rw [← h1, List.length_map]
  have hc := head_Add p last so av mv v ZA Z w2 hT hp hA (by omega) (fun z hz => h3 _ (by rw [← h1]; exact List.mem_map_of_mem hz)) hv hZ
  rw [hlA] at hc
  refine hc.mono fun e w3 ⟨he, hbad, hok⟩ => ⟨he, hbad, fun h0 => ?_⟩
  obtain ⟨av', b, n, ZB, hn, hh3, ho3, hpm, hso, hix, hbb, hg3, hfa, hfl⟩ := hok h0
  obtain ⟨e1, e2, e3⟩ := addE_zero.1 h0
  rw [h1] at hpm
  refine ⟨hg3, ZB.map Prod.fst, hpm, hso, av', .map (some b), ZB, hh3, ho3, rfl, ?_, ?_, .inr ⟨b, n, w3, rfl, hn, hix, fun j hj hl => ⟨.inr ⟨by omega, hl⟩, rfl⟩⟩, .inl h4, fun k hk => .inr ⟨hfa k hk, (ho3.own.lt k hk).2⟩, fun z hz k hk => ?_⟩
  · have := hpm.length_eq
    rw [List.length_append] at this
    rw [this]
    exact e3
  · intro r hr
    rcases List.mem_append.1 (hpm.mem_iff.1 hr) with hr | hr
    · exact h3 r hr
    · exact putBad_zero e1 r hr
  · rcases hfl z hz with ⟨y, hy, e⟩ | hnew
    · rw [e] at hk
      exact .inl (h6 y hy k hk)
    · exact .inr ⟨hnew k hk, ((ho3.labs z hz).1.lt k hk).2⟩
end Go.Proofs.YtaimldndooijdaaGreatDoor
/-
  The law's copied.
-/
namespace Go.Proofs.YtaimldndooijdaaGreatDoor
open Go.RowKit
set_option maxRecDepth 100000 in
set_option maxHeartbeats 4000000 in
theorem law_copied (v : Value) (Z : List RecL) (w : World) (h : RRow w v Z) (hZ : Z.length ≤ 2000000) :
    Calls Tryz.prog 7 #[v] w fun e w' => ∃ v' Z', e = .returned v' ∧ Z'.map Prod.fst = Z.map Prod.fst ∧ ROwn w' w.heap.size v' Z' ∧ Below w.heap.size w w' := by
  have H := Lib.hid h
  obtain ⟨al, cl, rfl, hlc, hlc2⟩ := h.shape
  unfold maxLen at hlc2
  clear h
  go_enter Tryz.func7, Tryz.ntmps7
  go_wp2
  go_loopw [3, 4] (fun o i wr => ∃ k : Nat, ∃ Y : List RecL, k ≤ Z.length ∧ i = .int .i64 k ∧ Y.map Prod.fst = (Z.take k).map Prod.fst ∧ ROwn wr w.heap.size o Y ∧ Below w.heap.size w wr) (fun _ i _ => Z.length - (intOf i).toNat)
  case atStart => exact ⟨0, [], by omega, rfl, rfl, ROwn.nil _ _, Below.refl _ _⟩
  case round =>
    obtain ⟨k, Y, hk, rfl, hY, hown, hbr⟩ := hrel
    have hszr := hbr.size
    by_cases hlt : k < Z.length
    · obtain ⟨b, off, rfl, hbl, g0, g1, g2, g3⟩ := (H.out.below hbr).at hlt
      have hat := (H.out.2 _ (List.getElem_mem hlt)).below hbr
      have hft : (Z.take (k + 1)).map Prod.fst = (Z.take k).map Prod.fst ++ [Z[k].1] := by rw [List.take_succ_eq_append_getElem hlt, List.map_append]; rfl
      have hYl : Y.length = k := by
        have := congrArg List.length hY
        rw [List.length_map, List.length_map, List.length_take] at this
        omega
      obtain ⟨⟨r, lv⟩, hzz⟩ : ∃ z, Z[k] = z := ⟨_, rfl⟩
      rw [hzz] at hat hft g0 g1 g2 g3
      simp only at hat hft g0 g1 g2 g3
      obtain ⟨la, lc, rfl, -, -⟩ := hat.1.shape
      have hsrc := fun W (hW : Below wr.heap.size wr W) => src_arg (P := Tryz.prog) (tx := 45) Tryz.underlying45 (argRow_below hat.1 hW) (labCells_one r.labs)
      have hnlb : r.labs.length ≤ 2000000 := by have := hat.2.2.1; omega
      have HAT := Lib.hid hat
      have HFT := Lib.hid hft
      have HYY := Lib.hid hY
      have HYL := Lib.hid hYl
      clear hat hft hY hYl hzz
      have hYle : Y.length ≤ k := Nat.le_of_eq HYL.out
      generalize hnl : r.labs.length = nl at *
      have HNL := Lib.hid hnl
      have HSRC := Lib.hid hsrc
      clear hnl hsrc
      go_upto_region 6 with fail
      have hx := heap_alloc_new wr (.cells #[.int .i64 r.time, .int .u64 (r.seq : Int), .slice la nl lc, .string r.line] 47)
      have hb1 := belowA (o := .cells #[.int .i64 r.time, .int .u64 (r.seq : Int), .slice la nl lc, .string r.line] 47) (Below.refl wr.heap.size wr)
      have hs1 : (wr.alloc (.cells #[.int .i64 r.time, .int .u64 (r.seq : Int), .slice la nl lc, .string r.line] 47)).heap.size = wr.heap.size + 1 := by simp
      generalize wr.alloc (.cells #[.int .i64 r.time, .int .u64 (r.seq : Int), .slice la nl lc, .string r.line] 47) = w1 at *
      have c2 := cell_own hx (j := 2) rfl
      have hxa := ((belowA (o := .cells #[] 62) (Below.refl w1.heap.size w1)).block wr.heap.size (by omega)).trans hx
      have c2a : (w1.alloc (.cells #[] 62)).cell? ⟨wr.heap.size, 2, none⟩ = some (.slice la nl lc) := cell_own hxa (j := 2) rfl
      have HX := Lib.hid hx
      have HS1 := Lib.hid hs1
      clear hx hs1 hxa
      go_upto_region 7 with (at_builtin; refine wpList_append_src rfl _ _ _ _ rfl w1.heap.size EL _ 0 [] rfl (World.ownsRow_lit w1 #[] 0 (Nat.le_refl _) (by decide) rfl) _ nl (labCells r.labs) rfl (by exact HSRC.out _ (belowA hb1)) (by unfold maxLen; omega) (by omega) (by simp) ?_; intro v2 w2 ho2' hgr2 _ _; have hb2 : Below w1.heap.size w1 w2 := (belowA (Below.refl _ _)).grown hgr2 (by simp) (fun k hk => (World.ownsRow.lt (World.ownsRow_lit w1 #[] 0 (Nat.le_refl _) (by decide) rfl : (w1.alloc (.cells #[] 62)).ownsRow w1.heap.size 62 2 _ 0 _) k hk).1); have ho2 : w2.ownsRow w1.heap.size 62 2 v2 nl (labCells r.labs) := (by simpa using ho2'); clear ho2' hgr2; obtain ⟨a2, k2, rfl⟩ := owns_slice ho2; have hx2 := (hb2.block wr.heap.size (by have := HS1.out; omega)).trans HX.out; have d0 := cell_own hx2 (j := 0) rfl; have d1 := cell_own hx2 (j := 1) rfl; have d2 := cell_own hx2 (j := 2) rfl; have d3 := cell_own hx2 (j := 3) rfl; have df := Lib.frozen_of_heap hx2 2; have HX2 := Lib.hid hx2; clear hx2 c2 c2a)
      have hx3 := heap_setCell_same w2 wr.heap.size 2 _ _ (.slice a2 nl k2) HX2.out
      have hb12 := below_seq hb1 hb2
      have hb3 : Below wr.heap.size wr (w2.setCell ⟨wr.heap.size, 2, none⟩ (.slice a2 nl k2)) := hb12.setCell (Nat.le_refl _) _
      have ho3 : (w2.setCell ⟨wr.heap.size, 2, none⟩ (.slice a2 nl k2)).ownsRow w.heap.size 62 2 (.slice a2 nl k2) nl (labCells r.labs) := owns_base (own_kept ho2 (grown_set _ _ _ _) (fun k hk => by cases hk; have := HS1.out; omega)) (by have := HS1.out; omega)
      have e0 := cell_own hx3 (j := 0) rfl
      have e1 := cell_own hx3 (j := 1) rfl
      have e2 := cell_own hx3 (j := 2) rfl
      have e3 := cell_own hx3 (j := 3) rfl
      have hown3 := hown.keptB hb3
      clear d0 d1 d2 d3 df hx3 g0 g1 g2 g3 hown HX HX2 ho2 hb2
      generalize w2.setCell ⟨wr.heap.size, 2, none⟩ (.slice a2 nl k2) = w3 at *
      have hs3 := hb3.size
      go_wp2_with (at_builtin; refine wpList_append_src rfl _ _ _ _ rfl w.heap.size ER _ Y.length (recsCells Y) rfl (hown3.own.alloc _) _ 1 (recCells (r, .slice a2 nl k2)) rfl (by exact src_last (cs := #[.int .i64 r.time, .int .u64 (r.seq : Int), .slice a2 nl k2, .string r.line]) Tryz.underlying28 1 1 4 rfl rfl (by simp [Value.oneCell'])) (by unfold maxLen; omega) (by omega) (by simp; omega) ?_; intro v4 w4 hown4 hgr4 _ _)
      go_roundw
      case rel =>
        have hol := ho3.alloc (.cells #[.int .i64 r.time, .int .u64 (r.seq : Int), .slice a2 nl k2, .string r.line] 47)
        have hol2 : (w3.alloc (.cells #[.int .i64 r.time, .int .u64 (r.seq : Int), .slice a2 nl k2, .string r.line] 47)).ownsRow w.heap.size 62 2 (.slice a2 nl k2) r.labs.length (labCells r.labs) := by rw [HNL.out]; exact hol
        refine ⟨k + 1, Y ++ [(r, .slice a2 nl k2)], by omega, by go_num, by rw [List.map_append, HYY.out, HFT.out]; rfl, ?_, (hbr.trans ((belowA hb3).mono hszr)).grown hgr4 (by simp; omega) (fun j hj => (hown3.own.lt j hj).1)⟩
        refine (hown3.keptB (belowA (Below.refl _ _))).more (z := (r, .slice a2 nl k2)) ⟨hol2, LRow_own hol2, HAT.out.2⟩ hgr4 hown4
      case measure => simp [intOf]; omega
    · obtain rfl : k = Z.length := by omega
      rw [List.take_length] at hY
      go_wp2
      go_ret
      exact ⟨_, _, rfl, hY, hown, hbr⟩
end Go.Proofs.YtaimldndooijdaaGreatDoor
/-
  The law's spoil: it writes into the blocks of its own rows alone.
-/
namespace Go.Proofs.YtaimldndooijdaaGreatDoor
open Go.RowKit
theorem own_set {w : World} {B size n : Nat} {e : TypeId} {v : Value} {xs : List Value} (h : w.ownsRow B e size v n xs) (g j : Nat) (u : Value) : ∃ ys, (w.setCell ⟨g, j, none⟩ u).ownsRow B e size v n ys := by
  by_cases hv : v.ownBlock = some g
  · rcases h.2 with ⟨rfl, _⟩ | ⟨b, cap, cur, rfl, _⟩
    · cases hv
    · obtain rfl : b = g := Option.some.inj hv
      exact ⟨_, (h.stored j u).1⟩
  · exact ⟨xs, own_stay h fun k hk => Go.heap_setCell_other w ⟨g, j, none⟩ k u (fun e => hv (by rw [hk]; exact congrArg some e))⟩
/-- Rows that are being spoilt. -/
structure Sp (w0 : World) (B C : Nat) (v : Value) (Z : List RecL) (w : World) : Prop where
  below : Below B w0 w
  keep : ∀ k, (k < B ∨ C ≤ k) → w.heap[k]? = w0.heap[k]?
  row : ∃ xs, w.ownsRow B 47 4 v Z.length xs ∧ ∀ i (h : i < Z.length), xs[i * 4 + 2]? = some Z[i].2
  labs : ∀ z ∈ Z, (∃ ys, w.ownsRow B 62 2 z.2 z.1.labs.length ys) ∧ z.1.labs.length ≤ 1048576
  top : ∀ k, v.ownBlock = some k → k < C
  topl : ∀ z ∈ Z, ∀ k, z.2.ownBlock = some k → k < C
theorem recsCells_lab (Z : List RecL) (i : Nat) (h : i < Z.length) : (recsCells Z)[i * 4 + 2]? = some Z[i].2 := by
  have e : Z = Z.take i ++ Z[i] :: Z.drop (i + 1) := by rw [← List.drop_eq_getElem_cons h, List.take_append_drop]
  have e2 : (recsCells (Z.take i)).length = i * 4 := by rw [recsCells_len, List.length_take, Nat.min_eq_left (by omega)]
  have e3 : recsCells Z = recsCells (Z.take i) ++ (recCells Z[i] ++ recsCells (Z.drop (i + 1))) := by
    have : recsCells (Z.take i ++ Z[i] :: Z.drop (i + 1)) = recsCells (Z.take i) ++ (recCells Z[i] ++ recsCells (Z.drop (i + 1))) := by rw [recsCells_append]; rfl
    rw [← this, ← e]
  rw [e3, List.getElem?_append_right (by omega), e2, show i * 4 + 2 - i * 4 = 2 by omega]
  rfl
theorem Sp.start {w : World} {B C : Nat} {v : Value} {Z : List RecL} (h : ROwn w B v Z) (h1 : ∀ k, v.ownBlock = some k → k < C) (h2 : ∀ z ∈ Z, ∀ k, z.2.ownBlock = some k → k < C) : Sp w B C v Z w :=
  ⟨Below.refl _ _, fun _ _ => rfl, ⟨_, h.own, fun i hi => recsCells_lab Z i hi⟩, fun z hz => ⟨⟨_, (h.labs z hz).1⟩, (h.labs z hz).2.2.2.1⟩, h1, h2⟩
theorem Sp.line {w0 w : World} {B C : Nat} {v : Value} {Z : List RecL} (h : Sp w0 B C v Z w) {g c i : Nat} (hv : v = .slice (some ⟨g, 0, none⟩) Z.length c) (u : Value) : Sp w0 B C v Z (w.setCell ⟨g, i * 4 + 3, none⟩ u) := by
  subst hv
  obtain ⟨xs, hx, h2⟩ := h.row
  have hg := hx.lt g rfl
  have ht := h.top g rfl
  refine ⟨h.below.setCell hg.1 _, fun k hk => ?_, ⟨_, (hx.stored _ u).1, fun k hk => ?_⟩, fun z hz => ?_, h.top, h.topl⟩
  · rw [Go.heap_setCell_other w ⟨g, i * 4 + 3, none⟩ k u (fun e => by have e : k = g := e; omega)]
    exact h.keep k hk
  · rw [List.getElem?_set_ne (by omega)]
    exact h2 k hk
  · obtain ⟨⟨ys, hy⟩, hs⟩ := h.labs z hz
    exact ⟨own_set hy _ _ u, hs⟩
theorem Sp.lab {w0 w : World} {B C : Nat} {v : Value} {Z : List RecL} (h : Sp w0 B C v Z w) {z : RecL} (hz : z ∈ Z) {g n c : Nat} (hv : z.2 = .slice (some ⟨g, 0, none⟩) n c) (j : Nat) (u : Value) : Sp w0 B C v Z (w.setCell ⟨g, j, none⟩ u) := by
  obtain ⟨xs, hx, h2⟩ := h.row
  obtain ⟨⟨ys, hy⟩, hs⟩ := h.labs z hz
  have hb : z.2.ownBlock = some g := by rw [hv]; rfl
  have hg := hy.lt g hb
  have ht := h.topl z hz g hb
  refine ⟨h.below.setCell hg.1 _, fun k hk => ?_, ⟨xs, own_stay hx fun k hk => ?_, h2⟩, fun y hy => ?_, h.top, h.topl⟩
  · rw [Go.heap_setCell_other w ⟨g, j, none⟩ k u (fun e => by have e : k = g := e; omega)]
    exact h.keep k hk
  · refine Go.heap_setCell_other w ⟨g, j, none⟩ k u (fun e => ?_)
    have e : k = g := e
    subst e
    exact own_apart hy hx (by decide) hb hk
  · obtain ⟨⟨ys, hy⟩, hs⟩ := h.labs y hy
    exact ⟨own_set hy _ _ u, hs⟩
set_option maxRecDepth 100000 in
set_option maxHeartbeats 4000000 in
theorem law_spoil (v : Value) (Z : List RecL) (B C : Nat) (w : World) (h : ROwn w B v Z) (hZ : Z.length ≤ 2000000) (h1 : ∀ k, v.ownBlock = some k → k < C) (h2 : ∀ z ∈ Z, ∀ k, z.2.ownBlock = some k → k < C) :
    Calls Tryz.prog 11 #[v] w fun e w' => e = .returned (.tuple #[]) ∧ Below B w w' ∧ ∀ k, (k < B ∨ C ≤ k) → w'.heap[k]? = w.heap[k]? := by
  have hS0 := Sp.start h h1 h2
  obtain ⟨a, c, rfl⟩ := owns_slice h.own
  clear h h1 h2
  have HS0 := Lib.hid hS0
  clear hS0
  go_enter Tryz.func11, Tryz.ntmps11
  go_wp2
  go_loopw [2] (fun i wr => ∃ k : Nat, k ≤ Z.length ∧ i = .int .i64 k ∧ Sp w B C (.slice a Z.length c) Z wr) (fun i _ => Z.length - (intOf i).toNat)
  case atStart => exact ⟨0, by omega, rfl, HS0.out⟩
  case round =>
    obtain ⟨i, hi, rfl, hS⟩ := hrel
    by_cases hil : i < Z.length
    · obtain ⟨g, rfl⟩ : ∃ g, a = some ⟨g, 0, none⟩ := by
        obtain ⟨xs, hx, _⟩ := hS.row
        rcases hx.2 with ⟨_, h0⟩ | ⟨gg, cap, cur, e, _⟩
        · omega
        · exact ⟨gg, (Value.slice.inj e).1⟩
      have hm := List.getElem_mem hil
      obtain ⟨⟨ys0, hy0⟩, hsm⟩ := hS.labs _ hm
      obtain ⟨la, lc, hlv⟩ := owns_slice hy0
      have hcell : ∀ W, Sp w B C (.slice (some ⟨g, 0, none⟩) Z.length c) Z W → W.cell? ⟨g, i * 4 + 2, none⟩ = some (.slice la Z[i].1.labs.length lc) := fun W hW => by
        obtain ⟨xs, hx, h2⟩ := hW.row
        rw [hx.cellAt (i * 4 + 2) (by omega), h2 i hil, hlv]
      have hlab : ∀ W, Sp w B C (.slice (some ⟨g, 0, none⟩) Z.length c) Z W → ∃ ys, W.ownsRow B 62 2 (.slice la Z[i].1.labs.length lc) Z[i].1.labs.length ys := fun W hW => by
        obtain ⟨⟨ys, hy⟩, _⟩ := hW.labs _ hm
        rw [hlv] at hy
        exact ⟨ys, hy⟩
      have hset : ∀ W, Sp w B C (.slice (some ⟨g, 0, none⟩) Z.length c) Z W → ∀ g2, la = some ⟨g2, 0, none⟩ → ∀ j u, Sp w B C (.slice (some ⟨g, 0, none⟩) Z.length c) Z (W.setCell ⟨g2, j, none⟩ u) := fun W hW g2 e j u => hW.lab hm (by rw [hlv, e]) j u
      have hfz : ∀ W, Sp w B C (.slice (some ⟨g, 0, none⟩) Z.length c) Z W → W.frozen? ⟨g, i * 4 + 3, none⟩ = false := fun W hW => by
        obtain ⟨xs, hx, _⟩ := hW.row
        exact hx.frozenAt _
      have hfc : ∀ W, Sp w B C (.slice (some ⟨g, 0, none⟩) Z.length c) Z W → ∃ u, W.cell? ⟨g, i * 4 + 3, none⟩ = some u := fun W hW => by
        obtain ⟨xs, hx, _⟩ := hW.row
        refine ⟨_, (hx.cellAt (i * 4 + 3) (by omega)).trans (List.getElem?_eq_getElem (by have := hx.1; omega))⟩
      clear hy0 hlv hm
      generalize Z[i].1.labs.length = nl at *
      have HCELL := Lib.hid hcell
      have HLAB := Lib.hid hlab
      have HSET := Lib.hid hset
      have HFZ := Lib.hid hfz
      have HFC := Lib.hid hfc
      clear hcell hlab hset hfz hfc ys0
      obtain ⟨wo, hwo⟩ : ∃ wo : World, wo = wr := ⟨_, rfl⟩
      subst hwo
      go_wp2_with fail
      go_loopw [3] (fun j wr => ∃ k : Nat, k ≤ nl ∧ j = .int .i64 k ∧ Sp w B C (.slice (some ⟨g, 0, none⟩) Z.length c) Z wr) (fun j _ => nl - (intOf j).toNat)
      case atStart => exact ⟨0, by omega, rfl, hS⟩
      case round =>
        obtain ⟨k, hk, rfl, hR⟩ := hrel
        have q2 := HCELL.out wr hR
        by_cases hkl : k < nl
        · obtain ⟨ys, hy⟩ := HLAB.out wr hR
          obtain ⟨g2, rfl⟩ : ∃ g, la = some ⟨g, 0, none⟩ := by
            rcases hy.2 with ⟨_, h0⟩ | ⟨gg, cap, cur, e, _⟩
            · omega
            · exact ⟨gg, (Value.slice.inj e).1⟩
          have hf := hy.frozenAt (k * 2 + 1)
          obtain ⟨u0, hc⟩ : ∃ u, wr.cell? ⟨g2, k * 2 + 1, none⟩ = some u := ⟨_, (hy.cellAt (k * 2 + 1) (by omega)).trans (List.getElem?_eq_getElem (by have := hy.1; omega))⟩
          have hR2 := HSET.out wr hR g2 rfl (k * 2 + 1) (.string ⟨#[115, 112, 111, 105, 108, 116]⟩)
          clear hy
          go_wp2_with fail
          go_roundw
          case rel => exact ⟨k + 1, by omega, by go_num, hR2⟩
          case measure => simp [intOf]; omega
        · obtain rfl : k = nl := by omega
          have hf := HFZ.out wr hR
          obtain ⟨u, hc⟩ := HFC.out wr hR
          have hR2 := hR.line (i := i) rfl (.string ⟨#[115, 112, 111, 105, 108, 116]⟩)
          go_wp2_with fail
          go_roundw
          case rel => exact ⟨i + 1, by omega, by go_num, hR2⟩
          case measure => simp [intOf]; omega
    · obtain rfl : i = Z.length := by omega
      go_wp2
      first | (go_end0; exact ⟨rfl, hS.below, hS.keep⟩) | (refine bodyPost_ret (results_none rfl _ _ _) rfl ?_; exact ⟨rfl, hS.below, hS.keep⟩)
end Go.Proofs.YtaimldndooijdaaGreatDoor
/-
  The reference's Sort: a rising permutation; the rows share their labels with what came in.
-/
namespace Go.Proofs.YtaimldndooijdaaGreatDoor
open Go.RowKit
theorem ins_sorted {Y : List RecL} {z : RecL} {k : Nat} (hk : k ≤ Y.length) (hY : Sorted (Y.map Prod.fst)) (h1 : ∀ j (h : j < Y.length), k ≤ j → 0 < cmpRec Y[j].1 z.1) (h2 : ∀ j (h : j < Y.length), j + 1 = k → cmpRec Y[j].1 z.1 ≤ 0) :
    Sorted ((Y.take k ++ z :: Y.drop k).map Prod.fst) := by
  have hY' : Y.Pairwise fun a b => cmpRec a.1 b.1 ≤ 0 := List.pairwise_map.1 hY
  have hp := List.pairwise_iff_getElem.1 hY'
  refine List.pairwise_map.2 (List.pairwise_append.2 ⟨hY'.sublist (List.take_sublist _ _), List.pairwise_cons.2 ⟨fun b hb => ?_, hY'.sublist (List.drop_sublist _ _)⟩, fun a ha b hb => ?_⟩)
  · obtain ⟨j, hj, rfl⟩ := List.getElem_of_mem hb
    rw [List.length_drop] at hj
    rw [List.getElem_drop]
    have := h1 (k + j) (by omega) (by omega)
    rcases cmpRec_total z.1 Y[k + j].1 with h | h
    · exact h
    · omega
  · obtain ⟨i, hi, rfl⟩ := List.getElem_of_mem ha
    rw [List.length_take] at hi
    rw [List.getElem_take]
    rcases List.mem_cons.1 hb with rfl | hb
    · have h3 := h2 (k - 1) (by omega) (by omega)
      by_cases hik : i = k - 1
      · subst hik
        exact h3
      · exact cmpRec_trans (hp i (k - 1) (by omega) (by omega) (by omega)) h3
    · obtain ⟨j, hj, rfl⟩ := List.getElem_of_mem hb
      rw [List.length_drop] at hj
      rw [List.getElem_drop]
      exact hp i (k + j) (by omega) (by omega) (by omega)
theorem ins_perm (Y M : List RecL) (z : RecL) (k : Nat) (h : Y.Perm M) : (Y.take k ++ z :: Y.drop k).Perm (M ++ [z]) := by
  refine (List.perm_middle (l₁ := Y.take k)).trans ?_
  rw [List.take_append_drop]
  exact (h.cons z).trans (List.perm_append_singleton z M).symm
set_option maxRecDepth 100000 in
set_option maxHeartbeats 8000000 in
theorem rrec_Sort (v : Value) (Z : List RecL) (w : World) (h : RRow w v Z) (hZ : Z.length ≤ 2000000) :
    Calls Tryz.prog 30 #[v] w fun e w' => ∃ v' Z', e = .returned v' ∧ Z'.Perm Z ∧ Sorted (Z'.map Prod.fst) ∧ w'.ownsRow w.heap.size 47 4 v' Z'.length (recsCells Z') ∧ Below w.heap.size w w' := by
  have H := Lib.hid h
  obtain ⟨al, cl, rfl, hlc, hlc2⟩ := h.shape
  unfold maxLen at hlc2
  clear h
  go_enter Tryz.func30, Tryz.ntmps30
  go_wp2
  go_loopw [3, 4] (fun o i wr => ∃ k : Nat, ∃ Y : List RecL, k ≤ Z.length ∧ i = .int .i64 k ∧ Y.Perm (Z.take k) ∧ Sorted (Y.map Prod.fst) ∧ wr.ownsRow w.heap.size 47 4 o Y.length (recsCells Y) ∧ Below w.heap.size w wr) (fun _ i _ => Z.length - (intOf i).toNat)
  case atStart => exact ⟨0, [], by omega, rfl, List.Perm.refl _, List.Pairwise.nil, World.ownsRow_nil _ _ _ _, Below.refl _ _⟩
  case round =>
    obtain ⟨k, Y, hk, rfl, hpm, hso, hown, hbr⟩ := hrel
    by_cases hlt : k < Z.length
    · have hYl : Y.length = k := by
        have := hpm.length_eq
        rw [List.length_take] at this
        omega
      have hYle : Y.length ≤ 2000000 := by omega
      have hti : Z.take (k + 1) = Z.take k ++ [Z[k]] := List.take_succ_eq_append_getElem hlt
      have hYat : ∀ y ∈ Y, RecAt w y.2 y.1 := fun y hy => H.out.2 y (List.mem_of_mem_take (hpm.mem_iff.1 hy))
      have hzat := H.out.2 _ (List.getElem_mem hlt)
      have hzc := fun W (hW : Below w.heap.size w W) => RRow.at (H.out.below hW) hlt
      obtain ⟨⟨r, lv⟩, hzz⟩ : ∃ z, Z[k] = z := ⟨_, rfl⟩
      rw [hzz] at hti hzat hzc
      simp only at hzat hzc
      obtain ⟨la, lc, rfl, -, -⟩ := hzat.1.shape
      obtain ⟨bz, off, e0, -, -⟩ := hzc w (Below.refl _ _)
      obtain rfl : al = some ⟨bz, off, none⟩ := by simpa using e0
      have hzc2 : ∀ W, Below w.heap.size w W → W.cell? ⟨bz, off + k * 4, none⟩ = some (.int .i64 r.time) ∧ W.cell? ⟨bz, off + k * 4 + 1, none⟩ = some (.int .u64 (r.seq : Int)) ∧ W.cell? ⟨bz, off + k * 4 + 2, none⟩ = some (.slice la r.labs.length lc) ∧ W.cell? ⟨bz, off + k * 4 + 3, none⟩ = some (.string r.line) := fun W hW => by
        obtain ⟨b', o', e', -, c0, c1, c2, c3⟩ := hzc W hW
        cases e'
        exact ⟨c0, c1, c2, c3⟩
      have HZC := Lib.hid hzc2
      have HPM := Lib.hid hpm
      have HSO := Lib.hid hso
      have HTI := Lib.hid hti
      have HYL := Lib.hid hYl
      have hykl : k ≤ Y.length := by omega
      have hlky : Y.length ≤ k := by omega
      have hrow : ∀ W, Below wr.heap.size wr W → W.ownsRow w.heap.size 47 4 u3 Y.length (recsCells Y) ∧ ∀ y ∈ Y, RecAt W y.2 y.1 := fun W hW => ⟨owns_below hown hW, fun y hy => (hYat y hy).below (below_seq hbr hW)⟩
      have HROW := Lib.hid hrow
      have hcase : (∃ g cy, u3 = .slice (some ⟨g, 0, none⟩) Y.length cy ∧ Y.length ≤ cy ∧ cy ≤ maxLen) ∨ (u3 = .slice none 0 0 ∧ Y = []) := by
        rcases hown.2 with ⟨e, h0⟩ | ⟨g, cap, cur, e, _, _, h1, h2, _⟩
        · exact .inr ⟨e, List.eq_nil_of_length_eq_zero h0⟩
        · exact .inl ⟨g, cap, e, h1, h2⟩
      have hsw := hbr.size
      clear hzc hzc2 hpm hso hti hYl hrow hzz hYat hzat hown
      generalize hnl : r.labs.length = nl at *
      clear hnl
      obtain ⟨wo, hwo⟩ : ∃ wo : World, wo = wr := ⟨_, rfl⟩
      subst hwo
      rcases hcase with ⟨g, cy, rfl, hcy, hcm⟩ | ⟨rfl, hYn⟩
      case' inl =>
        unfold maxLen at hcm
        have hout : ∀ W, Below wo.heap.size wo W → ∀ j (hj : j < Y.length), ∃ ly lk, W.cell? ⟨g, j * 4, none⟩ = some (.int .i64 Y[j].1.time) ∧ W.cell? ⟨g, j * 4 + 1, none⟩ = some (.int .u64 (Y[j].1.seq : Int)) ∧ W.cell? ⟨g, j * 4 + 2, none⟩ = some (.slice ly Y[j].1.labs.length lk) ∧ W.cell? ⟨g, j * 4 + 3, none⟩ = some (.string Y[j].1.line) := fun W hW j hj => by
          obtain ⟨b7, o7, e7, -, c0, c1, c2, c3⟩ := RRow.at (show RRow W (.slice (some ⟨g, 0, none⟩) Y.length cy) Y from ⟨argRow_owns (HROW.out W hW).1, (HROW.out W hW).2⟩) hj
          cases e7
          obtain ⟨ly, lk, e, -, -⟩ := ((HROW.out W hW).2 _ (List.getElem_mem hj)).1.shape
          rw [Nat.zero_add] at c0 c1 c2 c3
          rw [e] at c2
          exact ⟨ly, lk, c0, c1, c2, c3⟩
        have HOUT := Lib.hid hout
        clear hout
        go_wp2_with fail
        go_loopw [5] (fun a wr => ∃ p : Nat, p ≤ Y.length ∧ a = .int .i64 p ∧ (∀ j (h : j < Y.length), p ≤ j → 0 < cmpRec Y[j].1 r) ∧ Below wo.heap.size wo wr) (fun a _ => (intOf a).toNat)
        case atStart => exact ⟨Y.length, Nat.le_refl _, rfl, fun j h1 h2 => by omega, Below.refl _ _⟩
        case' round =>
          obtain ⟨p, hp, rfl, hgt, hbi⟩ := hrel
          have HGT := Lib.hid hgt
          clear hgt
          by_cases hp0 : 0 < p
          case' pos =>
            obtain ⟨q, hpq⟩ : ∃ q, p = q + 1 := ⟨p - 1, by omega⟩
            have hql : q < Y.length := by omega
            obtain ⟨ly, lk, c0, c1, c2, c3⟩ := HOUT.out wr hbi q hql
            obtain ⟨d0, d1, d2, d3⟩ := HZC.out wr (below_seq hbr hbi)
            have cC := Lib.hid (fun W => rrec_Compare Y[q].1 r (.slice ly Y[q].1.labs.length lk) (.slice la nl lc) W)
            unfold recV at cC
            obtain ⟨CC, hCC⟩ : ∃ CC, cmpRec Y[q].1 r = CC := ⟨_, rfl⟩
            rw [hCC] at cC
            have ij : (0 : Int) < (p : Int) := by omega
            have ij2 : (q : Int) < (Y.length : Int) := by omega
            have ij3 : (0 : Int) ≤ (q : Int) := by omega
            have ij4 : (k : Int) < (Z.length : Int) := by omega
            have ij5 : (0 : Int) ≤ (k : Int) := by omega
            have hd1 : decide ((0 : Int) < (p : Int)) = true := decide_eq_true ij
            have hwj : IntKind.i64.wrap ((p : Int) - 1) = (q : Int) := by rw [IntWalk.i64_in _ (by omega)]; omega
            have f0 := cell_regrown c0
            have f1 := cell_regrown c1
            have f2 := cell_regrown c2
            have f3 := cell_regrown c3
            have h0 := cell_regrown d0
            have h1 := cell_regrown d1
            have h2 := cell_regrown d2
            have h3 := cell_regrown d3
            have dC : ∀ d os, Calls Tryz.prog 49 _ (Sort.grow (redrawn wr d) os) fun e w'' => e = .returned (.int .i64 CC) ∧ ∃ p : Regrown, w'' = Sort.grow (redrawn wr p.d) p.os := fun d os => Calls.regrown_of (cC.out _)
            have hst : 0 < CC → ∀ j (h : j < Y.length), q ≤ j → 0 < cmpRec Y[j].1 r := fun hc j h hj => by
              by_cases e : q = j
              · subst e
                rw [hCC]
                exact hc
              · exact HGT.out j h (by omega)
            have hen : ¬ 0 < CC → ∀ j (h : j < Y.length), j + 1 = p → cmpRec Y[j].1 r ≤ 0 := fun hc j h hj => by
              obtain rfl : j = q := by omega
              rw [hCC]
              omega
            have hqp : q < p := by omega
            have HST := Lib.hid hst
            have HEN := Lib.hid hen
            clear cC c0 c1 c2 c3 d0 d1 d2 d3 hst hen hCC hpq
            generalize Y[q].1.time = ta at *
            generalize (Y[q].1.seq : Int) = sa at *
            generalize Y[q].1.line = na at *
            generalize Y[q].1.labs.length = qa at *
            by_cases hc : 0 < CC
            case pos =>
              have hd2 : decide (0 < CC) = true := decide_eq_true hc
              have hgt2 := HST.out hc
              have HGT2 := Lib.hid hgt2
              clear hgt2
              go_upto_region 6 with fail
              refine wp_region_quiet_below (by kernel_rfl) (by kernel_rfl) ?_
              repeat (go_big_quiet_step (first | with_reducible exact dC _ _))
              refine wpQuiet_nil ?_
              intro _ hw'
              obtain ⟨⟨dq, osq⟩, hw''⟩ := hw'
              subst hw''
              have hb15 := below_regrown wr dq osq
              generalize Sort.grow (redrawn wr dq) osq = w15 at *
              have hbo := below_seq hbi hb15
              clear hd1 hd2
              go_wp2_with fail
              go_roundw
              case rel => exact ⟨q, by omega, by go_num, HGT2.out, hbo⟩
              case measure => simp [intOf]; omega
            case' neg =>
              have hd2 : decide (0 < CC) = false := decide_eq_false hc
              have hex := HEN.out hc
              have HEX := Lib.hid hex
              clear hex
              go_upto_region 6 with fail
              refine wp_region_quiet_below (by kernel_rfl) (by kernel_rfl) ?_
              repeat (go_big_quiet_step (first | with_reducible exact dC _ _))
              refine wpQuiet_nil ?_
              intro _ hw'
              obtain ⟨⟨dq, osq⟩, hw''⟩ := hw'
              subst hw''
              have hb15 := below_regrown wr dq osq
              generalize Sort.grow (redrawn wr dq) osq = w15 at *
              have hbo := below_seq hbi hb15
          case' neg =>
            have ij : ¬ (0 : Int) < (p : Int) := by omega
            have hd1 : decide ((0 : Int) < (p : Int)) = false := decide_eq_false ij
            have HEX := Lib.hid (fun j (h : j < Y.length) (hj : j + 1 = p) => (by omega : cmpRec Y[j].1 r ≤ 0))
            go_upto_region 6 with fail
            refine wp_region_quiet_below (by kernel_rfl) (by kernel_rfl) ?_
            repeat (go_big_quiet_step (fail))
            refine wpQuiet_nil ?_
            intro _ hw'
            obtain ⟨⟨dq, osq⟩, hw''⟩ := hw'
            subst hw''
            have hb15 := below_regrown wr dq osq
            generalize Sort.grow (redrawn wr dq) osq = w15 at *
            have hbo := below_seq hbi hb15
          all_goals
            clear hd1
            have HPY := Lib.hid (show p ≤ Y.length from hp)
            have HPP := Lib.hid (⟨HGT.out, HEX.out⟩ : (∀ j (h : j < Y.length), p ≤ j → 0 < cmpRec Y[j].1 r) ∧ ∀ j (h : j < Y.length), j + 1 = p → cmpRec Y[j].1 r ≤ 0)
            clear HGT HEX
            have HSA := Lib.hid (fun W (hW : Below wo.heap.size wo W) => mine_take (HROW.out W hW).1 hp (HROW.out W hW).2 rfl)
            by_cases hpc : p < cy
            case' pos =>
              have HSB := Lib.hid (fun W (hW : Below wo.heap.size wo W) => mine_drop (a' := some ⟨g, p * 4, none⟩) (c' := cy - p) (m := Y.length - p) (HROW.out W hW).1 hp (HROW.out W hW).2 rfl rfl ⟨by omega, by omega⟩ (fun b off e _ => by cases e; rw [Nat.zero_add]))
              have i2 : (p : Int) ≤ (cy : Int) := by omega
              have i3 : ¬ cy = 0 := by omega
              have i5 : ¬ cy - p = 0 := by omega
            case' neg =>
              obtain rfl : p = cy := by omega
              have HSB := Lib.hid (fun W (hW : Below wo.heap.size wo W) => mine_drop (a' := some ⟨g, 0, none⟩) (c' := 0) (m := 0) (HROW.out W hW).1 hp (HROW.out W hW).2 rfl (by omega) ⟨by omega, by omega⟩ (fun b off e h => by omega))
              have i2 : (p : Int) ≤ (p : Int) := by omega
              have i5 : p - p = 0 := by omega
      case' inr =>
        have hY0 : Y.length = 0 := by rw [hYn]; rfl
        go_wp2_with fail
        go_loopw [5] (fun a wr => a = .int .i64 0 ∧ Below wo.heap.size wo wr) (fun _ _ => 0)
        case atStart => exact ⟨rfl, Below.refl _ _⟩
        case' round =>
          obtain ⟨rfl, hbi⟩ := hrel
          obtain ⟨p, hp⟩ : ∃ p : Nat, p = 0 := ⟨0, rfl⟩
          have HPP := Lib.hid (⟨fun j h _ => by omega, fun j h _ => by omega⟩ : (∀ j (h : j < Y.length), p ≤ j → 0 < cmpRec Y[j].1 r) ∧ ∀ j (h : j < Y.length), j + 1 = p → cmpRec Y[j].1 r ≤ 0)
          have HSA := Lib.hid (fun W (_ : Below wo.heap.size wo W) => (by rw [hYn, List.take_nil]; exact rrow_nil W : RRow W (.slice none 0 0) (Y.take p)))
          have HSB := Lib.hid (fun W (_ : Below wo.heap.size wo W) => (by rw [hYn, List.drop_nil]; exact rrow_nil W : RRow W (.slice none 0 0) (Y.drop p)))
          have HPY := Lib.hid (show p ≤ Y.length by omega)
          clear hp hY0 hYn
          go_upto_region 6 with fail
          refine wp_region_quiet_below (by kernel_rfl) (by kernel_rfl) ?_
          repeat (go_big_quiet_step (fail))
          refine wpQuiet_nil ?_
          intro _ hw'
          obtain ⟨⟨dq, osq⟩, hw''⟩ := hw'
          subst hw''
          have hb15 := below_regrown wr dq osq
          generalize Sort.grow (redrawn wr dq) osq = w15 at *
          have hbo := below_seq hbi hb15
      all_goals
        have hMl : (Y.take p).length ≤ Y.length := by rw [List.length_take]; omega
        have hNl : (Y.drop p).length ≤ Y.length := by rw [List.length_drop]; omega
        obtain ⟨M, hM⟩ : ∃ M, Y.take p = M := ⟨_, rfl⟩
        obtain ⟨N, hN⟩ : ∃ N, Y.drop p = N := ⟨_, rfl⟩
        rw [hM] at HSA hMl
        rw [hN] at HSB hNl
        have HMN := Lib.hid (⟨hM, hN⟩ : Y.take p = M ∧ Y.drop p = N)
        clear hM hN
        go_upto_region 10 with (at_builtin; refine wpList_append_src rfl _ _ _ _ rfl w15.heap.size ER _ 0 [] rfl (World.ownsRow_nil _ _ _ _) _ M.length (recsCells M) rfl (by exact src_arg Tryz.underlying28 (HSA.out w15 hbo).1 (recsCells_oneC (HSA.out w15 hbo).one)) (by unfold maxLen; omega) (by omega) (Nat.le_refl _) ?_; intro v1 w1 hown1 hgr1 _ _)
        have hb1 := (Below.refl w15.heap.size w15).grown hgr1 (Nat.le_refl _) (fun j hj => ((World.ownsRow_nil w15 w15.heap.size 47 4).lt j hj).1)
        have hown1' : w1.ownsRow w15.heap.size 47 4 v1 M.length (recsCells M) := by simpa using hown1
        obtain ⟨a1, c1, rfl⟩ := owns_slice hown1'
        clear hown1 hgr1
        have hs1 := hb1.size
        have hbo1 := below_seq hbo hb1
        obtain ⟨d0, d1, d2, d3⟩ := HZC.out w1 (below_seq hbr hbo1)
        have ij4 : (k : Int) < (Z.length : Int) := by omega
        have ij5 : (0 : Int) ≤ (k : Int) := by omega
        go_upto_region 11 with (at_builtin; refine wpList_append_src rfl _ _ _ _ rfl w15.heap.size ER _ M.length (recsCells M) rfl (hown1'.alloc _) _ 1 (recCells (r, .slice la nl lc)) rfl (by exact src_last (cs := #[.int .i64 r.time, .int .u64 (r.seq : Int), .slice la nl lc, .string r.line]) Tryz.underlying28 1 1 4 rfl rfl (by simp [Value.oneCell'])) (by unfold maxLen; omega) (by omega) (by simp; omega) ?_; intro v2 w2 hown2 hgr2 _ _)
        have hb2 := (belowA (o := .cells #[.int .i64 r.time, .int .u64 (r.seq : Int), .slice la nl lc, .string r.line] 47) hb1).grown hgr2 (by simp; omega) (fun j hj => (hown1'.lt j hj).1)
        have hbo2 := below_seq hbo hb2
        have hs2 := hb2.size
        obtain ⟨a2, c2, rfl⟩ := owns_slice hown2
        clear d0 d1 d2 d3 hown1' hgr2
        go_wp2_with (at_builtin; refine wpList_append_src rfl _ _ _ _ rfl w15.heap.size ER _ (M.length + 1) (recsCells M ++ recCells (r, .slice la nl lc)) rfl hown2 _ N.length (recsCells N) rfl (by exact src_arg Tryz.underlying28 (HSB.out w2 hbo2).1 (recsCells_oneC (HSB.out w2 hbo2).one)) (by unfold maxLen; omega) (by omega) hs2 ?_; intro v3 w3 hown3 hgr3 _ _)
        have hb3 := hb2.grown hgr3 hs2 (fun j hj => (hown2.lt j hj).1)
        have hbo3 := below_seq hbo hb3
        have hs15 := hbo.size
        go_roundw
        case rel =>
          obtain ⟨rfl, rfl⟩ := HMN.out
          have he : recsCells (Y.take p ++ (r, .slice la nl lc) :: Y.drop p) = recsCells (Y.take p) ++ recCells (r, .slice la nl lc) ++ recsCells (Y.drop p) := by
            rw [recsCells_append, List.append_assoc]
            rfl
          have hle : (Y.take p ++ (r, .slice la nl lc) :: Y.drop p).length = (Y.take p).length + 1 + (Y.drop p).length := by
            rw [List.length_append, List.length_cons]
            omega
          refine ⟨k + 1, Y.take p ++ (r, .slice la nl lc) :: Y.drop p, by omega, by go_num, ?_, ins_sorted HPY.out HSO.out HPP.out.1 HPP.out.2, ?_, below_seq hbr hbo3⟩
          · rw [HTI.out]
            exact ins_perm _ _ _ _ HPM.out
          · rw [he, hle]
            exact owns_base hown3 (by omega)
        case measure => simp [intOf]; omega
    · obtain rfl : k = Z.length := by omega
      rw [List.take_length] at hpm
      go_wp2
      go_ret
      exact ⟨_, _, rfl, hpm, hso, hown, hbr⟩
end Go.Proofs.YtaimldndooijdaaGreatDoor
/-
  The reference's head: New, All, Take; on nil too.
-/
namespace Go.Proofs.YtaimldndooijdaaGreatDoor
open Go.RowKit
def refObj (lv : Value) (last : Int) (so : Bool) : Obj := .cells #[lv, .int .u64 last, .bool so] 55 (0, 0)
set_option maxRecDepth 100000 in
set_option maxHeartbeats 1000000 in
theorem ref13_New (w : World) : Calls Tryz.prog 6 #[] w fun e w' => e = .returned (.pointer (some ⟨w.heap.size, 0, none⟩)) ∧ w' = w.alloc (refObj (.slice none 0 0) 0 false) := by
  go_enter Tryz.func6, Tryz.ntmps6
  go_wp2
  go_ret
  exact ⟨rfl, rfl⟩
set_option maxRecDepth 100000 in
set_option maxHeartbeats 1000000 in
theorem ref13_All0 (w : World) : Calls Tryz.prog 13 #[.pointer none] w fun e w' => e = .returned (.slice none 0 0) ∧ w = w' := by
  go_enter Tryz.func13, Tryz.ntmps13
  go_wp2
  go_ret
  exact ⟨rfl, rfl⟩
set_option maxRecDepth 100000 in
set_option maxHeartbeats 1000000 in
theorem ref13_All (p : Nat) (lv : Value) (last : Int) (so : Bool) (Z : List RecL) (w : World) (hp : w.heap[p]? = some (refObj lv last so)) (h : RRow w lv Z) (hZ : Z.length ≤ 65536) :
    Calls Tryz.prog 13 #[.pointer (some ⟨p, 0, none⟩)] w fun e w' => ∃ v' Z', e = .returned v' ∧ Z'.Perm Z ∧ Sorted (Z'.map Prod.fst) ∧ w'.ownsRow w.heap.size 47 4 v' Z'.length (recsCells Z') ∧ Below w.heap.size w w' := by
  have CC := Lib.hid (rrec_Sort lv Z w h (by omega))
  obtain ⟨a, c, rfl, -, -⟩ := h.shape
  have c0 := cell_own hp (j := 0) rfl
  clear hp h
  go_enter Tryz.func13, Tryz.ntmps13
  go_wp2_with (go_at_call 30; refine CC.out.mono ?_; rintro e w1 ⟨v1, Z1, rfl, h1, h2, h3, h4⟩)
  go_ret
  exact ⟨_, _, rfl, h1, h2, h3, h4⟩
set_option maxRecDepth 100000 in
set_option maxHeartbeats 1000000 in
theorem ref13_Take0 (w : World) : Calls Tryz.prog 18 #[.pointer none] w fun e w' => e = .returned (.slice none 0 0) ∧ w = w' := by
  go_enter Tryz.func18, Tryz.ntmps18
  go_wp2_with (go_at_call 13; refine (ref13_All0 _).mono ?_; rintro e w1 ⟨rfl, rfl⟩)
  go_ret
  exact ⟨rfl, rfl⟩
set_option maxRecDepth 100000 in
set_option maxHeartbeats 1000000 in
theorem ref13_Take (p : Nat) (lv : Value) (last : Int) (so : Bool) (Z : List RecL) (w : World) (hp : w.heap[p]? = some (refObj lv last so)) (h : RRow w lv Z) (hZ : Z.length ≤ 65536) :
    Calls Tryz.prog 18 #[.pointer (some ⟨p, 0, none⟩)] w fun e w' => ∃ v' Z', e = .returned v' ∧ Z'.Perm Z ∧ Sorted (Z'.map Prod.fst) ∧ w'.ownsRow w.heap.size 47 4 v' Z'.length (recsCells Z') ∧
      w'.heap[p]? = some (refObj (.slice none 0 0) last so) ∧ w.grownBy w' (some p) := by
  have CC := Lib.hid (ref13_All p lv last so Z w hp h hZ)
  have hlt : p < w.heap.size := (Array.getElem?_eq_some_iff.1 hp).1
  have HP := Lib.hid hp
  clear hp h
  go_enter Tryz.func18, Tryz.ntmps18
  go_upto_region 2 with (go_at_call 13; refine CC.out.mono ?_; rintro e w1 ⟨v1, Z1, rfl, h1, h2, h3, h4⟩)
  have hp1 := (h4.block p hlt).trans HP.out
  have c0 := cell_own hp1 (j := 0) rfl
  have cf := Lib.frozen_of_heap hp1 0
  have hp2 := heap_setCell_same w1 p 0 _ _ (.slice none 0 0) hp1
  have hg : w.grownBy (w1.setCell ⟨p, 0, none⟩ (.slice none 0 0)) (some p) := grown_trans (grown_of_below h4 (some p)) (grown_set w1 p 0 _)
  have h3' := own_kept h3 (grown_set w1 p 0 (.slice none 0 0)) (fun k hk => by cases hk; exact hlt)
  have HP2 := Lib.hid hp2
  have HG := Lib.hid hg
  have H3 := Lib.hid h3'
  obtain ⟨a1, c1, rfl⟩ := owns_slice h3
  clear hp1 hp2 hg h3 h3' h4 CC
  go_wp2
  go_ret
  exact ⟨_, _, rfl, h1, h2, H3.out, HP2.out, HG.out⟩
end Go.Proofs.YtaimldndooijdaaGreatDoor
