/-
  A head as a state; its calls.
-/
import Derived.Test.YtaimldndooijdaaDoorHeadTri
namespace Go.Proofs.YtaimldndooijdaaDoor
open Go.RowKit Go.WideMaps Go.Maps Go.WideElems Go.MapKept
open Go.ChangeShapes (lits)
def MapIs (w : World) (mv : Value) (A : List Rec) : Prop := (mv = .map none ∧ A = []) ∨ ∃ b n, mv = .map (some b) ∧ n ≤ 1000000000 ∧ Idx w b n (fun t => plI t A)
/-- A head: the number that came last, did any come, its records. -/
def HeadAt (w : World) (p last : Nat) (so : Bool) (A : List Rec) : Prop :=
  ∃ av mv ZA, w.heap[p]? = some (headObj av mv last so) ∧ ROwn w 0 av ZA ∧ ZA.map Prod.fst = A ∧ A.length ≤ 65536 ∧ (∀ r ∈ A, chkRec r = 0) ∧ MapIs w mv A
theorem own_stay {w w' : World} {B size n : Nat} {e : TypeId} {v : Value} {xs : List Value} (h : w.ownsRow B e size v n xs) (hk : ∀ k, v.ownBlock = some k → w'.heap[k]? = w.heap[k]?) : w'.ownsRow B e size v n xs := by
  refine ⟨h.1, ?_⟩
  rcases h.2 with ⟨rfl, h2⟩ | ⟨g, cap, cur, rfl, hB, hg, h2⟩
  · exact .inl ⟨rfl, h2⟩
  · exact .inr ⟨g, cap, cur, rfl, hB, by rw [hk g rfl]; exact hg, h2⟩
theorem ROwn.stay {w w' : World} {B : Nat} {v : Value} {Z : List RecL} (h : ROwn w B v Z) (h1 : ∀ k, v.ownBlock = some k → w'.heap[k]? = w.heap[k]?) (h2 : ∀ z ∈ Z, ∀ k, z.2.ownBlock = some k → w'.heap[k]? = w.heap[k]?) : ROwn w' B v Z :=
  ⟨own_stay h.own h1, fun z hz => by
    have h3 := own_stay (h.labs z hz).1 (h2 z hz)
    exact ⟨h3, LRow_own h3, (h.labs z hz).2.2⟩⟩
theorem HeadAt.below {w w' : World} {p last : Nat} {so : Bool} {A : List Rec} (h : HeadAt w p last so A) (hb : Below w.heap.size w w') : HeadAt w' p last so A := by
  obtain ⟨av, mv, ZA, hp, hA, h1, h2, h3, hm⟩ := h
  refine ⟨av, mv, ZA, (hb.block p (Array.getElem?_eq_some_iff.1 hp).1).trans hp, hA.keptB hb, h1, h2, h3, ?_⟩
  rcases hm with hm | ⟨b, n, e, hn, hi⟩
  · exact .inl hm
  · exact .inr ⟨b, n, e, hn, hi.blocks fun j _ hj => hb.block j hj⟩
theorem HeadAt.lt {w : World} {p last : Nat} {so : Bool} {A : List Rec} (h : HeadAt w p last so A) : p < w.heap.size := by
  obtain ⟨av, mv, ZA, hp, _⟩ := h
  exact (Array.getElem?_eq_some_iff.1 hp).1
theorem hd_New (w : World) : Calls Tryd.prog 11 #[] w fun e w' => e = .returned (.pointer (some ⟨w.heap.size, 0, none⟩)) ∧ HeadAt w' w.heap.size 0 false [] ∧ Below w.heap.size w w' :=
  (head_New w).mono fun e w' ⟨he, hw⟩ => by
    subst hw
    exact ⟨he, ⟨_, _, [], heap_alloc_new _ _, ROwn.nil _ _, rfl, by decide, fun r hr => (by cases hr), .inl ⟨rfl, rfl⟩⟩, belowA (Below.refl _ _)⟩
theorem hd_Len {w : World} {p last : Nat} {so : Bool} {A : List Rec} (h : HeadAt w p last so A) :
    Calls Tryd.prog 18 #[.pointer (some ⟨p, 0, none⟩)] w fun e w' => e = .returned (.int .i64 A.length) ∧ w = w' := by
  obtain ⟨av, mv, ZA, hp, hA, h1, h2, h3, hm⟩ := h
  have := head_Len p av mv last so ZA w hp hA
  rw [← h1, List.length_map]
  exact this
theorem hd_All {w : World} {p last : Nat} {so : Bool} {A : List Rec} (h : HeadAt w p last so A) :
    Calls Tryd.prog 13 #[.pointer (some ⟨p, 0, none⟩)] w fun e w' => ∃ v' Z', e = .returned v' ∧ Z'.map Prod.fst = A ∧ ROwn w' w.heap.size v' Z' ∧ Below w.heap.size w w' := by
  obtain ⟨av, mv, ZA, hp, hA, h1, h2, h3, hm⟩ := h
  have := head_All p av mv last so ZA w hp hA (by rw [← List.length_map (f := Prod.fst), h1]; exact h2)
  rw [h1] at this
  exact this
theorem hd_Take {w : World} {p last : Nat} {so : Bool} {A : List Rec} (h : HeadAt w p last so A) :
    Calls Tryd.prog 19 #[.pointer (some ⟨p, 0, none⟩)] w fun e w' => ∃ v' Z', e = .returned v' ∧ Z'.map Prod.fst = A ∧ ROwn w' w.heap.size v' Z' ∧ HeadAt w' p last so [] ∧ w.grownBy w' (some p) := by
  obtain ⟨av, mv, ZA, hp, hA, h1, h2, h3, hm⟩ := h
  have := head_Take p av mv last so ZA w hp hA (by rw [← List.length_map (f := Prod.fst), h1]; exact h2)
  rw [h1] at this
  refine this.mono fun e w' ⟨v', Z', he, hz, ho, hh, hg⟩ => ⟨v', Z', he, hz, ho, ⟨_, _, [], hh, ROwn.nil _ _, rfl, by decide, fun r hr => (by cases hr), .inl ⟨rfl, rfl⟩⟩, hg⟩
set_option maxRecDepth 100000 in
theorem head_Find0 (p : Nat) (av : Value) (last : Int) (so : Bool) (t : Value) (w : World) (hp : w.heap[p]? = some (headObj av (.map none) last so)) (hk : ∃ l, keyOf Tryd.prog 9 t = some l) :
    Calls Tryd.prog 16 #[.pointer (some ⟨p, 0, none⟩), t] w fun e w' => ∃ v', e = .returned v' ∧ w'.ownsRow w.heap.size 22 1 v' 0 (u64s []) ∧ Below w.heap.size w w' := by
  have CC := Lib.hid (u64_clone (.slice none 0 0) [] w (argRow_owns (World.ownsRow_nil w 0 22 1)) (by decide))
  have c1 := cell_own hp (j := 1) rfl
  have hl : (Instr.lookup 57 (.map none) t false).run Tryd.prog w = .ok (.slice none 0 0) w := by simpa using Maps.look_nil (w := w) false keyS Tryd.underlying57 (zeroU w) hk.choose_spec
  clear hp hk
  go_enter Tryd.func16, Tryd.ntmps16
  go_wp2_with (go_at_call 33; refine CC.out.mono ?_; rintro e w1 ⟨v1, rfl, ho1, hb1⟩)
  go_ret
  exact ⟨_, rfl, ho1, hb1⟩
theorem hd_Find {w : World} {p last : Nat} {so : Bool} {A : List Rec} (h : HeadAt w p last so A) (t : Txt) (ht : t.length ≤ 1000000000000) :
    Calls Tryd.prog 16 #[.pointer (some ⟨p, 0, none⟩), strV t] w fun e w' => ∃ v', e = .returned v' ∧ w'.ownsRow w.heap.size 22 1 v' (plI t A).length (u64s (plI t A)) ∧ Below w.heap.size w w' := by
  obtain ⟨av, mv, ZA, hp, hA, h1, h2, h3, ⟨rfl, rfl⟩ | ⟨b, n, rfl, hn, hi⟩⟩ := h
  · exact head_Find0 p av last so (strV t) w hp ⟨_, keyT t (by unfold maxLen; omega)⟩
  · exact head_Find p b n _ av last so t w hp hi hn ht
/-- What stays of an Add that was answered OK: what came since w and ahead of w2 may turn. -/
def Spared (w w2 w3 w4 : World) : Prop := (∀ k, (k < w.heap.size ∨ w2.heap.size ≤ k) → k < w3.heap.size → w4.heap[k]? = w3.heap[k]?)
theorem hd_Add {w w2 : World} {p last : Nat} {so : Bool} {A : List Rec} (h : HeadAt w p last so A) (hb : Below w.heap.size w w2) (hT : Tabs w2) (v : Value) (Z : List RecL) (hv : ∀ W, w2.grownBy W (some p) → RRow W v Z) (hZ : Z.length ≤ 2000000) :
    Calls Tryd.prog 12 #[.pointer (some ⟨p, 0, none⟩), v] w2 fun e w3 => e = .returned (.int .i64 (addE so last A.length (Z.map Prod.fst))) ∧
      (addE so last A.length (Z.map Prod.fst) ≠ 0 → Below w2.heap.size w2 w3) ∧
      (addE so last A.length (Z.map Prod.fst) = 0 → w2.grownBy w3 (some p) ∧ ∃ A', A'.Perm (A ++ Z.map Prod.fst) ∧ Sorted A' ∧ ∀ w4, Spared w w2 w3 w4 → HeadAt w4 p (lastS last (Z.map Prod.fst)) (so || decide (0 < Z.length)) A') := by
  obtain ⟨av, mv, ZA, hp, hA, h1, h2, h3, hm⟩ := h
  have hplt : p < w.heap.size := (Array.getElem?_eq_some_iff.1 hp).1
  have hlA : ZA.length = A.length := by rw [← h1, List.length_map]
  have hc := head_Add p last so av mv v ZA Z w2 hT ((hb.block p hplt).trans hp) (hA.keptB hb) (by omega) (fun z hz => h3 _ (by rw [← h1]; exact List.mem_map_of_mem hz)) hv hZ
  rw [hlA] at hc
  refine hc.mono fun e w3 ⟨he, hbad, hok⟩ => ⟨he, hbad, fun h0 => ?_⟩
  obtain ⟨av', b, n, ZB, hn, hh3, ho3, hpm, hso, hix, hbb, hg3, hfa, hfl⟩ := hok h0
  obtain ⟨e1, e2, e3⟩ := addE_zero.1 h0
  have hs := hb.size
  rw [h1] at hpm
  refine ⟨hg3, ZB.map Prod.fst, hpm, hso, fun w4 hsp => ⟨av', .map (some b), ZB, ?_, ?_, rfl, ?_, ?_, .inr ⟨b, n, rfl, hn, hix.blocks fun j hj hl => hsp j (.inr (by omega)) hl⟩⟩⟩
  · rw [hsp p (.inl hplt) (Array.getElem?_eq_some_iff.1 hh3).1]
    exact hh3
  · refine ho3.stay (fun k hk => hsp k (.inr (hfa k hk)) (ho3.own.lt k hk).2) fun z hz k hk => hsp k ?_ ((ho3.labs z hz).1.lt k hk).2
    rcases hfl z hz with ⟨y, hy, e⟩ | hnew
    · rw [e] at hk
      exact .inl ((hA.labs y hy).1.lt k hk).2
    · exact .inr (hnew k hk)
  · have := hpm.length_eq
    rw [List.length_append] at this
    rw [this]
    exact e3
  · intro r hr
    rcases List.mem_append.1 (hpm.mem_iff.1 hr) with hr | hr
    · exact h3 r hr
    · exact putBad_zero e1 r hr
end Go.Proofs.YtaimldndooijdaaDoor
/-
  Plain: records numbered anew; what HeadTakes asks.
-/
namespace Go.Proofs.YtaimldndooijdaaDoor
open Go.RowKit
def reseq : Nat → List RecL → List RecL
  | _, [] => []
  | i, z :: t => ({ z.1 with seq := i }, z.2) :: reseq (i + 1) t
theorem reseq_len : ∀ (i : Nat) (Z : List RecL), (reseq i Z).length = Z.length
  | _, [] => rfl
  | i, _ :: t => by simp [reseq, reseq_len (i + 1) t]
theorem reseq_snoc : ∀ (i : Nat) (Z : List RecL) (z : RecL), reseq i (Z ++ [z]) = reseq i Z ++ [({ z.1 with seq := i + Z.length }, z.2)]
  | i, [], z => rfl
  | i, y :: t, z => by
    simp only [List.cons_append, reseq, reseq_snoc (i + 1) t z, List.length_cons]
    rw [show i + 1 + t.length = i + (t.length + 1) by omega]
theorem reseq_seq : ∀ (i : Nat) (Z : List RecL) (k : Nat) (h : k < (reseq i Z).length), (reseq i Z)[k].1.seq = i + k
  | i, z :: t, 0, _ => rfl
  | i, z :: t, k + 1, h => by
    have := reseq_seq (i + 1) t k (by simpa [reseq] using h)
    simp only [reseq, List.getElem_cons_succ, this]
    omega
theorem reseq_mem : ∀ (i : Nat) (Z : List RecL), ∀ y ∈ reseq i Z, ∃ z ∈ Z, y.2 = z.2 ∧ y.1.labs = z.1.labs ∧ y.1.line = z.1.line
  | i, z :: t, y, h => by
    unfold reseq at h
    rcases List.mem_cons.1 h with rfl | h
    · exact ⟨z, by simp, rfl, rfl, rfl⟩
    · obtain ⟨x, hx, h1⟩ := reseq_mem (i + 1) t y h
      exact ⟨x, by simp [hx], h1⟩
theorem reseq_seqs (i : Nat) (Z : List RecL) : Seqs ((reseq i Z).map Prod.fst) := by
  unfold Seqs
  rw [List.pairwise_iff_getElem]
  intro a b ha hb hab
  rw [List.getElem_map, List.getElem_map, reseq_seq, reseq_seq]
  omega
theorem RecAt.same {W : World} {v : Value} {a b : Rec} (h : RecAt W v a) (h1 : b.labs = a.labs) (h2 : b.line = a.line) : RecAt W v b := by
  unfold RecAt at *
  rw [h1, h2]
  exact h
theorem lastS_take {L : List Rec} {K : Nat} (h0 : 0 < K) (hK : K ≤ L.length) {last : Nat} : lastS last (L.take K) = (L[K - 1]'(by omega)).seq := by
  obtain ⟨k, rfl⟩ : ∃ k, K = k + 1 := ⟨K - 1, by omega⟩
  rw [List.take_succ_eq_append_getElem (by omega), lastS_snoc]
  rfl
theorem putBad_snoc {l : List Rec} {r : Rec} (h : chkRec r ≠ 0) : putBad (l ++ [r]) ≠ 0 := by
  induction l with
  | nil =>
    show putBad [r] ≠ 0
    unfold putBad
    rw [if_pos h]
    exact h
  | cons x l ih =>
    rw [List.cons_append]
    unfold putBad
    split
    · assumption
    · exact ih
theorem add_again {last n : Nat} {r : Rec} (hc : chkRec r = 0) (hs : r.seq ≤ last) : addE true last n [r] = 6 := by
  unfold addE
  have h1 : putBad [r] = 0 := by
    unfold putBad
    rw [if_neg (by simp [hc])]
    rfl
  rw [if_neg (by simp [h1]), if_pos]
  unfold rises
  have : decide (last < r.seq) = false := decide_eq_false (by omega)
  rw [this]
  rfl
theorem add_bad {so : Bool} {last n : Nat} {l : List Rec} (h : putBad l ≠ 0) : addE so last n l ≠ 0 := fun e => h (addE_zero.1 e).1
def badRec : Rec := ⟨0, 1099511627776, [], ⟨#[255]⟩⟩
theorem badRec_bad : chkRec badRec ≠ 0 := by decide +kernel
end Go.Proofs.YtaimldndooijdaaDoor
/-
  The walk of HeadTakes.
-/
namespace Go.Proofs.YtaimldndooijdaaDoor
open Go.RowKit
/-- The first K of mine; the others. -/
theorem mine_take {W : World} {B K : Nat} {v : Value} {Y : List RecL} (h : W.ownsRow B 25 4 v Y.length (recsCells Y)) (hK : K ≤ Y.length) (hl : ∀ y ∈ Y, RecAt W y.2 y.1) {a : Option Addr} {c : Nat} (hv : v = .slice a Y.length c) : RRow W (.slice a K c) (Y.take K) := by
  subst hv
  refine ⟨?_, fun y hy => hl y (List.mem_of_mem_take hy)⟩
  have := argRow_take (argRow_owns h) hK
  rw [List.length_take, Nat.min_eq_left hK]
  have e : recsCells (Y.take K) = (recsCells Y).take (K * 4) := by
    have e2 := recsCells_append (Y.take K) (Y.drop K)
    rw [List.take_append_drop] at e2
    rw [e2, List.take_left' (by rw [recsCells_len, List.length_take, Nat.min_eq_left hK])]
  rw [e]
  exact this
theorem mine_drop {W : World} {B K : Nat} {v : Value} {Y : List RecL} (h : W.ownsRow B 25 4 v Y.length (recsCells Y)) (hK : K ≤ Y.length) (hl : ∀ y ∈ Y, RecAt W y.2 y.1) {a a' : Option Addr} {c c' m : Nat} (hv : v = .slice a Y.length c) (hm : m = Y.length - K)
    (hc : Y.length - K ≤ c' ∧ c' ≤ c) (ha : ∀ b off, a = some ⟨b, off, none⟩ → K < Y.length → a' = some ⟨b, off + K * 4, none⟩) : RRow W (.slice a' m c') (Y.drop K) := by
  subst hv
  subst hm
  refine ⟨?_, fun y hy => hl y (List.mem_of_mem_drop hy)⟩
  have := argRow_drop (argRow_owns h) hK hc ha
  rw [List.length_drop]
  have e : recsCells (Y.drop K) = (recsCells Y).drop (K * 4) := by
    have e2 := recsCells_append (Y.take K) (Y.drop K)
    rw [List.take_append_drop] at e2
    rw [e2, List.drop_left' (by rw [recsCells_len, List.length_take, Nat.min_eq_left hK])]
  rw [e]
  exact this
set_option maxRecDepth 100000 in
set_option maxHeartbeats 8000000 in
theorem takes_some (v : Value) (Z : List RecL) (c : Int) (w : World) (hT : Tabs w) (h : RRow w v Z) (hZ : Z.length ≤ 1048576) (hZ0 : Z ≠ []) :
    Calls Tryd.prog 5 #[v, .int .i64 c] w fun e w' => e = .returned (.bool true) ∧ Below w.heap.size w w' := by
  have CA := Lib.hid (law13_awake w hT)
  have H := Lib.hid h
  have HT := Lib.hid hT
  obtain ⟨al, cl, rfl, hlc, hlc2⟩ := h.shape
  unfold maxLen at hlc2
  clear h hT
  go_enter Tryd.func5, Tryd.ntmps5
  go_upto_region 3 with (go_at_call 6; refine CA.out.mono ?_; rintro e w1 ⟨rfl, hb1⟩)
  clear CA
  go_wp2_with fail
  go_loopw [5, 6] (fun m i wr => ∃ k : Nat, k ≤ Z.length ∧ i = .int .i64 k ∧ wr.ownsRow w1.heap.size 25 4 m (reseq 1 (Z.take k)).length (recsCells (reseq 1 (Z.take k))) ∧ Below w1.heap.size w1 wr) (fun _ i _ => Z.length - (intOf i).toNat)
  case atStart => exact ⟨0, by omega, rfl, World.ownsRow_nil _ _ _ _, Below.refl _ _⟩
  case round =>
    obtain ⟨k, hk, rfl, hown, hbr⟩ := hrel
    have hszr := hbr.size
    have hbw := below_seq hb1 hbr
    by_cases hlz : k < Z.length
    · obtain ⟨bz, off, rfl, hbz, g0, g1, g2, g3⟩ := (H.out.below hbw).at hlz
      have hat := (H.out.2 _ (List.getElem_mem hlz)).1
      have hft : reseq 1 (Z.take (k + 1)) = reseq 1 (Z.take k) ++ [({ Z[k].1 with seq := k + 1 }, Z[k].2)] := by
        rw [List.take_succ_eq_append_getElem hlz, reseq_snoc, List.length_take, Nat.min_eq_left (by omega), Nat.add_comm 1 k]
      have hrl := reseq_len 1 (Z.take k)
      rw [List.length_take, Nat.min_eq_left (by omega)] at hrl
      obtain ⟨⟨r, lv⟩, hzz⟩ : ∃ z, Z[k] = z := ⟨_, rfl⟩
      rw [hzz] at hat hft g0 g1 g2 g3
      simp only at hat hft g0 g1 g2 g3
      obtain ⟨la, lc, rfl, -, -⟩ := hat.shape
      generalize reseq 1 (Z.take k) = Y at *
      have hYl : Y.length ≤ 1048576 := by omega
      have HFT := Lib.hid hft
      clear hft hrl hzz hat
      generalize r.labs.length = nl at *
      have hcv : IntKind.u64.wrap (k : Int) = (k : Int) := by rw [IntKind.wrap_u64]; omega
      go_upto_region 8 with fail
      have hx := heap_alloc_new wr (.cells #[.int .i64 r.time, .int .u64 (r.seq : Int), .slice la nl lc, .string r.line] 25)
      have hba := belowA (o := .cells #[.int .i64 r.time, .int .u64 (r.seq : Int), .slice la nl lc, .string r.line] 25) hbr
      have hbb := belowA (o := .cells #[.int .i64 r.time, .int .u64 (r.seq : Int), .slice la nl lc, .string r.line] 25) (Below.refl wr.heap.size wr)
      clear g0 g1 g2 g3
      generalize wr.alloc (.cells #[.int .i64 r.time, .int .u64 (r.seq : Int), .slice la nl lc, .string r.line] 25) = wx at *
      have e1 := cell_own hx (j := 1) rfl
      have ef := Lib.frozen_of_heap hx 1
      have hx2 := heap_setCell_same wx wr.heap.size 1 _ _ (.int .u64 ((k : Int) + 1)) hx
      have HX2 := Lib.hid hx2
      have hb3 : Below wr.heap.size wr (wx.setCell ⟨wr.heap.size, 1, none⟩ (.int .u64 ((k : Int) + 1))) := hbb.setCell (Nat.le_refl _) _
      clear hx2 hx
      go_upto_region 9 with fail
      have q0 := cell_own HX2.out (j := 0) rfl
      have q1 := cell_own HX2.out (j := 1) rfl
      have q2 := cell_own HX2.out (j := 2) rfl
      have q3 := cell_own HX2.out (j := 3) rfl
      have hown3 := owns_below hown hb3
      clear hown e1 ef
      generalize wx.setCell ⟨wr.heap.size, 1, none⟩ (.int .u64 ((k : Int) + 1)) = w3 at *
      have hs3 := hb3.size
      go_wp2_with (at_builtin; refine wpList_append_src rfl _ _ _ _ rfl w1.heap.size ER _ Y.length (recsCells Y) rfl (hown3.alloc _) _ 1 [.int .i64 r.time, .int .u64 ((k : Int) + 1), .slice la nl lc, .string r.line] rfl (by exact src_last (cs := #[.int .i64 r.time, .int .u64 ((k : Int) + 1), .slice la nl lc, .string r.line]) Tryd.underlying31 1 1 4 rfl rfl (by simp [Value.oneCell'])) (by unfold maxLen; omega) (by omega) (by simp; omega) ?_; intro v4 w4 hown4 hgr4 _ _)
      go_roundw
      case rel =>
        refine ⟨k + 1, by omega, by go_num, ?_, (belowA ((hbr.trans (hb3.mono hszr)))).grown hgr4 (by simp; omega) (fun j hj => (hown3.lt j hj).1)⟩
        rw [HFT.out, recsCells_append, List.length_append]
        exact hown4
      case measure => simp [intOf]; omega
    · obtain rfl : k = Z.length := by omega
      rw [List.take_length] at hown
      have hYl := reseq_len 1 Z
      have hYs := fun k h => reseq_seq 1 Z k h
      have hYm : ∀ y ∈ reseq 1 Z, ∀ W, Below w.heap.size w W → RecAt W y.2 y.1 := fun y hy W hW => by
        obtain ⟨z, hz, e1, e2, e3⟩ := reseq_mem 1 Z y hy
        rw [e1]
        exact ((H.out.2 z hz).below hW).same e2 e3
      have HYS := Lib.hid hYs
      have HYM := Lib.hid hYm
      have HYL := Lib.hid hYl
      have hYle : (reseq 1 Z).length ≤ 1048576 := by omega
      clear hYs hYm hlz hk hYl
      generalize reseq 1 Z = Y at *
      obtain ⟨K, hK, hKm⟩ := umod c Y.length
      have hrowY := fun W (hW : Below wr.heap.size wr W) => (⟨owns_below hown hW, fun y hy => HYM.out y hy W (below_seq hbw hW)⟩ : W.ownsRow w1.heap.size 25 4 u5 Y.length (recsCells Y) ∧ ∀ y ∈ Y, RecAt W y.2 y.1)
      have hcase : (∃ g cy, u5 = .slice (some ⟨g, 0, none⟩) Y.length cy ∧ Y.length ≤ cy ∧ cy ≤ maxLen) ∨ (u5 = .slice none 0 0 ∧ Y = []) := by
        rcases hown.2 with ⟨e, h0⟩ | ⟨g, cap, cur, e, _, _, h1, h2, _⟩
        · exact .inr ⟨e, List.eq_nil_of_length_eq_zero h0⟩
        · exact .inl ⟨g, cap, e, h1, h2⟩
      have HRY := Lib.hid hrowY
      clear hrowY hown
      rcases hcase with ⟨g, cy, rfl, hcy, hcm⟩ | ⟨rfl, hYnil⟩
      · unfold maxLen at hcm
        have HA := Lib.hid (fun W (hW : Below wr.heap.size wr W) => mine_take (HRY.out W hW).1 hK (HRY.out W hW).2 rfl)
        by_cases hKc : K < cy
        · have HB := Lib.hid (fun W (hW : Below wr.heap.size wr W) => mine_drop (a' := some ⟨g, K * 4, none⟩) (c' := cy - K) (HRY.out W hW).1 hK (HRY.out W hW).2 rfl rfl ⟨by omega, by omega⟩ (fun b off e _ => by cases e; rw [Nat.zero_add]))
          have hLA : (Y.take K).length = K := by rw [List.length_take, Nat.min_eq_left hK]
          have hLB : (Y.drop K).length = Y.length - K := List.length_drop ..
          have hTW := Utf8Tabs_below HT.out hbw
          have i1 : (0 : Int) ≤ (K : Int) := by omega
          have i2 : (K : Int) ≤ (cy : Int) := by omega
          have i3 : ¬ cy = 0 := by omega
          have i4 : ¬ 0 = cy := by omega
          have i5 : ¬ cy - K = 0 := by omega
          have i6 : (K : Int) ≤ (Y.length : Int) := by omega
          go_upto_region 11 with fail
          clear hKm
          go_upto_region 12 with (go_at_call 11; refine (hd_New _).mono ?_; rintro e w2 ⟨rfl, hd2, hb2⟩)
          have hpw : wr.heap.size ≤ wr.heap.size := Nat.le_refl _
          generalize hpp : (⟨wr.heap.size, 0, none⟩ : Addr) = pa at *
          generalize hpe : wr.heap.size = p at hpp hd2
          have HPE := Lib.hid hpe
          subst hpp
          clear hpe hpw
          have hb2w := below_seq hbw hb2
          have hvA := fun W (hW : w2.grownBy W (some p)) => HA.out W (hb2.grown hW hb2.size (fun k hk => by cases hk; exact Nat.le_of_eq HPE.out))
          have cA := hd_Add hd2 (Below.refl _ _) (Utf8Tabs_below HT.out hb2w) _ _ hvA (by rw [hLA]; omega)
          have HLA := Lib.hid hLA
          have HLB := Lib.hid hLB
          clear hLA hLB hvA
          obtain ⟨E1, hE1⟩ : ∃ E, addE false 0 ([] : List Rec).length ((Y.take K).map Prod.fst) = E := ⟨_, rfl⟩
          rw [hE1] at cA
          have CA := Lib.hid cA
          have HE1 := Lib.hid hE1
          clear cA hE1
          go_upto_region 13 with (go_at_call 12; refine CA.out.mono ?_; rintro e w3 ⟨rfl, hbad, hok⟩)
          have HBAD := Lib.hid hbad
          have HOK := Lib.hid hok
          clear hbad hok CA
          have hbp : ∀ a b, Below wr.heap.size wr a → a.grownBy b (some p) → Below wr.heap.size wr b := fun a b ha hg => ha.grown hg ha.size (fun k hk => by cases hk; exact Nat.le_of_eq HPE.out)
          have HBP := Lib.hid hbp
          clear hbp
          by_cases h1 : E1 = 0
          · subst h1
            obtain ⟨hg3, A1, hpm1, hso1, hst1⟩ := HOK.out (by first | trivial | rfl)
            have hd3 := hst1 w3 (fun _ _ _ => rfl)
            have hb3 := HBP.out _ _ hb2 hg3
            obtain ⟨z1, z2, z3⟩ := addE_zero.1 HE1.out
            have hfirst : ∀ (h0 : 0 < K) (hy : 0 < Y.length), chkRec Y[0].1 = 0 ∧ Y[0].1.seq ≤ lastS 0 ((Y.take K).map Prod.fst) := fun h0 hy => by
              have hY0 : Y[0].1 ∈ (Y.take K).map Prod.fst := by
                have h2 : (Y.take K)[0]? = some Y[0] := by rw [List.getElem?_take_of_lt h0, List.getElem?_eq_getElem hy]
                exact List.mem_map_of_mem (List.mem_of_getElem? h2)
              refine ⟨putBad_zero z1 _ hY0, ?_⟩
              exact lastS_le (rises_spec.1 z2).2 _ hY0
            have hlen1 : A1.length = K := by
              have := hpm1.length_eq
              rw [List.length_append, List.length_map, HLA.out] at this
              simpa using this
            have hsoK : 0 < K → (false || decide (0 < (Y.take K).length)) = true := fun h0 => by rw [HLA.out]; simp [h0]
            generalize lastS 0 ((Y.take K).map Prod.fst) = last at *
            generalize (false || decide (0 < (Y.take K).length)) = so at *
            have HFI := Lib.hid hfirst
            have HSO := Lib.hid hsoK
            have HL1 := Lib.hid hlen1
            have hp3 := hd3.lt
            have cAl := Lib.hid (hd_All hd3)
            have cT := fun W (hW : Below w3.heap.size w3 W) => hd_Take (hd3.below hW)
            have CT := Lib.hid cT
            clear cT hd3 hd2 hst1 hg3 hpm1 hso1 hfirst hsoK hlen1 z1 z2 z3 HOK HBAD HE1
            go_upto_region 16 with (go_at_call 13; refine cAl.out.mono ?_; rintro e w4 ⟨v4, Z4, rfl, hZ4, ho4, hb4⟩)
            go_upto_region 17 with (go_at_call 19; refine (CT.out _ hb4).mono ?_; rintro e w5 ⟨v5, Z5, rfl, hZ5, ho5, hd5, hg5⟩)
            have hb4w := below_seq hb3 hb4
            have hb5w := HBP.out _ _ hb4w hg5
            have ho4' := ho4.kept hg5 (fun k hk => by cases hk; exact hp3)
            have hl5 : Z5.length = K := by have := congrArg List.length hZ5; rw [List.length_map, HL1.out] at this; exact this
            have cS := rrec_SameAll v5 v4 Z5 Z4 w5 ho5.row ho4'.row (by omega)
            rw [hZ5, hZ4, decide_eq_true rfl] at cS
            have CS := Lib.hid cS
            obtain ⟨a5, c5, rfl⟩ := owns_slice ho5.own
            obtain ⟨a4, c4, rfl⟩ := owns_slice ho4.own
            have HL5 := Lib.hid hl5
            have cL5 := Lib.hid (fun W (hW : Below w5.heap.size w5 W) => hd_Len (hd5.below hW))
            have cT5 := Lib.hid (fun W (hW : Below w5.heap.size w5 W) => hd_Take (hd5.below hW))
            clear cS hl5 ho4' ho4 ho5 hZ5 hZ4 hg5 CT cAl
            have HD5 := Lib.hid hd5
            have hb55 := Below.refl w5.heap.size w5
            clear hd5
            by_cases hK0 : 0 < K
            case' pos =>
              have hY0 : 0 < Y.length := by omega
              obtain ⟨f1, f2⟩ := HFI.out hK0 hY0
              have hM := fun W (hW : Below wr.heap.size wr W) (j : Nat) (hj : j < 4) => ((by
                have h1 := (HRY.out W hW).1.cellAt (g := g) (0 * 4 + j) (by omega)
                rw [h1, recsCells_get Y 0 hY0 j hj]) : W.cell? ⟨g, 0 * 4 + j, none⟩ = (recCells Y[0])[j]?)
              have hA0 := fun W (hW : Below wr.heap.size wr W) => (HRY.out W hW).2 Y[0] (List.getElem_mem hY0)
              obtain ⟨⟨r0, lv0⟩, hy0⟩ : ∃ z, Y[0] = z := ⟨_, rfl⟩
              rw [hy0] at f1 f2 hM hA0
              simp only at f1 f2 hA0
              obtain ⟨la, lc, rfl, -, -⟩ := (hA0 wr (Below.refl _ _)).1.shape
              have hM0 : ∀ W, Below wr.heap.size wr W → W.cell? ⟨g, 0, none⟩ = some (.int .i64 r0.time) ∧ W.cell? ⟨g, 1, none⟩ = some (.int .u64 (r0.seq : Int)) ∧ W.cell? ⟨g, 2, none⟩ = some (.slice la r0.labs.length lc) ∧ W.cell? ⟨g, 3, none⟩ = some (.string r0.line) :=
                fun W hW => ⟨hM W hW 0 (by decide), hM W hW 1 (by decide), hM W hW 2 (by decide), hM W hW 3 (by decide)⟩
              have HM0 := Lib.hid hM0
              have HA0 := Lib.hid hA0
              have h6 : addE so last ([] : List Rec).length [r0] = 6 := by rw [HSO.out hK0]; exact add_again f1 f2
              have cA6 := fun w7 (h7 : HeadAt w7 p last so []) (hb7 : Below wr.heap.size wr w7) => hd_Add h7 (belowA (o := .cells #[.int .i64 r0.time, .int .u64 (r0.seq : Int), .slice la r0.labs.length lc, .string r0.line] 25) (Below.refl _ _)) (Utf8Tabs_below HT.out (below_seq hbw (belowA hb7))) (.slice (some ⟨w7.heap.size, 0, none⟩) 1 1) [(r0, .slice la r0.labs.length lc)]
                (fun W hW => rrow_block (Z := [(r0, .slice la r0.labs.length lc)]) (cs := #[.int .i64 r0.time, .int .u64 (r0.seq : Int), .slice la r0.labs.length lc, .string r0.line]) (T := 25) (fr := (0, 0)) ((hW.block _ (by simp) (fun e => by have := h7.lt; have := Option.some.inj e; omega)).trans (heap_alloc_new _ _)) rfl (Nat.le_refl _) (by decide) (fun z hz => by
                  rw [List.mem_singleton] at hz
                  subst hz
                  exact HA0.out W (HBP.out _ _ (belowA hb7) hW))) (by simp)
              rw [show ([(r0, Value.slice la r0.labs.length lc)] : List RecL).map Prod.fst = [r0] from rfl] at cA6
              simp only [h6] at cA6
              have CA6 := Lib.hid cA6
              have ik : (0 : Int) < (K : Int) := by omega
              generalize r0.labs.length = nl at *
              clear cA6 hM0 hA0 hM h6 f1 f2 hy0
              go_upto_region 19 with (first
                | (go_at_call 14; refine CS.out.mono ?_; rintro e w6 ⟨rfl, hb6⟩)
                | (go_at_call 18; refine (cL5.out _ hb6).mono ?_; rintro e w7 ⟨rfl, rfl⟩)
                | (go_at_call 19; refine (cT5.out _ hb6).mono ?_; rintro e w7 ⟨v7, Z7, rfl, hZ7, ho7, hd7, hg7⟩; obtain rfl := List.map_eq_nil_iff.1 hZ7; obtain ⟨a7, c7, rfl⟩ := owns_slice ho7.own; have hb7w := HBP.out _ _ (below_seq hb5w hb6) hg7; obtain ⟨m0, m1, m2, m3⟩ := HM0.out w7 hb7w)
                | (go_at_call 12; refine (CA6.out w7 hd7 hb7w).mono ?_; rintro e w8 ⟨rfl, hbad8, -⟩; have hb8 := hbad8 (by decide)))
              have hb78 := below_seq (belowA (o := .cells #[.int .i64 r0.time, .int .u64 (r0.seq : Int), .slice la nl lc, .string r0.line] 25) (Below.refl w7.heap.size w7)) hb8
              have hb8w := below_seq hb7w hb78
              have hd8 := hd7.below hb78
              clear hd7 hb78 hb8 hb7w hg7 ho7 hZ7 hbad8 m0 m1 m2 m3 CA6 HM0 HA0 hb6 hY0
            case' neg =>
              have ik : ¬ (0 : Int) < (K : Int) := by omega
              go_upto_region 19 with (first
                | (go_at_call 14; refine CS.out.mono ?_; rintro e w6 ⟨rfl, hb6⟩)
                | (go_at_call 18; refine (cL5.out _ hb6).mono ?_; rintro e w7 ⟨rfl, rfl⟩)
                | (go_at_call 19; refine (cT5.out _ hb6).mono ?_; rintro e w8 ⟨v7, Z7, rfl, hZ7, ho7, hd8, hg7⟩; obtain rfl := List.map_eq_nil_iff.1 hZ7; obtain ⟨a7, c7, rfl⟩ := owns_slice ho7.own; have hb8w := HBP.out _ _ (below_seq hb5w hb6) hg7))
              clear hg7 ho7 hZ7 hb6
            all_goals
              clear CS cL5 cT5 HD5 HFI HSO ik
              have hp8 := hd8.lt
              have ho9 : (w8.alloc (.cells #[] 25)).ownsRow w8.heap.size 25 4 (.slice (some ⟨w8.heap.size, 0, none⟩) 0 0) 0 [] := World.ownsRow_lit w8 #[] 0 (Nat.le_refl _) (by decide) rfl
              have hb9 := belowA (o := .cells #[] 25) (Below.refl w8.heap.size w8)
              have hMB := HB.out (w8.alloc (.cells #[] 25)) (below_seq hb8w hb9)
              have hsrc := src_arg (P := Tryd.prog) (tx := 31) Tryd.underlying31 hMB.1 (recsCells_oneC hMB.one)
              have hMl : (Y.drop K).length ≤ 1048576 := by rw [HLB.out]; omega
              generalize hmb : Y.drop K = MB at *
              have HMB := Lib.hid hmb
              clear hmb hMB
              go_upto_region 20 with (first
                | (at_builtin; refine wpList_append_src rfl (.tmp 97) _ _ _ rfl w8.heap.size ER _ _ _ rfl ho9 _ MB.length (recsCells MB) rfl (by exact hsrc) (by unfold maxLen; omega) (by omega) (by simp) ?_; intro v9 w9 hown9 hgr9 _ _; have hb89 := hb9.grown hgr9 (by simp) (fun j hj => (ho9.lt j hj).1); have hs9 := hb89.size)
                | (at_builtin; refine wpList_append_src rfl (.tmp 101) _ _ _ rfl w8.heap.size ER _ _ _ rfl (hown9.alloc _) _ 1 [.int .i64 0, .int .u64 1099511627776, .slice none 0 0, .string ⟨#[255]⟩] rfl (by exact src_last (cs := #[.int .i64 0, .int .u64 1099511627776, .slice none 0 0, .string ⟨#[255]⟩]) Tryd.underlying31 1 1 4 rfl rfl (by simp [Value.oneCell'])) (by unfold maxLen; omega) (by omega) (by simp; omega) ?_; intro v10 w10 hown10 hgr10 _ _; have hb810 := (belowA hb89).grown hgr10 (by simp; omega) (fun j hj => (hown9.lt j hj).1)))
              have ho10 : w10.ownsRow w8.heap.size 25 4 v10 (MB ++ [awz badRec]).length (recsCells (MB ++ [awz badRec])) := by
                rw [recsCells_append, List.length_append]
                rw [Nat.zero_add, List.nil_append] at hown10
                exact hown10
              have hb10w := below_seq hb8w hb810
              have hd10 := hd8.below hb810
              have hmem : ∀ W, Below wr.heap.size wr W → ∀ z ∈ MB ++ [awz badRec], RecAt W z.2 z.1 := fun W hW z hz => by
                rcases List.mem_append.1 hz with hz | hz
                · rw [← HMB.out] at hz
                  exact (HRY.out W hW).2 z (List.mem_of_mem_drop hz)
                · rw [List.mem_singleton] at hz
                  subst hz
                  exact recAt_nil W badRec rfl (by decide)
              have cB := hd_Add hd10 (Below.refl _ _) (Utf8Tabs_below HT.out (below_seq hbw hb10w)) v10 (MB ++ [awz badRec]) (fun W hW => ⟨argRow_owns (own_kept ho10 hW (fun k hk => by cases hk; exact hp8)), hmem W (HBP.out _ _ hb10w hW)⟩) (by rw [List.length_append]; simp; omega)
              have hne2 : addE so last ([] : List Rec).length ((MB ++ [awz badRec]).map Prod.fst) ≠ 0 := by
                rw [List.map_append]
                exact add_bad (putBad_snoc badRec_bad)
              obtain ⟨a10, c10, rfl⟩ := owns_slice ho10
              generalize (MB ++ [awz badRec]).length = n10 at *
              generalize addE so last ([] : List Rec).length ((MB ++ [awz badRec]).map Prod.fst) = E2 at *
              have CB := Lib.hid cB
              have HD10 := Lib.hid hd10
              have HNE2 := Lib.hid hne2
              have ne2 : (E2 == 0) = false := by simpa using hne2
              clear cB hmem ho10 hown10 hgr10 hown9 hgr9 hsrc ho9 hd10 hne2 hd8
              go_upto_region 22 with (first
                | (go_at_call 12; refine CB.out.mono ?_; rintro e w11 ⟨rfl, hbad11, -⟩; have hb11 := hbad11 HNE2.out; have hd11 := HD10.out.below hb11)
                | (go_at_call 18; refine (hd_Len hd11).mono ?_; rintro e w12 ⟨rfl, rfl⟩))
              have hb11w := below_seq hb10w hb11
              have cC := hd_Add hd11 (Below.refl _ _) (Utf8Tabs_below HT.out (below_seq hbw hb11w)) _ MB (fun W hW => HB.out W (HBP.out _ _ hb11w hW)) (by omega)
              obtain ⟨E3, hE3⟩ : ∃ E, addE so last ([] : List Rec).length (MB.map Prod.fst) = E := ⟨_, rfl⟩
              rw [hE3] at cC
              have CC := Lib.hid cC
              have HD11 := Lib.hid hd11
              clear cC hE3 hd11 hbad11 CB
              by_cases h3 : E3 = 0
              · subst h3
                have hn0 : ((0 : Int) != 0) = false := rfl
                go_upto_region 23 with (go_at_call 12; refine CC.out.mono ?_; rintro e w13 ⟨rfl, -, hok13⟩)
                obtain ⟨hg13, A3, hpm3, -, hst3⟩ := hok13 (by first | trivial | rfl)
                have hd13 := hst3 w13 (fun _ _ _ => rfl)
                have hb13w := HBP.out _ _ hb11w hg13
                have hl3 : A3.length = Y.length - K := by
                  have := hpm3.length_eq
                  rw [List.length_append, List.length_map, HLB.out] at this
                  simpa using this
                have e1 : ((A3.length : Int) == (Y.length : Int) - (K : Int)) = true := by rw [hl3]; simp; omega
                have e2 : ((Z5.length : Int) + (A3.length : Int) == (Y.length : Int)) = true := by rw [hl3, HL5.out]; simp; omega
                have hA3 : A3.length ≤ 1048576 := by omega
                have hZ5 : Z5.length ≤ 1048576 := by rw [HL5.out]; omega
                have cL13 := Lib.hid (hd_Len hd13)
                have E1H := Lib.hid e1
                clear hok13 hst3 hpm3 hd13 hl3 hg13 CC
                go_wp2_with (go_at_call 18; refine cL13.out.mono ?_; rintro e w14 ⟨rfl, rfl⟩)
                go_ret
                exact ⟨by first | rfl | (simp; done), below_seq hbw hb13w⟩
              · have h3b : (E3 != 0) = true := by simpa using h3
                have h3c : (E3 == 0) = false := by simpa using h3
                have H3 := Lib.hid h3
                clear h3
                go_wp2_with (first
                  | (go_at_call 12; refine CC.out.mono ?_; rintro e w13 ⟨rfl, hbad13, -⟩; have hb13 := hbad13 H3.out; have hd13 := HD11.out.below hb13)
                  | (go_at_call 18; refine (hd_Len hd13).mono ?_; rintro e w14 ⟨rfl, rfl⟩))
                go_ret
                exact ⟨by first | rfl | (simp; done), below_seq hbw (below_seq hb11w hb13)⟩
          · have h1b : (E1 != 0) = true := by simpa using h1
            have hb3 := HBAD.out h1
            have hd3 := hd2.below hb3
            clear h1 HOK HBAD
            have cL := Lib.hid (hd_Len hd3)
            have cAl := Lib.hid (hd_All hd3)
            have cT := fun W (hW : Below w3.heap.size w3 W) => hd_Take (hd3.below hW)
            have CT := Lib.hid cT
            clear cT hd3 hd2
            go_wp2_with (first
              | (go_at_call 18; refine cL.out.mono ?_; rintro e w4 ⟨rfl, rfl⟩)
              | (go_at_call 13; refine cAl.out.mono ?_; rintro e w5 ⟨v5, Z5, rfl, hZ5, ho5, hb5⟩; obtain rfl := List.map_eq_nil_iff.1 hZ5; obtain ⟨a5, c5, rfl⟩ := owns_slice ho5.own)
              | (go_at_call 19; refine (CT.out _ hb5).mono ?_; rintro e w6 ⟨v6, Z6, rfl, hZ6, ho6, hd6, hg6⟩; obtain rfl := List.map_eq_nil_iff.1 hZ6; obtain ⟨a6, c6, rfl⟩ := owns_slice ho6.own))
            go_ret
            exact ⟨by first | rfl | (simp; done), below_seq hbw (HBP.out _ _ (below_seq (below_seq hb2 hb3) hb5) hg6)⟩
        · obtain rfl : K = cy := by omega
          have HB := Lib.hid (fun W (hW : Below wr.heap.size wr W) => mine_drop (a' := some ⟨g, 0, none⟩) (c' := 0) (m := 0) (HRY.out W hW).1 hK (HRY.out W hW).2 rfl (by omega) ⟨by omega, by omega⟩ (fun b off e h => by omega))
          have hLA : (Y.take K).length = K := by rw [List.length_take, Nat.min_eq_left hK]
          have hLB : (Y.drop K).length = Y.length - K := List.length_drop ..
          have hTW := Utf8Tabs_below HT.out hbw
          have i1 : (0 : Int) ≤ (K : Int) := by omega
          have i2 : (K : Int) ≤ (K : Int) := by omega
          have i5 : K - K = 0 := by omega
          have i6 : (K : Int) ≤ (Y.length : Int) := by omega
          go_upto_region 11 with fail
          clear hKm
          go_upto_region 12 with (go_at_call 11; refine (hd_New _).mono ?_; rintro e w2 ⟨rfl, hd2, hb2⟩)
          have hpw : wr.heap.size ≤ wr.heap.size := Nat.le_refl _
          generalize hpp : (⟨wr.heap.size, 0, none⟩ : Addr) = pa at *
          generalize hpe : wr.heap.size = p at hpp hd2
          have HPE := Lib.hid hpe
          subst hpp
          clear hpe hpw
          have hb2w := below_seq hbw hb2
          have hvA := fun W (hW : w2.grownBy W (some p)) => HA.out W (hb2.grown hW hb2.size (fun k hk => by cases hk; exact Nat.le_of_eq HPE.out))
          have cA := hd_Add hd2 (Below.refl _ _) (Utf8Tabs_below HT.out hb2w) _ _ hvA (by rw [hLA]; omega)
          have HLA := Lib.hid hLA
          have HLB := Lib.hid hLB
          clear hLA hLB hvA
          obtain ⟨E1, hE1⟩ : ∃ E, addE false 0 ([] : List Rec).length ((Y.take K).map Prod.fst) = E := ⟨_, rfl⟩
          rw [hE1] at cA
          have CA := Lib.hid cA
          have HE1 := Lib.hid hE1
          clear cA hE1
          go_upto_region 13 with (go_at_call 12; refine CA.out.mono ?_; rintro e w3 ⟨rfl, hbad, hok⟩)
          have HBAD := Lib.hid hbad
          have HOK := Lib.hid hok
          clear hbad hok CA
          have hbp : ∀ a b, Below wr.heap.size wr a → a.grownBy b (some p) → Below wr.heap.size wr b := fun a b ha hg => ha.grown hg ha.size (fun k hk => by cases hk; exact Nat.le_of_eq HPE.out)
          have HBP := Lib.hid hbp
          clear hbp
          by_cases h1 : E1 = 0
          · subst h1
            obtain ⟨hg3, A1, hpm1, hso1, hst1⟩ := HOK.out (by first | trivial | rfl)
            have hd3 := hst1 w3 (fun _ _ _ => rfl)
            have hb3 := HBP.out _ _ hb2 hg3
            obtain ⟨z1, z2, z3⟩ := addE_zero.1 HE1.out
            have hfirst : ∀ (h0 : 0 < K) (hy : 0 < Y.length), chkRec Y[0].1 = 0 ∧ Y[0].1.seq ≤ lastS 0 ((Y.take K).map Prod.fst) := fun h0 hy => by
              have hY0 : Y[0].1 ∈ (Y.take K).map Prod.fst := by
                have h2 : (Y.take K)[0]? = some Y[0] := by rw [List.getElem?_take_of_lt h0, List.getElem?_eq_getElem hy]
                exact List.mem_map_of_mem (List.mem_of_getElem? h2)
              refine ⟨putBad_zero z1 _ hY0, ?_⟩
              exact lastS_le (rises_spec.1 z2).2 _ hY0
            have hlen1 : A1.length = K := by
              have := hpm1.length_eq
              rw [List.length_append, List.length_map, HLA.out] at this
              simpa using this
            have hsoK : 0 < K → (false || decide (0 < (Y.take K).length)) = true := fun h0 => by rw [HLA.out]; simp [h0]
            generalize lastS 0 ((Y.take K).map Prod.fst) = last at *
            generalize (false || decide (0 < (Y.take K).length)) = so at *
            have HFI := Lib.hid hfirst
            have HSO := Lib.hid hsoK
            have HL1 := Lib.hid hlen1
            have hp3 := hd3.lt
            have cAl := Lib.hid (hd_All hd3)
            have cT := fun W (hW : Below w3.heap.size w3 W) => hd_Take (hd3.below hW)
            have CT := Lib.hid cT
            clear cT hd3 hd2 hst1 hg3 hpm1 hso1 hfirst hsoK hlen1 z1 z2 z3 HOK HBAD HE1
            go_upto_region 16 with (go_at_call 13; refine cAl.out.mono ?_; rintro e w4 ⟨v4, Z4, rfl, hZ4, ho4, hb4⟩)
            go_upto_region 17 with (go_at_call 19; refine (CT.out _ hb4).mono ?_; rintro e w5 ⟨v5, Z5, rfl, hZ5, ho5, hd5, hg5⟩)
            have hb4w := below_seq hb3 hb4
            have hb5w := HBP.out _ _ hb4w hg5
            have ho4' := ho4.kept hg5 (fun k hk => by cases hk; exact hp3)
            have hl5 : Z5.length = K := by have := congrArg List.length hZ5; rw [List.length_map, HL1.out] at this; exact this
            have cS := rrec_SameAll v5 v4 Z5 Z4 w5 ho5.row ho4'.row (by omega)
            rw [hZ5, hZ4, decide_eq_true rfl] at cS
            have CS := Lib.hid cS
            obtain ⟨a5, c5, rfl⟩ := owns_slice ho5.own
            obtain ⟨a4, c4, rfl⟩ := owns_slice ho4.own
            have HL5 := Lib.hid hl5
            have cL5 := Lib.hid (fun W (hW : Below w5.heap.size w5 W) => hd_Len (hd5.below hW))
            have cT5 := Lib.hid (fun W (hW : Below w5.heap.size w5 W) => hd_Take (hd5.below hW))
            clear cS hl5 ho4' ho4 ho5 hZ5 hZ4 hg5 CT cAl
            have HD5 := Lib.hid hd5
            have hb55 := Below.refl w5.heap.size w5
            clear hd5
            by_cases hK0 : 0 < K
            case' pos =>
              have hY0 : 0 < Y.length := by omega
              obtain ⟨f1, f2⟩ := HFI.out hK0 hY0
              have hM := fun W (hW : Below wr.heap.size wr W) (j : Nat) (hj : j < 4) => ((by
                have h1 := (HRY.out W hW).1.cellAt (g := g) (0 * 4 + j) (by omega)
                rw [h1, recsCells_get Y 0 hY0 j hj]) : W.cell? ⟨g, 0 * 4 + j, none⟩ = (recCells Y[0])[j]?)
              have hA0 := fun W (hW : Below wr.heap.size wr W) => (HRY.out W hW).2 Y[0] (List.getElem_mem hY0)
              obtain ⟨⟨r0, lv0⟩, hy0⟩ : ∃ z, Y[0] = z := ⟨_, rfl⟩
              rw [hy0] at f1 f2 hM hA0
              simp only at f1 f2 hA0
              obtain ⟨la, lc, rfl, -, -⟩ := (hA0 wr (Below.refl _ _)).1.shape
              have hM0 : ∀ W, Below wr.heap.size wr W → W.cell? ⟨g, 0, none⟩ = some (.int .i64 r0.time) ∧ W.cell? ⟨g, 1, none⟩ = some (.int .u64 (r0.seq : Int)) ∧ W.cell? ⟨g, 2, none⟩ = some (.slice la r0.labs.length lc) ∧ W.cell? ⟨g, 3, none⟩ = some (.string r0.line) :=
                fun W hW => ⟨hM W hW 0 (by decide), hM W hW 1 (by decide), hM W hW 2 (by decide), hM W hW 3 (by decide)⟩
              have HM0 := Lib.hid hM0
              have HA0 := Lib.hid hA0
              have h6 : addE so last ([] : List Rec).length [r0] = 6 := by rw [HSO.out hK0]; exact add_again f1 f2
              have cA6 := fun w7 (h7 : HeadAt w7 p last so []) (hb7 : Below wr.heap.size wr w7) => hd_Add h7 (belowA (o := .cells #[.int .i64 r0.time, .int .u64 (r0.seq : Int), .slice la r0.labs.length lc, .string r0.line] 25) (Below.refl _ _)) (Utf8Tabs_below HT.out (below_seq hbw (belowA hb7))) (.slice (some ⟨w7.heap.size, 0, none⟩) 1 1) [(r0, .slice la r0.labs.length lc)]
                (fun W hW => rrow_block (Z := [(r0, .slice la r0.labs.length lc)]) (cs := #[.int .i64 r0.time, .int .u64 (r0.seq : Int), .slice la r0.labs.length lc, .string r0.line]) (T := 25) (fr := (0, 0)) ((hW.block _ (by simp) (fun e => by have := h7.lt; have := Option.some.inj e; omega)).trans (heap_alloc_new _ _)) rfl (Nat.le_refl _) (by decide) (fun z hz => by
                  rw [List.mem_singleton] at hz
                  subst hz
                  exact HA0.out W (HBP.out _ _ (belowA hb7) hW))) (by simp)
              rw [show ([(r0, Value.slice la r0.labs.length lc)] : List RecL).map Prod.fst = [r0] from rfl] at cA6
              simp only [h6] at cA6
              have CA6 := Lib.hid cA6
              have ik : (0 : Int) < (K : Int) := by omega
              generalize r0.labs.length = nl at *
              clear cA6 hM0 hA0 hM h6 f1 f2 hy0
              go_upto_region 19 with (first
                | (go_at_call 14; refine CS.out.mono ?_; rintro e w6 ⟨rfl, hb6⟩)
                | (go_at_call 18; refine (cL5.out _ hb6).mono ?_; rintro e w7 ⟨rfl, rfl⟩)
                | (go_at_call 19; refine (cT5.out _ hb6).mono ?_; rintro e w7 ⟨v7, Z7, rfl, hZ7, ho7, hd7, hg7⟩; obtain rfl := List.map_eq_nil_iff.1 hZ7; obtain ⟨a7, c7, rfl⟩ := owns_slice ho7.own; have hb7w := HBP.out _ _ (below_seq hb5w hb6) hg7; obtain ⟨m0, m1, m2, m3⟩ := HM0.out w7 hb7w)
                | (go_at_call 12; refine (CA6.out w7 hd7 hb7w).mono ?_; rintro e w8 ⟨rfl, hbad8, -⟩; have hb8 := hbad8 (by decide)))
              have hb78 := below_seq (belowA (o := .cells #[.int .i64 r0.time, .int .u64 (r0.seq : Int), .slice la nl lc, .string r0.line] 25) (Below.refl w7.heap.size w7)) hb8
              have hb8w := below_seq hb7w hb78
              have hd8 := hd7.below hb78
              clear hd7 hb78 hb8 hb7w hg7 ho7 hZ7 hbad8 m0 m1 m2 m3 CA6 HM0 HA0 hb6 hY0
            case' neg =>
              have ik : ¬ (0 : Int) < (K : Int) := by omega
              go_upto_region 19 with (first
                | (go_at_call 14; refine CS.out.mono ?_; rintro e w6 ⟨rfl, hb6⟩)
                | (go_at_call 18; refine (cL5.out _ hb6).mono ?_; rintro e w7 ⟨rfl, rfl⟩)
                | (go_at_call 19; refine (cT5.out _ hb6).mono ?_; rintro e w8 ⟨v7, Z7, rfl, hZ7, ho7, hd8, hg7⟩; obtain rfl := List.map_eq_nil_iff.1 hZ7; obtain ⟨a7, c7, rfl⟩ := owns_slice ho7.own; have hb8w := HBP.out _ _ (below_seq hb5w hb6) hg7))
              clear hg7 ho7 hZ7 hb6
            all_goals
              clear CS cL5 cT5 HD5 HFI HSO ik
              have hp8 := hd8.lt
              have ho9 : (w8.alloc (.cells #[] 25)).ownsRow w8.heap.size 25 4 (.slice (some ⟨w8.heap.size, 0, none⟩) 0 0) 0 [] := World.ownsRow_lit w8 #[] 0 (Nat.le_refl _) (by decide) rfl
              have hb9 := belowA (o := .cells #[] 25) (Below.refl w8.heap.size w8)
              have hMB := HB.out (w8.alloc (.cells #[] 25)) (below_seq hb8w hb9)
              have hsrc := src_arg (P := Tryd.prog) (tx := 31) Tryd.underlying31 hMB.1 (recsCells_oneC hMB.one)
              have hMl : (Y.drop K).length ≤ 1048576 := by rw [HLB.out]; omega
              generalize hmb : Y.drop K = MB at *
              have HMB := Lib.hid hmb
              clear hmb hMB
              go_upto_region 20 with (first
                | (at_builtin; refine wpList_append_src rfl (.tmp 97) _ _ _ rfl w8.heap.size ER _ _ _ rfl ho9 _ MB.length (recsCells MB) rfl (by exact hsrc) (by unfold maxLen; omega) (by omega) (by simp) ?_; intro v9 w9 hown9 hgr9 _ _; have hb89 := hb9.grown hgr9 (by simp) (fun j hj => (ho9.lt j hj).1); have hs9 := hb89.size)
                | (at_builtin; refine wpList_append_src rfl (.tmp 101) _ _ _ rfl w8.heap.size ER _ _ _ rfl (hown9.alloc _) _ 1 [.int .i64 0, .int .u64 1099511627776, .slice none 0 0, .string ⟨#[255]⟩] rfl (by exact src_last (cs := #[.int .i64 0, .int .u64 1099511627776, .slice none 0 0, .string ⟨#[255]⟩]) Tryd.underlying31 1 1 4 rfl rfl (by simp [Value.oneCell'])) (by unfold maxLen; omega) (by omega) (by simp; omega) ?_; intro v10 w10 hown10 hgr10 _ _; have hb810 := (belowA hb89).grown hgr10 (by simp; omega) (fun j hj => (hown9.lt j hj).1)))
              have ho10 : w10.ownsRow w8.heap.size 25 4 v10 (MB ++ [awz badRec]).length (recsCells (MB ++ [awz badRec])) := by
                rw [recsCells_append, List.length_append]
                rw [Nat.zero_add, List.nil_append] at hown10
                exact hown10
              have hb10w := below_seq hb8w hb810
              have hd10 := hd8.below hb810
              have hmem : ∀ W, Below wr.heap.size wr W → ∀ z ∈ MB ++ [awz badRec], RecAt W z.2 z.1 := fun W hW z hz => by
                rcases List.mem_append.1 hz with hz | hz
                · rw [← HMB.out] at hz
                  exact (HRY.out W hW).2 z (List.mem_of_mem_drop hz)
                · rw [List.mem_singleton] at hz
                  subst hz
                  exact recAt_nil W badRec rfl (by decide)
              have cB := hd_Add hd10 (Below.refl _ _) (Utf8Tabs_below HT.out (below_seq hbw hb10w)) v10 (MB ++ [awz badRec]) (fun W hW => ⟨argRow_owns (own_kept ho10 hW (fun k hk => by cases hk; exact hp8)), hmem W (HBP.out _ _ hb10w hW)⟩) (by rw [List.length_append]; simp; omega)
              have hne2 : addE so last ([] : List Rec).length ((MB ++ [awz badRec]).map Prod.fst) ≠ 0 := by
                rw [List.map_append]
                exact add_bad (putBad_snoc badRec_bad)
              obtain ⟨a10, c10, rfl⟩ := owns_slice ho10
              generalize (MB ++ [awz badRec]).length = n10 at *
              generalize addE so last ([] : List Rec).length ((MB ++ [awz badRec]).map Prod.fst) = E2 at *
              have CB := Lib.hid cB
              have HD10 := Lib.hid hd10
              have HNE2 := Lib.hid hne2
              have ne2 : (E2 == 0) = false := by simpa using hne2
              clear cB hmem ho10 hown10 hgr10 hown9 hgr9 hsrc ho9 hd10 hne2 hd8
              go_upto_region 22 with (first
                | (go_at_call 12; refine CB.out.mono ?_; rintro e w11 ⟨rfl, hbad11, -⟩; have hb11 := hbad11 HNE2.out; have hd11 := HD10.out.below hb11)
                | (go_at_call 18; refine (hd_Len hd11).mono ?_; rintro e w12 ⟨rfl, rfl⟩))
              have hb11w := below_seq hb10w hb11
              have cC := hd_Add hd11 (Below.refl _ _) (Utf8Tabs_below HT.out (below_seq hbw hb11w)) _ MB (fun W hW => HB.out W (HBP.out _ _ hb11w hW)) (by omega)
              obtain ⟨E3, hE3⟩ : ∃ E, addE so last ([] : List Rec).length (MB.map Prod.fst) = E := ⟨_, rfl⟩
              rw [hE3] at cC
              have CC := Lib.hid cC
              have HD11 := Lib.hid hd11
              clear cC hE3 hd11 hbad11 CB
              by_cases h3 : E3 = 0
              · subst h3
                have hn0 : ((0 : Int) != 0) = false := rfl
                go_upto_region 23 with (go_at_call 12; refine CC.out.mono ?_; rintro e w13 ⟨rfl, -, hok13⟩)
                obtain ⟨hg13, A3, hpm3, -, hst3⟩ := hok13 (by first | trivial | rfl)
                have hd13 := hst3 w13 (fun _ _ _ => rfl)
                have hb13w := HBP.out _ _ hb11w hg13
                have hl3 : A3.length = Y.length - K := by
                  have := hpm3.length_eq
                  rw [List.length_append, List.length_map, HLB.out] at this
                  simpa using this
                have e1 : ((A3.length : Int) == (Y.length : Int) - (K : Int)) = true := by rw [hl3]; simp; omega
                have e2 : ((Z5.length : Int) + (A3.length : Int) == (Y.length : Int)) = true := by rw [hl3, HL5.out]; simp; omega
                have hA3 : A3.length ≤ 1048576 := by omega
                have hZ5 : Z5.length ≤ 1048576 := by rw [HL5.out]; omega
                have cL13 := Lib.hid (hd_Len hd13)
                have E1H := Lib.hid e1
                clear hok13 hst3 hpm3 hd13 hl3 hg13 CC
                go_wp2_with (go_at_call 18; refine cL13.out.mono ?_; rintro e w14 ⟨rfl, rfl⟩)
                go_ret
                exact ⟨by first | rfl | (simp; done), below_seq hbw hb13w⟩
              · have h3b : (E3 != 0) = true := by simpa using h3
                have h3c : (E3 == 0) = false := by simpa using h3
                have H3 := Lib.hid h3
                clear h3
                go_wp2_with (first
                  | (go_at_call 12; refine CC.out.mono ?_; rintro e w13 ⟨rfl, hbad13, -⟩; have hb13 := hbad13 H3.out; have hd13 := HD11.out.below hb13)
                  | (go_at_call 18; refine (hd_Len hd13).mono ?_; rintro e w14 ⟨rfl, rfl⟩))
                go_ret
                exact ⟨by first | rfl | (simp; done), below_seq hbw (below_seq hb11w hb13)⟩
          · have h1b : (E1 != 0) = true := by simpa using h1
            have hb3 := HBAD.out h1
            have hd3 := hd2.below hb3
            clear h1 HOK HBAD
            have cL := Lib.hid (hd_Len hd3)
            have cAl := Lib.hid (hd_All hd3)
            have cT := fun W (hW : Below w3.heap.size w3 W) => hd_Take (hd3.below hW)
            have CT := Lib.hid cT
            clear cT hd3 hd2
            go_wp2_with (first
              | (go_at_call 18; refine cL.out.mono ?_; rintro e w4 ⟨rfl, rfl⟩)
              | (go_at_call 13; refine cAl.out.mono ?_; rintro e w5 ⟨v5, Z5, rfl, hZ5, ho5, hb5⟩; obtain rfl := List.map_eq_nil_iff.1 hZ5; obtain ⟨a5, c5, rfl⟩ := owns_slice ho5.own)
              | (go_at_call 19; refine (CT.out _ hb5).mono ?_; rintro e w6 ⟨v6, Z6, rfl, hZ6, ho6, hd6, hg6⟩; obtain rfl := List.map_eq_nil_iff.1 hZ6; obtain ⟨a6, c6, rfl⟩ := owns_slice ho6.own))
            go_ret
            exact ⟨by first | rfl | (simp; done), below_seq hbw (HBP.out _ _ (below_seq (below_seq hb2 hb3) hb5) hg6)⟩
      · exact absurd hYnil (fun e => hZ0 (by have := HYL.out; rw [e] at this; exact List.eq_nil_of_length_eq_zero this.symm))
end Go.Proofs.YtaimldndooijdaaDoor
/-
  The walk of HeadTakes at no record.
-/
namespace Go.Proofs.YtaimldndooijdaaDoor
open Go.RowKit
theorem rrow_nil (W : World) : RRow W (.slice none 0 0) [] := ⟨⟨rfl, none, 0, rfl, Nat.le_refl _, Nat.zero_le _, fun h => absurd h (by decide)⟩, fun z hz => by cases hz⟩
set_option maxRecDepth 100000 in
set_option maxHeartbeats 8000000 in
theorem takes_nil (v : Value) (c : Int) (w : World) (hT : Tabs w) (h : RRow w v []) :
    Calls Tryd.prog 5 #[v, .int .i64 c] w fun e w' => e = .returned (.bool true) ∧ Below w.heap.size w w' := by
  have CA := Lib.hid (law13_awake w hT)
  have HT := Lib.hid hT
  obtain ⟨al, cl, rfl, -, -⟩ := h.shape
  clear h hT
  obtain ⟨K, hK, hKm⟩ := umod c 0
  obtain rfl : K = 0 := by omega
  have hKm1 : (IntKind.u64.wrap c).tmod 1 = 0 := by simp
  clear hK hKm
  go_enter Tryd.func5, Tryd.ntmps5
  go_upto_region 3 with (go_at_call 6; refine CA.out.mono ?_; rintro e w1 ⟨rfl, hb1⟩)
  clear CA
  go_wp2_with fail
  go_loopw [5, 6] (fun m i wr => m = .slice none 0 0 ∧ i = .int .i64 0 ∧ wr = w1) (fun _ i _ => 0)
  case atStart => exact ⟨rfl, rfl, rfl⟩
  case round =>
    obtain ⟨rfl, rfl, rfl⟩ := hrel
    go_upto_region 11 with fail
    clear hKm1
    have hb11 := Below.refl wr.heap.size wr
    go_upto_region 12 with (go_at_call 11; refine (hd_New _).mono ?_; rintro e w2 ⟨rfl, hd2, hb2⟩)
    generalize hpp : (⟨wr.heap.size, 0, none⟩ : Addr) = pa at *
    generalize hpe : wr.heap.size = p at hpp hd2
    have HPE := Lib.hid hpe
    subst hpp
    clear hpe
    have hbp : ∀ a b, Below wr.heap.size wr a → a.grownBy b (some p) → Below wr.heap.size wr b := fun a b ha hg => ha.grown hg ha.size (fun k hk => by cases hk; exact Nat.le_of_eq HPE.out)
    have HBP := Lib.hid hbp
    have cA := hd_Add hd2 (Below.refl _ _) (Utf8Tabs_below HT.out (below_seq hb1 hb2)) (.slice none 0 0) [] (fun W _ => rrow_nil W) (by decide)
    rw [show addE false 0 ([] : List Rec).length (([] : List RecL).map Prod.fst) = 0 from rfl] at cA
    have CA := Lib.hid cA
    clear cA hbp hd2
    go_upto_region 15 with (go_at_call 12; refine CA.out.mono ?_; rintro e w3 ⟨rfl, -, hok⟩)
    obtain ⟨hg3, A1, hpm1, -, hst1⟩ := hok (by first | trivial | rfl)
    have hA1 : A1 = [] := List.eq_nil_of_length_eq_zero hpm1.length_eq
    subst hA1
    have hd3 := hst1 w3 (fun _ _ _ => rfl)
    have hb3 := HBP.out _ _ hb2 hg3
    have hp3 := hd3.lt
    have cAl := Lib.hid (hd_All hd3)
    have CT := Lib.hid (fun W (hW : Below w3.heap.size w3 W) => hd_Take (hd3.below hW))
    clear hd3 hst1 hg3 hpm1 hok CA
    go_upto_region 16 with (go_at_call 13; refine cAl.out.mono ?_; rintro e w4 ⟨v4, Z4, rfl, hZ4, ho4, hb4⟩; obtain rfl := List.map_eq_nil_iff.1 hZ4)
    go_upto_region 17 with (go_at_call 19; refine (CT.out _ hb4).mono ?_; rintro e w5 ⟨v5, Z5, rfl, hZ5, ho5, hd5, hg5⟩; obtain rfl := List.map_eq_nil_iff.1 hZ5)
    have hb5w := HBP.out _ _ (below_seq hb3 hb4) hg5
    have ho4' := ho4.kept hg5 (fun k hk => by cases hk; exact hp3)
    have cS := rrec_SameAll v5 v4 [] [] w5 ho5.row ho4'.row (by decide)
    rw [decide_eq_true rfl] at cS
    have CS := Lib.hid cS
    obtain ⟨a5, c5, rfl⟩ := owns_slice ho5.own
    obtain ⟨a4, c4, rfl⟩ := owns_slice ho4.own
    have cL5 := Lib.hid (fun W (hW : Below w5.heap.size w5 W) => hd_Len (hd5.below hW))
    have cT5 := Lib.hid (fun W (hW : Below w5.heap.size w5 W) => hd_Take (hd5.below hW))
    clear cS ho4' ho4 ho5 hZ5 hZ4 hg5 CT cAl hd5
    go_upto_region 19 with (first
      | (go_at_call 14; refine CS.out.mono ?_; rintro e w6 ⟨rfl, hb6⟩)
      | (go_at_call 18; refine (cL5.out _ hb6).mono ?_; rintro e w7 ⟨rfl, rfl⟩)
      | (go_at_call 19; refine (cT5.out _ hb6).mono ?_; rintro e w8 ⟨v7, Z7, rfl, hZ7, ho7, hd8, hg7⟩; obtain rfl := List.map_eq_nil_iff.1 hZ7; obtain ⟨a7, c7, rfl⟩ := owns_slice ho7.own; have hb8w := HBP.out _ _ (below_seq hb5w hb6) hg7))
    clear hg7 ho7 hZ7 hb6 CS cL5 cT5
    have hp8 := hd8.lt
    have ho9 : (w8.alloc (.cells #[] 25)).ownsRow w8.heap.size 25 4 (.slice (some ⟨w8.heap.size, 0, none⟩) 0 0) 0 [] := World.ownsRow_lit w8 #[] 0 (Nat.le_refl _) (by decide) rfl
    have hb9 := belowA (o := .cells #[] 25) (Below.refl w8.heap.size w8)
    have hsrc := src_arg (P := Tryd.prog) (tx := 31) Tryd.underlying31 (rrow_nil (w8.alloc (.cells #[] 25))).1 (recsCells_oneC (rrow_nil w8).one)
    go_upto_region 20 with (first
      | (at_builtin; refine wpList_append_src rfl (.tmp 97) _ _ _ rfl w8.heap.size ER _ _ _ rfl ho9 _ 0 [] rfl (by exact hsrc) (by unfold maxLen; omega) (by omega) (by simp) ?_; intro v9 w9 hown9 hgr9 _ _; have hb89 := hb9.grown hgr9 (by simp) (fun j hj => (ho9.lt j hj).1); have hs9 := hb89.size)
      | (at_builtin; refine wpList_append_src rfl (.tmp 101) _ _ _ rfl w8.heap.size ER _ _ _ rfl (hown9.alloc _) _ 1 [.int .i64 0, .int .u64 1099511627776, .slice none 0 0, .string ⟨#[255]⟩] rfl (by exact src_last (cs := #[.int .i64 0, .int .u64 1099511627776, .slice none 0 0, .string ⟨#[255]⟩]) Tryd.underlying31 1 1 4 rfl rfl (by simp [Value.oneCell'])) (by unfold maxLen; omega) (by omega) (by simp; omega) ?_; intro v10 w10 hown10 hgr10 _ _; have hb810 := (belowA hb89).grown hgr10 (by simp; omega) (fun j hj => (hown9.lt j hj).1)))
    have ho10 : w10.ownsRow w8.heap.size 25 4 v10 [awz badRec].length (recsCells [awz badRec]) := hown10
    have hb10w := below_seq hb8w hb810
    have hd10 := hd8.below hb810
    have cB := hd_Add hd10 (Below.refl _ _) (Utf8Tabs_below HT.out (below_seq hb1 hb10w)) v10 [awz badRec] (fun W hW => ⟨argRow_owns (own_kept ho10 hW (fun k hk => by cases hk; exact hp8)), fun z hz => by
      rw [List.mem_singleton] at hz
      subst hz
      exact recAt_nil W badRec rfl (by decide)⟩) (by simp)
    have hne2 := add_bad (so := (false || decide (0 < ([] : List RecL).length))) (last := lastS 0 (([] : List RecL).map Prod.fst)) (n := ([] : List Rec).length) (putBad_snoc (l := []) badRec_bad)
    rw [show ([] : List Rec) ++ [badRec] = [awz badRec].map Prod.fst from rfl] at hne2
    obtain ⟨a10, c10, rfl⟩ := owns_slice ho10
    obtain ⟨E2, hE2⟩ : ∃ E, addE (false || decide (0 < ([] : List RecL).length)) (lastS 0 (([] : List RecL).map Prod.fst)) ([] : List Rec).length ([awz badRec].map Prod.fst) = E := ⟨_, rfl⟩
    rw [hE2] at cB hne2
    have CB := Lib.hid cB
    have HD10 := Lib.hid hd10
    have HNE2 := Lib.hid hne2
    have ne2 : (E2 == 0) = false := by simpa using hne2
    clear cB ho10 hown10 hgr10 hown9 hgr9 hsrc ho9 hd10 hne2 hd8 hE2
    go_upto_region 22 with (first
      | (go_at_call 12; refine CB.out.mono ?_; rintro e w11 ⟨rfl, hbad11, -⟩; have hb11 := hbad11 HNE2.out; have hd11 := HD10.out.below hb11)
      | (go_at_call 18; refine (hd_Len hd11).mono ?_; rintro e w12 ⟨rfl, rfl⟩))
    have hb11w := below_seq hb10w hb11
    have cC := hd_Add hd11 (Below.refl _ _) (Utf8Tabs_below HT.out (below_seq hb1 hb11w)) (.slice none 0 0) [] (fun W _ => rrow_nil W) (by decide)
    rw [show addE (false || decide (0 < ([] : List RecL).length)) (lastS 0 (([] : List RecL).map Prod.fst)) ([] : List Rec).length (([] : List RecL).map Prod.fst) = 0 from rfl] at cC
    have CC := Lib.hid cC
    clear cC hd11 hbad11 CB
    go_upto_region 23 with (go_at_call 12; refine CC.out.mono ?_; rintro e w13 ⟨rfl, -, hok13⟩)
    obtain ⟨hg13, A3, hpm3, -, hst3⟩ := hok13 (by first | trivial | rfl)
    have hA3 : A3 = [] := List.eq_nil_of_length_eq_zero hpm3.length_eq
    subst hA3
    have hd13 := hst3 w13 (fun _ _ _ => rfl)
    have hb13w := HBP.out _ _ hb11w hg13
    have cL13 := Lib.hid (hd_Len hd13)
    clear hok13 hst3 hpm3 hd13 hg13 CC
    go_wp2_with (go_at_call 18; refine cL13.out.mono ?_; rintro e w14 ⟨rfl, rfl⟩)
    go_ret
    exact ⟨by first | rfl | (simp; done), below_seq hb1 hb13w⟩
end Go.Proofs.YtaimldndooijdaaDoor
