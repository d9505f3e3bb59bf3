/-
  The reference's Has, Find.
-/
import Derived.Test.YtaimldndooijdaaGreatDoorScrOne
import Derived.Test.YtaimldndooijdaaGreatDoorHeadTri
import Derived.Deep.RegionHeld3
namespace Go.Proofs.YtaimldndooijdaaGreatDoor
open Go.RowKit
set_option maxRecDepth 100000 in
set_option maxHeartbeats 8000000 in
theorem ref13_Has (r : Rec) (lv : Value) (t : Txt) (w : World) (h : RecAt w lv r) (hc : chkRec r = 0) :
    Calls Tryz.prog 32 #[recV r lv, strV t] w fun e w' => e = .returned (.bool (decide (t ∈ termsOf r))) ∧ Below w.heap.size w w' := by
  obtain ⟨hs1, -⟩ := terms_small hc
  have hone := one_new w #[.int .i64 r.time, .int .u64 (r.seq : Int), lv, .string r.line] 47
  have hb1 : Below w.heap.size w (w.alloc (.cells #[.int .i64 r.time, .int .u64 (r.seq : Int), lv, .string r.line] 47)) := belowA (Below.refl _ _)
  have CT := Lib.hid (ref13_Terms r lv _ (h.below hb1))
  obtain ⟨al, cl, rfl, -, -⟩ := h.1.shape
  unfold recV at CT ⊢
  unfold strV
  obtain ⟨x, hx⟩ : ∃ x : ByteArray, (⟨t.toArray⟩ : ByteArray) = x := ⟨_, rfl⟩
  rw [hx]
  have HX := Lib.hid hx
  obtain ⟨T, hTT⟩ : ∃ T, termsOf r = T := ⟨_, rfl⟩
  rw [hTT] at CT hs1 ⊢
  obtain ⟨R, hR⟩ : ∃ R, decide (t ∈ T) = R := ⟨_, rfl⟩
  rw [hR]
  have HR := Lib.hid hR
  generalize r.time = ta at *
  generalize (r.seq : Int) = sa at *
  generalize r.line = na at *
  generalize r.labs.length = nl at *
  clear h hc hx hTT hR
  go_enter Tryz.func32, Tryz.ntmps32
  go_upto_region 1 with fail
  generalize w.alloc (.cells #[.int .i64 ta, .int .u64 sa, .slice al nl cl, .string na] 47) = w1 at *
  have HB1 := Lib.hid hb1
  have g0 := hone w1 (Below.refl _ _) 0
  have g1 := hone w1 (Below.refl _ _) 1
  have g2 := hone w1 (Below.refl _ _) 2
  have g3 := hone w1 (Below.refl _ _) 3
  clear hone hb1
  simp only [List.getElem?_toArray, List.getElem?_cons_zero, List.getElem?_cons_succ] at g0 g1 g2 g3
  go_upto_region 2 with (go_at_call 50; refine CT.out.mono ?_; rintro e w2 ⟨v2, rfl, hT2, hb2⟩)
  obtain ⟨a2, c2, rfl⟩ := owns_slice hT2
  have hrow := argRow_owns hT2
  have HROW := Lib.hid (fun W (hW : Below w2.heap.size w2 W) => argRow_below hrow hW)
  have HB2 := Lib.hid (HB1.out.trans (hb2.mono HB1.out.size))
  clear g0 g1 g2 g3 CT hT2 hrow hb2
  go_wp2_with fail
  go_loopw [6] (fun iv wr => ∃ k q : Nat, iv = .int .i64 k ∧ k ≤ T.length ∧ (decide (t ∈ T.drop k)) = R ∧ wr = w2.drewN q) (fun iv _ => T.length - (intOf iv).toNat)
  case atStart => exact ⟨0, 0, rfl, Nat.zero_le _, HR.out, rfl⟩
  case round =>
    obtain ⟨k, q, rfl, hk, hacc, rfl⟩ := hrel
    have hbq : Below w2.heap.size w2 (w2.drewN q) := below_dN (Below.refl _ _) _
    by_cases hlt : k < T.length
    · obtain ⟨_, a', c', e', _, _, hcs⟩ := HROW.out _ hbq
      cases e'
      obtain ⟨bt, ot, rfl, hbt, hcs⟩ := hcs (by omega)
      have hc0 := hcs k (by rw [List.length_map]; exact hlt)
      rw [List.getElem_map] at hc0
      unfold strV at hc0
      have hbe : ((⟨T[k].toArray⟩ : ByteArray).toList == x.toList) = decide (T[k] = t) := by rw [← HX.out]; exact strV_beq _ _
      rw [List.drop_eq_getElem_cons hlt] at hacc
      have i0 : (0 : Int) ≤ (k : Int) := by omega
      have i1 : (k : Int) < (T.length : Int) := by omega
      clear hcs
      generalize T[k] = y at *
      obtain ⟨sj, hsj⟩ : ∃ s, (⟨y.toArray⟩ : ByteArray) = s := ⟨_, rfl⟩
      rw [hsj] at hbe hc0
      clear hsj
      by_cases hyt : y = t
      · subst hyt
        obtain rfl : true = R := by rw [← hacc]; simp
        rw [decide_eq_true rfl] at hbe
        clear hacc HR
        go_wp2_with fail
        go_ret
        exact ⟨rfl, below_dN HB2.out _⟩
      · have hacc2 : decide (t ∈ T.drop (k + 1)) = R := by
          rw [← hacc]
          simp [Ne.symm hyt]
        rw [decide_eq_false hyt] at hbe
        have HACC := Lib.hid hacc2
        clear hacc hacc2 hyt
        go_wp2_with fail
        go_roundw
        case rel => exact ⟨k + 1, _, by go_num, by omega, HACC.out, rfl⟩
        case measure => simp [intOf]; omega
    · have i1 : ¬ (k : Int) < (T.length : Int) := by omega
      obtain rfl : false = R := by
        rw [← hacc, List.drop_of_length_le (by omega)]
        simp
      clear hacc HR
      go_wp2_with fail
      go_ret
      exact ⟨rfl, below_dN HB2.out _⟩
set_option maxRecDepth 100000 in
set_option maxHeartbeats 8000000 in
theorem ref13_Find (v : Value) (Z : List RecL) (t : Txt) (w : World) (h : RRow w v Z) (hZ : Z.length ≤ 65536) (hc : ∀ z ∈ Z, chkRec z.1 = 0) :
    Calls Tryz.prog 16 #[v, strV t] w fun e w' => ∃ v', e = .returned v' ∧ w'.ownsRow w.heap.size 44 1 v' (plI t (Z.map Prod.fst)).length (u64s (plI t (Z.map Prod.fst))) ∧ Below w.heap.size w w' := by
  have CH := Lib.hid (fun (W : World) (hW : Below w.heap.size w W) (z : RecL) (hz : z ∈ Z) => ref13_Has z.1 z.2 t W ((h.below hW).2 z hz) (hc z hz))
  have H := Lib.hid (fun (W : World) (hW : Below w.heap.size w W) => h.below hW)
  obtain ⟨al, cl, rfl, hlc, hlc2⟩ := h.shape
  unfold maxLen at hlc2
  clear h hc
  have hstr : ∃ x, strV t = .string x := ⟨_, rfl⟩
  obtain ⟨x, hx⟩ := hstr
  rw [hx] at CH ⊢
  clear hx
  go_enter Tryz.func16, Tryz.ntmps16
  go_wp2
  go_loopw [5, 6] (fun m i wr => ∃ k : Nat, k ≤ Z.length ∧ i = .int .i64 k ∧ wr.ownsRow w.heap.size 44 1 m (plI t ((Z.take k).map Prod.fst)).length (u64s (plI t ((Z.take k).map Prod.fst))) ∧ Below w.heap.size w wr) (fun _ i _ => Z.length - (intOf i).toNat)
  case atStart => exact ⟨0, by omega, rfl, World.ownsRow_nil _ _ _ _, Below.refl _ _⟩
  case round =>
    obtain ⟨k, hk, rfl, hown, hbr⟩ := hrel
    have hszr := hbr.size
    obtain ⟨ma, mc, rfl⟩ := owns_slice hown
    by_cases hlt : k < Z.length
    · obtain ⟨b, off, rfl, hbl, g0, g1, g2, g3⟩ := (H.out wr hbr).at hlt
      have hzm := List.getElem_mem hlt
      have hst : plI t ((Z.take (k + 1)).map Prod.fst) = plI t ((Z.take k).map Prod.fst) ++ if t ∈ termsOf Z[k].1 then [(k : Int)] else [] := by
        rw [List.take_succ_eq_append_getElem hlt, List.map_append]
        unfold plI
        have hl : 0 + ((Z.take k).map Prod.fst).length = k := by rw [List.length_map, List.length_take]; omega
        rw [show [Z[k]].map Prod.fst = [Z[k].1] from rfl, places_snoc, hl]
        split <;> simp
      have CH1 := CH.out wr hbr _ hzm
      obtain ⟨⟨r, lv⟩, hzz⟩ : ∃ z, Z[k] = z := ⟨_, rfl⟩
      rw [hzz] at CH1 hst g0 g1 g2 g3
      simp only at CH1 hst g0 g1 g2 g3
      obtain ⟨la, lc, hlv, -, -⟩ := ((H.out wr hbr).2 _ (hzz ▸ hzm)).1.shape
      simp only at hlv
      clear hzm hzz
      subst hlv
      unfold recV at CH1
      have hpl : (plI t ((Z.take k).map Prod.fst)).length ≤ k := by
        unfold plI
        rw [List.length_map]
        refine Nat.le_trans (places_len t _ 0) ?_
        rw [List.length_map, List.length_take]
        omega
      have i0 : (0 : Int) ≤ (k : Int) := by omega
      have i1 : (k : Int) < (Z.length : Int) := by omega
      have hcv : IntKind.u64.wrap (k : Int) = (k : Int) := by rw [IntKind.wrap_u64]; omega
      obtain ⟨R, hR⟩ : ∃ R, decide (t ∈ termsOf r) = R := ⟨_, rfl⟩
      rw [hR] at CH1
      have hst2 : plI t ((Z.take (k + 1)).map Prod.fst) = plI t ((Z.take k).map Prod.fst) ++ if R = true then [(k : Int)] else [] := by
        rw [hst, ← hR]
        simp
      have HST := Lib.hid hst2
      generalize plI t ((Z.take k).map Prod.fst) = WP at *
      clear hst hst2 hR
      generalize r.time = ta at *
      generalize (r.seq : Int) = sa at *
      generalize r.line = na at *
      generalize r.labs.length = nl at *
      cases R with
      | true =>
        go_upto_region 6 with (go_at_call 32; refine CH1.mono ?_; rintro e w2 ⟨rfl, hb2⟩)
        have hown2 := owns_below hown hb2
        have hb22 := below_seq hbr hb2
        have hs2 := hb22.size
        clear g0 g1 g2 g3 CH1
        go_wp2_with (at_builtin; refine wpList_append_src rfl _ _ _ _ rfl w.heap.size EU _ WP.length (u64s WP) rfl (hown2.alloc _) _ 1 [.int .u64 k] rfl (by exact src_last (cs := #[.int .u64 k]) Tryz.underlying39 1 1 1 rfl rfl (by simp [Value.oneCell'])) (by unfold maxLen; omega) (by omega) (by simp; omega) ?_; intro v14 w14 hown14 hgr14 _ _)
        go_roundw
        case rel =>
          refine ⟨k + 1, by omega, by go_num, ?_, (hb22.alloc hs2 (.cells #[.int .u64 k] 44)).grown hgr14 (by simp; omega) (fun jj hjj => (hown2.lt jj hjj).1)⟩
          rw [HST.out]
          simp only [if_true]
          unfold u64s at hown14 ⊢
          rw [List.map_append, List.length_append]
          exact hown14
        case measure => simp [intOf]; omega
      | false =>
        go_wp2_with (go_at_call 32; refine CH1.mono ?_; rintro e w2 ⟨rfl, hb2⟩)
        go_roundw
        case rel =>
          refine ⟨k + 1, by omega, by go_num, ?_, below_seq hbr hb2⟩
          rw [HST.out]
          simp only [Bool.false_eq_true, if_false, List.append_nil]
          exact owns_below hown hb2
        case measure => simp [intOf]; omega
    · obtain rfl : k = Z.length := by omega
      rw [List.take_length] at hown
      have i1 : ¬ (Z.length : Int) < (Z.length : Int) := by omega
      have HO := Lib.hid hown
      clear hown
      go_wp2
      go_ret
      exact ⟨_, rfl, HO.out, hbr⟩
end Go.Proofs.YtaimldndooijdaaGreatDoor
/-
  The reference's Add.
-/
namespace Go.Proofs.YtaimldndooijdaaGreatDoor
open Go.RowKit
/-- A number that may not come: not behind the last one, or not behind the one ahead of it. -/
def badAt (so : Bool) (last : Nat) (l : List Rec) (i : Nat) : Bool := match l[i]? with
  | none => false
  | some r => (so && decide (r.seq ≤ last)) || match i with
    | 0 => false
    | j + 1 => match l[j]? with
      | none => false
      | some q => decide (r.seq ≤ q.seq)
theorem rises_chain : ∀ (l : List Rec) (so : Bool) (last : Nat), rises so last l = true ↔ (∀ r ∈ l.head?, so = true → last < r.seq) ∧ ∀ j (h : j + 1 < l.length), (l[j]'(by omega)).seq < l[j + 1].seq
  | [], so, last => by simp [rises]
  | r :: l, so, last => by
    have ih := rises_chain l true r.seq
    unfold rises
    rw [Bool.and_eq_true, ih]
    constructor
    · rintro ⟨h1, h2, h3⟩
      refine ⟨fun x hx hs => ?_, fun j hj => ?_⟩
      · obtain rfl : r = x := by simpa using hx
        subst hs
        simpa using h1
      · cases j with
        | zero =>
          cases l with
          | nil => simp at hj
          | cons y l => exact h2 y (by simp) rfl
        | succ j => exact h3 j (by simpa using hj)
    · rintro ⟨h1, h2⟩
      refine ⟨?_, fun x hx _ => ?_, fun j hj => ?_⟩
      · cases so
        · rfl
        · have := h1 r (by simp) rfl
          simpa using this
      · cases l with
        | nil => simp at hx
        | cons y l =>
          obtain rfl : y = x := by simpa using hx
          exact h2 0 (by simp)
      · exact h2 (j + 1) (by simpa using hj)
theorem rises_bad {l : List Rec} {so : Bool} {last : Nat} : rises so last l = true ↔ ∀ i, i < l.length → badAt so last l i = false := by
  constructor
  · intro h i hi
    obtain ⟨h1, h2⟩ := rises_spec.1 h
    obtain ⟨_, h3⟩ := (rises_chain l so last).1 h
    unfold badAt
    rw [List.getElem?_eq_getElem hi]
    have a1 : (so && decide (l[i].seq ≤ last)) = false := by
      cases so
      · rfl
      · have := h1 rfl l[i] (List.getElem_mem hi)
        simp; omega
    cases i with
    | zero => simpa using a1
    | succ j =>
      simp only
      rw [a1, List.getElem?_eq_getElem (by omega)]
      have := h3 j hi
      simp; omega
  · intro h
    refine (rises_chain l so last).2 ⟨fun r hr hs => ?_, fun j hj => ?_⟩
    · cases l with
      | nil => simp at hr
      | cons y l =>
        obtain rfl : y = r := by simpa using hr
        subst hs
        have := h 0 (by simp)
        simp [badAt] at this
        omega
    · have := h (j + 1) hj
      unfold badAt at this
      rw [List.getElem?_eq_getElem hj] at this
      simp only at this
      rw [List.getElem?_eq_getElem (by omega)] at this
      simp at this
      omega
end Go.Proofs.YtaimldndooijdaaGreatDoor
/-
  The reference's Add: its walk.
-/
namespace Go.Proofs.YtaimldndooijdaaGreatDoor
open Go.RowKit
/-- The reference's head: its object, its row. -/
structure RefS (w : World) (q B last : Nat) (so : Bool) (lv : Value) (Z : List RecL) : Prop where
  obj : w.heap[q]? = some (refObj lv (last : Int) so)
  own : w.ownsRow B 47 4 lv Z.length (recsCells Z)
  low : B ≤ q
theorem RefS.ne {w : World} {q B last : Nat} {so : Bool} {lv : Value} {Z : List RecL} (h : RefS w q B last so lv Z) : lv.ownBlock ≠ some q := own_typed h.own h.obj (by decide)
theorem RefS.keep {w w' : World} {q B last : Nat} {so : Bool} {lv : Value} {Z : List RecL} (h : RefS w q B last so lv Z) (hk : ∀ k, (k = q ∨ lv.ownBlock = some k) → w'.heap[k]? = w.heap[k]?) : RefS w' q B last so lv Z :=
  ⟨(hk q (.inl rfl)).trans h.obj, own_stay h.own fun k hk' => hk k (.inr hk'), h.low⟩
theorem RefS.below {w w' : World} {q B last : Nat} {so : Bool} {lv : Value} {Z : List RecL} (h : RefS w q B last so lv Z) (hb : Below w.heap.size w w') : RefS w' q B last so lv Z :=
  h.keep fun k hk => hb.block k (by
    rcases hk with rfl | hk
    · exact (Array.getElem?_eq_some_iff.1 h.obj).1
    · exact (h.own.lt k hk).2)
/-- What else is as it was. -/
structure Off (w : World) (q B : Nat) (lv : Value) (w' : World) (lv' : Value) : Prop where
  below : Below B w w'
  off : ∀ j, j < w.heap.size → j ≠ q → lv.ownBlock ≠ some j → w'.heap[j]? = w.heap[j]?
  loc : lv'.ownBlock = lv.ownBlock ∨ ∀ j, lv'.ownBlock = some j → w.heap.size ≤ j
theorem Off.refl (w : World) (q B : Nat) (lv : Value) : Off w q B lv w lv := ⟨Below.refl _ _, fun _ _ _ _ => rfl, .inl rfl⟩
theorem Off.to {w w' w2 : World} {q B : Nat} {lv lv' : Value} (h : Off w q B lv w' lv') (hB : B ≤ w'.heap.size) (hb : Below w'.heap.size w' w2) : Off w q B lv w2 lv' :=
  ⟨h.below.trans (hb.mono hB), fun j h1 h2 h3 => (hb.block j (Nat.lt_of_lt_of_le h1 h.below.size)).trans (h.off j h1 h2 h3), h.loc⟩
/-- One record more. -/
theorem ref_more {w wr wx w9 : World} {q B last : Nat} {so : Bool} {lv lvr v9 : Value} {Z : List RecL} {z : RecL} (hS : RefS wr q B last so lvr Z) (hO : Off w q B lv wr lvr) (hb : Below wr.heap.size wr wx)
    (hown : w9.ownsRow B 47 4 v9 (Z.length + 1) (recsCells Z ++ recCells z)) (hgr : wx.grownBy w9 lvr.ownBlock) (hloc : v9.ownBlock = lvr.ownBlock ∨ v9.ownBlock = some wx.heap.size) :
    w9.heap[q]? = some (refObj lvr (last : Int) so) ∧ Below B w (w9.setCell ⟨q, 0, none⟩ v9) ∧
    RefS (((w9.setCell ⟨q, 0, none⟩ v9).setCell ⟨q, 1, none⟩ (.int .u64 (z.1.seq : Int))).setCell ⟨q, 2, none⟩ (.bool true)) q B z.1.seq true v9 (Z ++ [z]) ∧
    Off w q B lv (((w9.setCell ⟨q, 0, none⟩ v9).setCell ⟨q, 1, none⟩ (.int .u64 (z.1.seq : Int))).setCell ⟨q, 2, none⟩ (.bool true)) v9 := by
  have hql : q < wr.heap.size := (Array.getElem?_eq_some_iff.1 hS.obj).1
  have hs := hb.size
  have h9 : w9.heap[q]? = some (refObj lvr (last : Int) so) := by
    rw [hgr.block q (by omega) (fun e => hS.ne e.symm), hb.block q hql]
    exact hS.obj
  have hB : B ≤ wr.heap.size := Nat.le_trans hS.low (Nat.le_of_lt hql)
  have h10 : w9.grownBy (((w9.setCell ⟨q, 0, none⟩ v9).setCell ⟨q, 1, none⟩ (.int .u64 (z.1.seq : Int))).setCell ⟨q, 2, none⟩ (.bool true)) (some q) :=
    ((grown_set w9 q 0 v9).trans (grown_set _ q 1 _)).trans (grown_set _ q 2 _)
  have hv9 : v9.ownBlock ≠ some q := own_typed hown h9 (by decide)
  have b1 : Below B w wx := hO.below.trans (hb.mono hB)
  have b2 : Below B w w9 := b1.grown hgr (by omega) (fun k hk => (hS.own.lt k hk).1)
  refine ⟨h9, b2.setCell hS.low _, ⟨?_, ?_, hS.low⟩, ⟨?_, fun j h1 h2 h3 => ?_, ?_⟩⟩
  · rw [heap_setCell_same _ _ _ _ _ _ (heap_setCell_same _ _ _ _ _ _ (heap_setCell_same _ _ _ _ _ _ h9))]
    rfl
  · rw [List.length_append, recsCells_append]
    have h11 := hown.kept h10 (.inr hv9)
    simpa [recsCells] using h11
  · exact b2.grown h10 (by have := hgr.size; omega) (fun k hk => by cases hk; exact hS.low)
  · have j1 : j < wr.heap.size := Nat.lt_of_lt_of_le h1 hO.below.size
    have hlr : lvr.ownBlock ≠ some j := by
      rcases hO.loc with e | e
      · rw [e]; exact h3
      · intro he
        have := e j he
        omega
    rw [h10.block j (by have := hgr.size; omega) (fun e => h2 (Option.some.inj e)), hgr.block j (by omega) (fun e => hlr e.symm), hb.block j j1]
    exact hO.off j h1 h2 h3
  · rcases hloc with e | e
    · rw [e]; exact hO.loc
    · refine .inr fun j hj => ?_
      rw [e] at hj
      cases hj
      have := hO.below.size
      omega
end Go.Proofs.YtaimldndooijdaaGreatDoor
/-
  The reference's Add: its walk.
-/
namespace Go.Proofs.YtaimldndooijdaaGreatDoor
open Go.RowKit
/-- What an Add of the reference comes to. -/
def AddR (w : World) (q B last : Nat) (so : Bool) (lv : Value) (Z Y : List RecL) (E : Int) (e : Ending) (w' : World) : Prop :=
  e = .returned (.int .i64 E) ∧ Below B w w' ∧ (E ≠ 0 → Below w.heap.size w w') ∧ (E = 0 → ∃ lv', RefS w' q B (lastS last (Y.map Prod.fst)) (so || decide (0 < Y.length)) lv' (Z ++ Y) ∧ Off w q B lv w' lv')
theorem AddR.bad {w : World} {q B last : Nat} {so : Bool} {lv : Value} {Z Y : List RecL} {E c : Int} {w' : World} (hB : B ≤ w.heap.size) (hE : E = c) (hc : c ≠ 0) (hb : Below w.heap.size w w') : AddR w q B last so lv Z Y E (.returned (.int .i64 c)) w' := by
  subst hE
  exact ⟨rfl, hb.mono hB, fun _ => hb, fun h => absurd h hc⟩
theorem lastS_takeR (last : Nat) (Y : List RecL) (k : Nat) (h : k < Y.length) : lastS last ((Y.take (k + 1)).map Prod.fst) = Y[k].1.seq := by
  rw [List.take_succ_eq_append_getElem h, List.map_append]
  exact lastS_snoc _ _ _
set_option maxRecDepth 100000 in
set_option maxHeartbeats 40000000 in
theorem ref13_Add (q B last : Nat) (so : Bool) (lv v : Value) (Z Y : List RecL) (w : World) (hS : RefS w q B last so lv Z) (hY : ∀ W, Below B w W → RRow W v Y) (hYl : Y.length ≤ 2000000) (hZl : Z.length ≤ 65536) :
    Calls Tryz.prog 9 #[.pointer (some ⟨q, 0, none⟩), v] w (AddR w q B last so lv Z Y (addE so last Z.length (Y.map Prod.fst))) := by
  have hql : q < w.heap.size := (Array.getElem?_eq_some_iff.1 hS.obj).1
  have hB : B ≤ w.heap.size := Nat.le_trans hS.low (Nat.le_of_lt hql)
  have hdef : addE so last Z.length (Y.map Prod.fst) = if putBad (Y.map Prod.fst) ≠ 0 then putBad (Y.map Prod.fst) else if rises so last (Y.map Prod.fst) = false then 6 else if 65536 < Z.length + (Y.map Prod.fst).length then 3 else 0 := rfl
  obtain ⟨E, hE⟩ : ∃ E, addE so last Z.length (Y.map Prod.fst) = E := ⟨_, rfl⟩
  rw [hE] at hdef ⊢
  have HE := Lib.hid hdef
  have HS := Lib.hid hS
  have HBB := Lib.hid hB
  have HY := Lib.hid hY
  have CC := Lib.hid (fun (W : World) (hW : Below w.heap.size w W) (z : RecL) (hz : z ∈ Y) => rrec_Check z.1 z.2 W ((hY W (hW.mono hB)).2 z hz))
  obtain ⟨al, cl, rfl, hlc, hlc2⟩ := (hY w (Below.refl _ _)).shape
  unfold maxLen at hlc2
  have HCELL := Lib.hid (fun (W : World) (hW : Below B w W) (k : Nat) (hk : k < Y.length) => RRow.at (hY W hW) hk)
  obtain ⟨l, hl⟩ : ∃ l, Y.map Prod.fst = l := ⟨_, rfl⟩
  have hll : l.length = Y.length := by rw [← hl, List.length_map]
  have HLL := Lib.hid hll
  have HLG := Lib.hid (fun (k : Nat) (h : k < l.length) (h2 : k < Y.length) => (by subst hl; rw [List.getElem_map] : l[k] = Y[k].1))
  rw [hl] at HE
  have HL := Lib.hid hl
  clear hdef hE hS hY hl hll hql
  have HP := Lib.hid (show putBad (l.drop 0) = putBad l from rfl)
  go_enter Tryz.func9, Tryz.ntmps9
  go_wp2
  go_loopw [5] (fun iv wr => ∃ k : Nat, iv = .int .i64 k ∧ k ≤ Y.length ∧ putBad (l.drop k) = putBad l ∧ Below w.heap.size w wr) (fun iv _ => Y.length - (intOf iv).toNat)
  case atStart => exact ⟨0, rfl, Nat.zero_le _, HP.out, Below.refl _ _⟩
  case round =>
    obtain ⟨k, rfl, hk, hacc, hbr⟩ := hrel
    by_cases hlt : k < Y.length
    · obtain ⟨b, off, rfl, hbl, g0, g1, g2, g3⟩ := HCELL.out wr (hbr.mono hB) k hlt
      have hkl : k < l.length := by rw [HLL.out]; exact hlt
      have CC1 := CC.out wr hbr _ (List.getElem_mem hlt)
      rw [List.drop_eq_getElem_cons hkl, HLG.out k hkl hlt] at hacc
      obtain ⟨⟨r, rv⟩, hzz⟩ : ∃ z, Y[k] = z := ⟨_, rfl⟩
      obtain ⟨la, lc, hlv, -, -⟩ := ((HY.out wr (hbr.mono hB)).2 _ (List.getElem_mem hlt)).1.shape
      rw [hzz] at g0 g1 g2 g3 CC1 hacc hlv
      simp only at g0 g1 g2 g3 CC1 hacc hlv
      clear hzz
      subst hlv
      unfold recV at CC1
      obtain ⟨c, hc⟩ : ∃ c, chkRec r = c := ⟨_, rfl⟩
      replace hacc : (if chkRec r ≠ 0 then chkRec r else putBad (l.drop (k + 1))) = putBad l := hacc
      rw [hc] at CC1 hacc
      have i0 : (0 : Int) ≤ (k : Int) := by omega
      have i1 : (k : Int) < (Y.length : Int) := by omega
      generalize r.time = ta at *
      generalize (r.seq : Int) = sa at *
      generalize r.line = na at *
      generalize r.labs.length = nl at *
      clear hc
      by_cases h0 : c = 0
      · rw [if_neg (by simp [h0])] at hacc
        have d1 : (c != 0) = false := by simp [h0]
        have HACC := Lib.hid hacc
        clear hacc h0
        go_wp2_with (go_at_call 28; refine CC1.mono ?_; rintro e w2 ⟨rfl, hb2⟩)
        go_roundw
        case rel =>
          refine ⟨k + 1, by go_num, by omega, ?_, below_seq hbr hb2⟩
          exact HACC.out
        case measure => simp [intOf]; omega
      · rw [if_pos h0] at hacc
        have d1 : (c != 0) = true := by simpa using h0
        have HF := Lib.hid (show E = c by rw [HE.out, ← hacc, if_pos h0])
        have H0 := Lib.hid h0
        clear hacc h0
        go_wp2_with (go_at_call 28; refine CC1.mono ?_; rintro e w2 ⟨rfl, hb2⟩)
        go_ret
        exact AddR.bad HBB.out HF.out H0.out (below_seq hbr hb2)
    · have i1 : ¬ (k : Int) < (Y.length : Int) := by omega
      have hp0 : putBad l = 0 := by
        rw [← hacc, List.drop_of_length_le (by rw [HLL.out]; omega)]
        rfl
      rw [hp0] at HE
      have HE2 := Lib.hid (show E = if rises so last l = false then 6 else if 65536 < Z.length + l.length then 3 else 0 by
        have h := HE.out
        rw [if_neg (by simp)] at h
        exact h)
      clear hacc hp0 HE HP CC
      obtain ⟨wa, hwa⟩ : ∃ wa : World, wa = wr := ⟨_, rfl⟩
      subst hwa
      go_wp2_with fail
      go_loopw [7] (fun iv wr => ∃ k : Nat, iv = .int .i64 k ∧ k ≤ Y.length ∧ (∀ i, i < k → badAt so last l i = false) ∧ Below w.heap.size w wr) (fun iv _ => Y.length - (intOf iv).toNat)
      case atStart => exact ⟨0, rfl, Nat.zero_le _, fun i hi => by omega, hbr⟩
      case round =>
        obtain ⟨k, rfl, hk, hacc, hbr⟩ := hrel
        have HACC := Lib.hid hacc
        clear hacc
        by_cases hlt : k < Y.length
        · obtain ⟨b, off, rfl, hbl, g0, g1, g2, g3⟩ := HCELL.out wr (hbr.mono hB) k hlt
          have hkl : k < l.length := by rw [HLL.out]; exact hlt
          have ho := (HS.out.below hbr).obj
          have q1 := cell_own ho (j := 1) rfl
          have q2 := cell_own ho (j := 2) rfl
          have hprev : ∀ j, j + 1 = k → ∃ p : Int, wr.cell? ⟨b, off + j * 4 + 1, none⟩ = some (.int .u64 p) ∧ badAt so last l k = ((so && decide ((Y[k].1.seq : Int) ≤ (last : Int))) || decide ((Y[k].1.seq : Int) ≤ p)) := fun j hj => by
            obtain ⟨b', off', e', -, -, h1, -⟩ := HCELL.out wr (hbr.mono hB) j (by omega)
            cases e'
            refine ⟨_, h1, ?_⟩
            subst hj
            unfold badAt
            rw [List.getElem?_eq_getElem hkl, HLG.out _ hkl hlt]
            simp only
            rw [List.getElem?_eq_getElem (by omega), HLG.out j (by omega) (by omega)]
            simp
          have hfirst : k = 0 → badAt so last l k = (so && decide ((Y[k].1.seq : Int) ≤ (last : Int))) := fun hk0 => by
            subst hk0
            unfold badAt
            rw [List.getElem?_eq_getElem hkl, HLG.out _ hkl hlt]
            simp
          clear g0 g2 g3 ho
          generalize (Y[k].1.seq : Int) = sq at *
          generalize hla : (last : Int) = la at q1 hprev hfirst
          have HLA := Lib.hid hla
          clear hla
          have i0 : (0 : Int) ≤ (k : Int) := by omega
          have i1 : (k : Int) < (Y.length : Int) := by omega
          have f1 := cell_regrown g1
          have f2 := cell_regrown q1
          have f3 := cell_regrown q2
          have hbad : badAt so last l k = true → E = 6 := fun h => by
            rw [HE2.out, if_pos]
            cases hr : rises so last l with
            | false => rfl
            | true =>
              have := rises_bad.1 hr k hkl
              rw [this] at h
              cases h
          have HBAD := Lib.hid hbad
          clear g1 q1 q2 hbad
          cases so with
          | false =>
            by_cases hk0 : k = 0
            · have d1 : decide ((0 : Int) < (k : Int)) = false := decide_eq_false (by omega)
              have d3 : decide (0 < k) = false := decide_eq_false (by omega)
              have i5 : ¬ (0 : Int) < (k : Int) := by omega
              have HB1 := Lib.hid (show badAt false last l k = false by rw [hfirst hk0]; rfl)
              clear hprev hfirst hk0
              go_upto_region 12 with fail
              refine wp_region_quiet_below (by kernel_rfl) (by kernel_rfl) ?_
              repeat (go_big_quiet_step (fail))
              refine wpQuiet_nil ?_
              intro _ hw'
              obtain ⟨⟨dq, osq⟩, hw''⟩ := hw'
              subst hw''
              have hbq := below_seq hbr (below_regrown wr dq osq)
              go_wp2_with fail
              go_roundw
              case rel =>
                refine ⟨k + 1, by go_num, by omega, fun i hi => ?_, hbq⟩
                by_cases hik : i = k
                · subst hik; exact HB1.out
                · exact HACC.out i (by omega)
              case measure => simp [intOf]; omega
            · obtain ⟨j, hj⟩ : ∃ j, j + 1 = k := ⟨k - 1, by omega⟩
              obtain ⟨sp, hp1, hp2⟩ := hprev j hj
              have f4 := cell_regrown hp1
              have d1 : decide ((0 : Int) < (k : Int)) = true := decide_eq_true (by omega)
              have d3 : decide (0 < k) = true := decide_eq_true (by omega)
              have i5 : (0 : Int) < (k : Int) := by omega
              have i2 : IntKind.i64.wrap ((k : Int) - 1) = (j : Int) := by rw [IntWalk.i64_in _ (by omega)]; omega
              have i3 : (0 : Int) ≤ (j : Int) := by omega
              have i4 : (j : Int) < (Y.length : Int) := by omega
              by_cases hsp : sq ≤ sp
              · have d2 : decide (sq ≤ sp) = true := decide_eq_true hsp
                have HB1 := Lib.hid (show badAt false last l k = true by rw [hp2, d2]; simp)
                clear hprev hfirst hk0 hj hp1 hp2 hsp
                go_upto_region 12 with fail
                refine wp_region_quiet_below (by kernel_rfl) (by kernel_rfl) ?_
                repeat (go_big_quiet_step (fail))
                refine wpQuiet_nil ?_
                intro _ hw'
                obtain ⟨⟨dq, osq⟩, hw''⟩ := hw'
                subst hw''
                have hbq := below_seq hbr (below_regrown wr dq osq)
                go_wp2_with fail
                go_ret
                exact AddR.bad HBB.out (HBAD.out HB1.out) (by decide) hbq
              · have d2 : decide (sq ≤ sp) = false := decide_eq_false hsp
                have HB1 := Lib.hid (show badAt false last l k = false by rw [hp2, d2]; simp)
                clear hprev hfirst hk0 hj hp1 hp2 hsp
                go_upto_region 12 with fail
                refine wp_region_quiet_below (by kernel_rfl) (by kernel_rfl) ?_
                repeat (go_big_quiet_step (fail))
                refine wpQuiet_nil ?_
                intro _ hw'
                obtain ⟨⟨dq, osq⟩, hw''⟩ := hw'
                subst hw''
                have hbq := below_seq hbr (below_regrown wr dq osq)
                go_wp2_with fail
                go_roundw
                case rel =>
                  refine ⟨k + 1, by go_num, by omega, fun i hi => ?_, hbq⟩
                  by_cases hik : i = k
                  · subst hik; exact HB1.out
                  · exact HACC.out i (by omega)
                case measure => simp [intOf]; omega
          | true =>
            by_cases hsl : sq ≤ la
            · have d0 : decide (sq ≤ la) = true := decide_eq_true hsl
              have HB1 := Lib.hid (show badAt true last l k = true by
                by_cases hk0 : k = 0
                · rw [hfirst hk0]; simp [d0]
                · obtain ⟨sp, -, hp2⟩ := hprev (k - 1) (by omega)
                  rw [hp2]; simp [d0])
              clear hprev hfirst hsl
              go_upto_region 12 with fail
              refine wp_region_quiet_below (by kernel_rfl) (by kernel_rfl) ?_
              repeat (go_big_quiet_step (fail))
              refine wpQuiet_nil ?_
              intro _ hw'
              obtain ⟨⟨dq, osq⟩, hw''⟩ := hw'
              subst hw''
              have hbq := below_seq hbr (below_regrown wr dq osq)
              go_wp2_with fail
              go_ret
              exact AddR.bad HBB.out (HBAD.out HB1.out) (by decide) hbq
            · have d0 : decide (sq ≤ la) = false := decide_eq_false hsl
              clear hsl
              by_cases hk0 : k = 0
              · have d1 : decide ((0 : Int) < (k : Int)) = false := decide_eq_false (by omega)
                have d3 : decide (0 < k) = false := decide_eq_false (by omega)
                have i5 : ¬ (0 : Int) < (k : Int) := by omega
                have HB1 := Lib.hid (show badAt true last l k = false by rw [hfirst hk0]; simp [d0])
                clear hprev hfirst hk0
                go_upto_region 12 with fail
                refine wp_region_quiet_below (by kernel_rfl) (by kernel_rfl) ?_
                repeat (go_big_quiet_step (fail))
                refine wpQuiet_nil ?_
                intro _ hw'
                obtain ⟨⟨dq, osq⟩, hw''⟩ := hw'
                subst hw''
                have hbq := below_seq hbr (below_regrown wr dq osq)
                go_wp2_with fail
                go_roundw
                case rel =>
                  refine ⟨k + 1, by go_num, by omega, fun i hi => ?_, hbq⟩
                  by_cases hik : i = k
                  · subst hik; exact HB1.out
                  · exact HACC.out i (by omega)
                case measure => simp [intOf]; omega
              · obtain ⟨j, hj⟩ : ∃ j, j + 1 = k := ⟨k - 1, by omega⟩
                obtain ⟨sp, hp1, hp2⟩ := hprev j hj
                have f4 := cell_regrown hp1
                have d1 : decide ((0 : Int) < (k : Int)) = true := decide_eq_true (by omega)
                have d3 : decide (0 < k) = true := decide_eq_true (by omega)
                have i5 : (0 : Int) < (k : Int) := by omega
                have i2 : IntKind.i64.wrap ((k : Int) - 1) = (j : Int) := by rw [IntWalk.i64_in _ (by omega)]; omega
                have i3 : (0 : Int) ≤ (j : Int) := by omega
                have i4 : (j : Int) < (Y.length : Int) := by omega
                by_cases hsp : sq ≤ sp
                · have d2 : decide (sq ≤ sp) = true := decide_eq_true hsp
                  have HB1 := Lib.hid (show badAt true last l k = true by rw [hp2, d2]; simp)
                  clear hprev hfirst hk0 hj hp1 hp2 hsp
                  go_upto_region 12 with fail
                  refine wp_region_quiet_below (by kernel_rfl) (by kernel_rfl) ?_
                  repeat (go_big_quiet_step (fail))
                  refine wpQuiet_nil ?_
                  intro _ hw'
                  obtain ⟨⟨dq, osq⟩, hw''⟩ := hw'
                  subst hw''
                  have hbq := below_seq hbr (below_regrown wr dq osq)
                  go_wp2_with fail
                  go_ret
                  exact AddR.bad HBB.out (HBAD.out HB1.out) (by decide) hbq
                · have d2 : decide (sq ≤ sp) = false := decide_eq_false hsp
                  have HB1 := Lib.hid (show badAt true last l k = false by rw [hp2, d2]; simp [d0])
                  clear hprev hfirst hk0 hj hp1 hp2 hsp
                  go_upto_region 12 with fail
                  refine wp_region_quiet_below (by kernel_rfl) (by kernel_rfl) ?_
                  repeat (go_big_quiet_step (fail))
                  refine wpQuiet_nil ?_
                  intro _ hw'
                  obtain ⟨⟨dq, osq⟩, hw''⟩ := hw'
                  subst hw''
                  have hbq := below_seq hbr (below_regrown wr dq osq)
                  go_wp2_with fail
                  go_roundw
                  case rel =>
                    refine ⟨k + 1, by go_num, by omega, fun i hi => ?_, hbq⟩
                    by_cases hik : i = k
                    · subst hik; exact HB1.out
                    · exact HACC.out i (by omega)
                  case measure => simp [intOf]; omega
        · have i1 : ¬ (k : Int) < (Y.length : Int) := by omega
          have hri : rises so last l = true := rises_bad.2 fun i hi => HACC.out i (by have := HLL.out; omega)
          have ho := (HS.out.below hbr).obj
          have q0 := cell_own ho (j := 0) rfl
          obtain ⟨la, lc, hlv⟩ := owns_slice HS.out.own
          have HLV := Lib.hid hlv
          rw [hlv] at q0
          have HE3 := Lib.hid (show E = if 65536 < Z.length + Y.length then 3 else 0 by
            have h := HE2.out
            rw [if_neg (by simp [hri]), HLL.out] at h
            exact h)
          have j1 : IntKind.i64.wrap ((Z.length : Int) + (Y.length : Int)) = (Z.length : Int) + (Y.length : Int) := IntWalk.i64_in _ (by omega)
          clear HACC hri ho hlv HE2
          obtain ⟨wb, hwb⟩ : ∃ wa : World, wa = wr := ⟨_, rfl⟩
          subst hwb
          by_cases hbig : 65536 < Z.length + Y.length
          · have HF := Lib.hid (show E = 3 by rw [HE3.out, if_pos hbig])
            have d1 : decide (65536 < (Z.length : Int) + (Y.length : Int)) = true := decide_eq_true (by omega)
            go_wp2_with fail
            go_ret
            exact AddR.bad HBB.out HF.out (by decide) hbr
          · have HF := Lib.hid (show E = 0 by rw [HE3.out, if_neg hbig])
            have d1 : decide (65536 < (Z.length : Int) + (Y.length : Int)) = false := decide_eq_false (by omega)
            have HST := Lib.hid (HS.out.below hbr)
            have HOF := Lib.hid ((Off.refl w q B lv).to hB hbr)
            clear HS
            go_wp2_with fail
            go_loopw [8] (fun iv wr => ∃ (k : Nat) (lvk : Value) (lk : Nat) (sk : Bool), iv = .int .i64 k ∧ k ≤ Y.length ∧ RefS wr q B lk sk lvk (Z ++ Y.take k) ∧ Off w q B lv wr lvk ∧ lk = lastS last ((Y.take k).map Prod.fst) ∧ sk = (so || decide (0 < k))) (fun iv _ => Y.length - (intOf iv).toNat)
            case atStart => exact ⟨0, lv, last, so, rfl, Nat.zero_le _, by simpa using HST.out, HOF.out, rfl, by simp⟩
            case round =>
              obtain ⟨k, lvk, lk, sk, rfl, hk, hS, hO, hlk, hsk⟩ := hrel
              by_cases hlt : k < Y.length
              · obtain ⟨b, off, rfl, hbl, g0, g1, g2, g3⟩ := HCELL.out wr hO.below k hlt
                have hqr : q < wr.heap.size := (Array.getElem?_eq_some_iff.1 hS.obj).1
                have hBr : B ≤ wr.heap.size := Nat.le_trans hS.low (Nat.le_of_lt hqr)
                have htk : Y.take (k + 1) = Y.take k ++ [Y[k]] := List.take_succ_eq_append_getElem hlt
                have hls := lastS_takeR last Y k hlt
                have hzl : (Z ++ Y.take k).length ≤ 65536 := by rw [List.length_append, List.length_take]; omega
                obtain ⟨⟨r, rv⟩, hzz⟩ : ∃ z, Y[k] = z := ⟨_, rfl⟩
                obtain ⟨ya, yc, hlv, -, -⟩ := ((HY.out wr hO.below).2 _ (List.getElem_mem hlt)).1.shape
                rw [hzz] at g0 g1 g2 g3 htk hls hlv
                simp only at g0 g1 g2 g3 hls hlv
                have HSEQ := Lib.hid (fun (W : World) (hW : Below B w W) => (show W.cell? ⟨b, off + k * 4 + 1, none⟩ = some (.int .u64 (r.seq : Int)) from by
                  obtain ⟨b', off', e', -, -, h1, -⟩ := HCELL.out W hW k hlt
                  cases e'
                  rw [hzz] at h1
                  exact h1))
                clear hzz
                subst hlv
                have HMORE := Lib.hid (fun (wx w9 : World) (v9 : Value) => ref_more (w := w) (wr := wr) (wx := wx) (w9 := w9) (q := q) (B := B) (v9 := v9) (z := (r, .slice ya r.labs.length yc)) hS hO)
                have hob := cell_own hS.obj (j := 0) rfl
                obtain ⟨va, vc, rfl⟩ := owns_slice hS.own
                have HOWN := Lib.hid (fun (W : World) (hW : Below wr.heap.size wr W) => (hS.below hW).own)
                have HOB := Lib.hid (fun (W : World) (hW : Below wr.heap.size wr W) => (⟨cell_own (hS.below hW).obj (j := 0) rfl, Lib.frozen_of_heap (hS.below hW).obj 0⟩ : W.cell? ⟨q, 0, none⟩ = some (.slice va (Z ++ Y.take k).length vc) ∧ W.frozen? ⟨q, 0, none⟩ = false))
                have HG := Lib.hid (fun (W : World) (hW : Below wr.heap.size wr W) => (⟨(hW.cell (p := ⟨b, _, none⟩) hbl).trans g0, (hW.cell (p := ⟨b, _, none⟩) hbl).trans g1, (hW.cell (p := ⟨b, _, none⟩) hbl).trans g2, (hW.cell (p := ⟨b, _, none⟩) hbl).trans g3⟩ : W.cell? ⟨b, off + k * 4, none⟩ = some (.int .i64 r.time) ∧ W.cell? ⟨b, off + k * 4 + 1, none⟩ = some (.int .u64 (r.seq : Int)) ∧ W.cell? ⟨b, off + k * 4 + 2, none⟩ = some (.slice ya r.labs.length yc) ∧ W.cell? ⟨b, off + k * 4 + 3, none⟩ = some (.string r.line)))
                have HTK := Lib.hid htk
                have HLS := Lib.hid hls
                obtain ⟨m, hm⟩ : ∃ m, (Z ++ Y.take k).length = m := ⟨_, rfl⟩
                rw [hm] at hob HOB HOWN hzl HMORE
                obtain ⟨X, hX⟩ : ∃ X, Z ++ Y.take k = X := ⟨_, rfl⟩
                rw [hX] at HOWN HMORE
                have HX := Lib.hid hX
                have HLK := Lib.hid hlk
                have HSK := Lib.hid hsk
                have i0 : (0 : Int) ≤ (k : Int) := by omega
                have i1 : (k : Int) < (Y.length : Int) := by omega
                clear hS hO htk hls hm hX g0 g1 g2 g3 hob hlk hsk
                obtain ⟨ta, hta⟩ : ∃ z, r.time = z := ⟨_, rfl⟩
                obtain ⟨sa, hsa⟩ : ∃ z, (r.seq : Int) = z := ⟨_, rfl⟩
                obtain ⟨na, hna⟩ : ∃ z, r.line = z := ⟨_, rfl⟩
                obtain ⟨nl, hnl⟩ : ∃ z, r.labs.length = z := ⟨_, rfl⟩
                have HEQ := Lib.hid (show recCells (r, .slice ya r.labs.length yc) = [.int .i64 ta, .int .u64 sa, .slice ya nl yc, .string na] by rw [← hta, ← hsa, ← hna, ← hnl]; rfl)
                rw [hta, hsa, hna, hnl] at HG
                simp only at HMORE
                rw [hsa] at HMORE HSEQ
                clear hta hsa hna hnl
                obtain ⟨g0, g1, g2, g3⟩ := HG.out wr (Below.refl _ _)
                obtain ⟨o0, o1⟩ := HOB.out wr (Below.refl _ _)
                have hba := belowA (o := .cells #[.int .i64 ta, .int .u64 sa, .slice ya nl yc, .string na] 47) (Below.refl wr.heap.size wr)
                obtain ⟨p0, p1⟩ := HOB.out _ hba
                go_upto_region 19 with fail
                go_region_law (go_loud (refine step_append_src rfl (.tmp 84) (.tmp 89) _ _ (by rfl) B ER _ m (recsCells X) rfl (by exact HOWN.out _ (by (repeat (first | assumption | with_reducible exact Below.refl _ _ | with_reducible refine belowA ?_ | with_reducible refine Below.drew ?_)); done)) _ 1 [.int .i64 ta, .int .u64 sa, .slice ya nl yc, .string na] rfl (by first | exact src_last (cs := #[.int .i64 ta, .int .u64 sa, .slice ya nl yc, .string na]) Tryz.underlying28 1 1 4 rfl rfl (by simp [Value.oneCell']) | (exact src_new (cs := #[.int .i64 ta, .int .u64 sa, .slice ya nl yc, .string na]) (t := 47) (fr := (0, 0)) Tryz.underlying28 1 1 4 (by exact heap_alloc_new wr _) rfl (by simp [Value.oneCell']))) (by unfold maxLen; omega) (by omega) (by simp; omega) ?_; intro v9 w9 hown9 hgr9 _ hloc9; obtain ⟨a9, c9, rfl⟩ := owns_slice hown9; obtain ⟨y1, y2, y3, y4⟩ := HMORE.out _ _ _ (by (repeat (first | assumption | with_reducible exact Below.refl _ _ | with_reducible refine belowA ?_ | with_reducible refine Below.drew ?_)); done) (by rw [HEQ.out]; exact hown9) hgr9 hloc9; have z0 := cell_own y1 (j := 0) rfl; have z1 := cell_own y1 (j := 1) rfl; have z2 := cell_own y1 (j := 2) rfl; have t0 := Lib.frozen_of_heap y1 0; have t1 := Lib.frozen_of_heap y1 1; have t2 := Lib.frozen_of_heap y1 2; have s1 := HSEQ.out _ y2; have Y3 := Lib.hid y3; have Y4 := Lib.hid y4; clear y1 y2 y3 y4))
                all_goals
                  clear g0 g1 g2 g3 o0 o1 p0 p1
                  go_wp2_with fail
                  go_roundw
                  case rel =>
                    refine ⟨k + 1, _, r.seq, true, by go_num, by omega, ?_, Y4.out, HLS.out.symm, by simp⟩
                    rw [HTK.out, ← List.append_assoc, HX.out]
                    exact Y3.out
                  case measure => simp [intOf]; omega
              · obtain rfl : k = Y.length := by omega
                rw [List.take_length] at hS hlk
                subst hlk hsk
                have HSS := Lib.hid hS
                have HOO := Lib.hid hO
                have i1 : ¬ (Y.length : Int) < (Y.length : Int) := by omega
                clear hS hO
                go_wp2_with fail
                go_ret
                exact ⟨by rw [HF.out]; rfl, HOO.out.below, fun h => absurd HF.out h, fun _ => ⟨lvk, HSS.out, HOO.out⟩⟩
end Go.Proofs.YtaimldndooijdaaGreatDoor
