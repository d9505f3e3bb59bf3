/-
  Calls on no head; the state of a script.
-/
import Derived.Test.YtaimldndooijdaaGreatDoorScrTwo
import Derived.Test.YtaimldndooijdaaGreatDoorScrOne
import Derived.Test.YtaimldndooijdaaGreatDoorRecAll
import Derived.Test.YtaimldndooijdaaGreatDoorHeadL
import Derived.Deep.RegionHeld3
namespace Go.Proofs.YtaimldndooijdaaGreatDoor
open Go.RowKit
set_option maxRecDepth 100000 in
theorem head_Add0 (v : Value) (w : World) (hv : ∃ a n c, v = .slice a n c) : Calls Tryz.prog 8 #[.pointer none, v] w fun e w' => e = .returned (.int .i64 2) ∧ w = w' := by
  obtain ⟨a, n, c, rfl⟩ := hv
  go_enter Tryz.func8, Tryz.ntmps8
  go_wp2
  go_ret
  exact ⟨rfl, rfl⟩
set_option maxRecDepth 100000 in
theorem head_All0 (w : World) : Calls Tryz.prog 12 #[.pointer none] w fun e w' => e = .returned (.slice none 0 0) ∧ w = w' := by
  go_enter Tryz.func12, Tryz.ntmps12
  go_wp2
  go_ret
  exact ⟨rfl, rfl⟩
set_option maxRecDepth 100000 in
theorem head_FindN (t : ByteArray) (w : World) : Calls Tryz.prog 15 #[.pointer none, .string t] w fun e w' => e = .returned (.slice none 0 0) ∧ w = w' := by
  go_enter Tryz.func15, Tryz.ntmps15
  go_wp2
  go_ret
  exact ⟨rfl, rfl⟩
set_option maxRecDepth 100000 in
theorem head_Take0 (w : World) : Calls Tryz.prog 17 #[.pointer none] w fun e w' => e = .returned (.slice none 0 0) ∧ w = w' := by
  go_enter Tryz.func17, Tryz.ntmps17
  go_wp2_with (go_at_call 12; refine (head_All0 _).mono ?_; rintro e w1 ⟨rfl, rfl⟩)
  go_ret
  exact ⟨rfl, rfl⟩
set_option maxRecDepth 100000 in
theorem head_Len0 (w : World) : Calls Tryz.prog 19 #[.pointer none] w fun e w' => e = .returned (.int .i64 0) ∧ w = w' := by
  go_enter Tryz.func19, Tryz.ntmps19
  go_wp2
  go_ret
  exact ⟨rfl, rfl⟩
set_option maxRecDepth 100000 in
theorem ref13_Add0 (v : Value) (w : World) (hv : ∃ a n c, v = .slice a n c) : Calls Tryz.prog 9 #[.pointer none, v] w fun e w' => e = .returned (.int .i64 2) ∧ w = w' := by
  obtain ⟨a, n, c, rfl⟩ := hv
  go_enter Tryz.func9, Tryz.ntmps9
  go_wp2
  go_ret
  exact ⟨rfl, rfl⟩
/-- A head and the reference's, behind some calls; all of both lies behind w0. -/
structure Scr (w0 : World) (p q : Nat) (wr : World) (S : HSt) (F : Nat → Prop) (lv : Value) (Z : List RecL) : Prop where
  hd : HeadOn F wr p S.last S.so S.all
  rf : RefS wr q w0.heap.size S.last S.so lv Z
  ok : S.Ok
  eq : Z.map Prod.fst = S.L
  nq : ¬ F q
  nl : ∀ k, lv.ownBlock = some k → ¬ F k
  lo : ∀ k, F k → w0.heap.size ≤ k
  up : ∀ k, F k → k < wr.heap.size
  be : Below w0.heap.size w0 wr
  labs : ∀ z ∈ Z, RecAt w0 z.2 z.1
theorem Scr.stay {w0 wr w' : World} {p q : Nat} {S : HSt} {F : Nat → Prop} {lv : Value} {Z : List RecL} (h : Scr w0 p q wr S F lv Z) (hk : ∀ k, (F k ∨ k = q ∨ lv.ownBlock = some k) → k < wr.heap.size → w'.heap[k]? = wr.heap[k]?) (hb : Below w0.heap.size w0 w') : Scr w0 p q w' S F lv Z := by
  have hq : q < wr.heap.size := (Array.getElem?_eq_some_iff.1 h.rf.obj).1
  refine ⟨h.hd.stay fun k hf hl => hk k (.inl hf) hl, h.rf.keep fun k hk' => hk k (.inr hk') ?_, h.ok, h.eq, h.nq, h.nl, h.lo, fun k hf => ?_, hb, h.labs⟩
  · rcases hk' with rfl | hk'
    · exact hq
    · exact (h.rf.own.lt k hk').2
  · have hl := h.up k hf
    have e := hk k (.inl hf) hl
    rw [Array.getElem?_eq_getElem hl] at e
    exact (Array.getElem?_eq_some_iff.1 e).1
theorem Scr.below {w0 wr w' : World} {p q : Nat} {S : HSt} {F : Nat → Prop} {lv : Value} {Z : List RecL} (h : Scr w0 p q wr S F lv Z) (hb : Below wr.heap.size wr w') : Scr w0 p q w' S F lv Z :=
  h.stay (fun k _ hl => hb.block k hl) (below_seq h.be hb)
theorem Scr.len {w0 wr : World} {p q : Nat} {S : HSt} {F : Nat → Prop} {lv : Value} {Z : List RecL} (h : Scr w0 p q wr S F lv Z) : Z.length = S.all.length ∧ S.all.length ≤ 65536 := by
  have h1 := h.ok.perm.length_eq
  rw [← h.eq, List.length_map] at h1
  obtain ⟨av, mv, ZA, -, -, -, h2, -⟩ := h.hd
  exact ⟨h1.symm, h2⟩
theorem Scr.chk {w0 wr : World} {p q : Nat} {S : HSt} {F : Nat → Prop} {lv : Value} {Z : List RecL} (h : Scr w0 p q wr S F lv Z) : ∀ r ∈ S.all, chkRec r = 0 := by
  obtain ⟨av, mv, ZA, -, -, -, -, h3, -⟩ := h.hd
  exact h3
theorem Scr.row {w0 wr : World} {p q : Nat} {S : HSt} {F : Nat → Prop} {lv : Value} {Z : List RecL} (h : Scr w0 p q wr S F lv Z) : RRow wr lv Z := ⟨argRow_owns h.rf.own, fun z hz => (h.labs z hz).below h.be⟩
/-- The reference's All: the records in order. -/
theorem Scr.all {w0 wr : World} {p q : Nat} {S : HSt} {F : Nat → Prop} {lv : Value} {Z : List RecL} (h : Scr w0 p q wr S F lv Z) :
    Calls Tryz.prog 13 #[.pointer (some ⟨q, 0, none⟩)] wr fun e w' => ∃ v' Z', e = .returned v' ∧ Z'.map Prod.fst = S.all ∧ RRow w' v' Z' ∧ w'.ownsRow wr.heap.size 47 4 v' Z'.length (recsCells Z') ∧ Below wr.heap.size wr w' := by
  obtain ⟨h1, h2⟩ := h.len
  refine (ref13_All q lv S.last S.so Z wr h.rf.obj h.row (by omega)).mono ?_
  rintro e w' ⟨v', Z', rfl, hp, hs, ho, hb⟩
  refine ⟨v', Z', rfl, ?_, ⟨argRow_owns ho, fun z hz => ((h.labs z (hp.mem_iff.1 hz)).below h.be).below hb⟩, ho, hb⟩
  have hpm : (Z'.map Prod.fst).Perm S.all := by
    refine (hp.map Prod.fst).trans ?_
    rw [h.eq]
    exact h.ok.perm.symm
  exact (sorted_unique h.ok.sorted hs h.ok.one hpm.symm).symm
/-- One batch more. -/
theorem Scr.add {w0 w1 w2 w3 w4 : World} {p q : Nat} {S : HSt} {F : Nat → Prop} {lv lv' sv : Value} {Z Y : List RecL} {A' : List Rec} (h : Scr w0 p q w1 S F lv Z) (h12 : Below w1.heap.size w1 w2) (hY : RRow w0 sv Y)
    (h0 : addE S.so S.last S.all.length (Y.map Prod.fst) = 0) (hg : w2.grownBy w3 (some p)) (hp : A'.Perm (S.all ++ Y.map Prod.fst)) (hs : Sorted A') (hH : HeadOn (fun k => F k ∨ w2.heap.size ≤ k ∧ k < w3.heap.size) w3 p (lastS S.last (Y.map Prod.fst)) (S.so || decide (0 < Y.length)) A')
    (hR : RefS w4 q w0.heap.size (lastS S.last (Y.map Prod.fst)) (S.so || decide (0 < Y.length)) lv' (Z ++ Y)) (hO : Off w3 q w0.heap.size lv w4 lv') :
    Scr w0 p q w4 ⟨S.L ++ Y.map Prod.fst, A', lastS S.last (Y.map Prod.fst), S.so || decide (0 < Y.length)⟩ (fun k => F k ∨ w2.heap.size ≤ k ∧ k < w3.heap.size) lv' (Z ++ Y) := by
  obtain ⟨e1, e2, e3⟩ := addE_zero.1 h0
  have hs12 := h12.size
  have hs23 := hg.size
  have hq : q < w1.heap.size := (Array.getElem?_eq_some_iff.1 h.rf.obj).1
  have hw01 := h.be.size
  have hs34 := hO.below.size
  refine ⟨hH.stay fun k hk hl => hO.off k hl ?_ ?_, hR, ?_, by rw [List.map_append, h.eq], ?_, ?_, ?_, ?_, ?_, ?_⟩
  · rintro rfl
    rcases hk with hk | hk
    · exact h.nq hk
    · omega
  · intro hv
    rcases hk with hk | hk
    · exact h.nl k hv hk
    · have := (h.rf.own.lt k hv).2
      omega
  · have hok := h.ok.add e2 hp hs
    have hd : decide (0 < Y.length) = decide (Y.map Prod.fst ≠ []) := by
      cases Y <;> simp
    rw [hd]
    exact hok
  · rintro (hk | hk)
    · exact h.nq hk
    · omega
  · rintro k hv hk
    rcases hO.loc with e | e
    · rw [e] at hv
      rcases hk with hk | hk
      · exact h.nl k hv hk
      · have := (h.rf.own.lt k hv).2
        omega
    · have := e k hv
      have hlt := (hR.own.lt k hv).2
      rcases hk with hk | hk
      · have := h.up k hk
        omega
      · omega
  · rintro k (hk | hk)
    · exact h.lo k hk
    · omega
  · rintro k (hk | hk)
    · have := h.up k hk
      omega
    · omega
  · exact hO.below |> fun b => by
      have b1 : Below w0.heap.size w0 w2 := below_seq h.be h12
      have b2 : Below w0.heap.size w0 w3 := b1.grown hg (by omega) (fun k hk => by cases hk; exact h.lo p h.hd.foot)
      exact b2.trans b
  · intro z hz
    rcases List.mem_append.1 hz with hz | hz
    · exact h.labs z hz
    · exact hY.2 z hz
end Go.Proofs.YtaimldndooijdaaGreatDoor
/-
  A script's calls, as steps of its state.
-/
namespace Go.Proofs.YtaimldndooijdaaGreatDoor
open Go.RowKit
theorem cell_sameS {w w' : World} {b : Nat} (h : w'.heap[b]? = w.heap[b]?) (j : Nat) : w'.cell? ⟨b, j, none⟩ = w.cell? ⟨b, j, none⟩ := by
  unfold World.cell?
  simp only [h]
/-- Behind a call: records in memory of their own between B and C, that the heads have nothing of. -/
def FinS (w1 : World) (p q B C : Nat) (v : Value) (M : List RecL) (w : World) : Prop :=
  ∃ S F lv Z, Scr w1 p q w S F lv Z ∧ ROwn w B v M ∧ (∀ k, F k → k < B ∨ C ≤ k) ∧ (∀ k, lv.ownBlock = some k → k < B ∨ C ≤ k) ∧ q < B ∧ w1.heap.size ≤ B ∧ (∀ k, v.ownBlock = some k → k < C) ∧ ∀ z ∈ M, ∀ k, z.2.ownBlock = some k → k < C
theorem FinS.below {w1 w w' : World} {p q B C : Nat} {v : Value} {M : List RecL} (h : FinS w1 p q B C v M w) (hb : Below w.heap.size w w') : FinS w1 p q B C v M w' := by
  obtain ⟨S, F, lv, Z, hS, hM, h1⟩ := h
  exact ⟨S, F, lv, Z, hS.below hb, hM.keptB hb, h1⟩
theorem FinS.same {w1 w : World} {p q B C : Nat} {v : Value} {M : List RecL} (h : FinS w1 p q B C v M w) {u : Value} {Y : List RecL} (hY : RRow w u Y) (he : M.map Prod.fst = Y.map Prod.fst) (hl : M.length ≤ 1000000000) :
    Calls Tryz.prog 10 #[v, u] w fun e w' => e = .returned (.bool true) ∧ FinS w1 p q B C v M w' := by
  have h' := h
  obtain ⟨S, F, lv, Z, hS, hM, -⟩ := h'
  refine (rrec_SameAll v u M Y w hM.row hY hl).mono ?_
  rintro e w' ⟨h1, h2⟩
  rw [decide_eq_true he] at h1
  exact ⟨h1, h.below h2⟩
theorem FinS.sameB {w1 w : World} {p q B C : Nat} {v : Value} {M : List RecL} (h : FinS w1 p q B C v M w) {u : Value} {Y : List RecL} (hY : RRow w u Y) (he : M.map Prod.fst = Y.map Prod.fst) (hl : M.length ≤ 1000000000) :
    Calls Tryz.prog 10 #[v, u] w fun e w' => e = .returned (.bool true) ∧ FinS w1 p q B C v M w' ∧ Below w.heap.size w w' := by
  have h' := h
  obtain ⟨S, F, lv, Z, hS, hM, -⟩ := h'
  refine (rrec_SameAll v u M Y w hM.row hY hl).mono ?_
  rintro e w' ⟨h1, h2⟩
  rw [decide_eq_true he] at h1
  exact ⟨h1, h.below h2, h2⟩
theorem FinS.be1 {w1 w : World} {p q B C : Nat} {v : Value} {M : List RecL} (h : FinS w1 p q B C v M w) : Below w1.heap.size w1 w := by
  obtain ⟨S, F, lv, Z, hS, -⟩ := h
  exact hS.be
theorem FinS.slice {w1 w : World} {p q B C : Nat} {v : Value} {M : List RecL} (h : FinS w1 p q B C v M w) : ∃ a c, v = .slice a M.length c := by
  obtain ⟨S, F, lv, Z, hS, hM, -⟩ := h
  exact owns_slice hM.own
theorem FinS.spoil {w1 w : World} {p q B C : Nat} {v : Value} {M : List RecL} (h : FinS w1 p q B C v M w) (hl : M.length ≤ 2000000) :
    Calls Tryz.prog 11 #[v] w fun e w' => e = .returned (.tuple #[]) ∧ ∃ S F lv Z, Scr w1 p q w' S F lv Z := by
  obtain ⟨S, F, lv, Z, hS, hM, h1, h2, h3, h4, h5, h6⟩ := h
  refine (law_spoil v M B C w hM hl h5 h6).mono ?_
  rintro e w' ⟨he, hb, hk⟩
  refine ⟨he, S, F, lv, Z, hS.stay (fun k hk' _ => hk k ?_) (hS.be.trans (hb.mono h4))⟩
  rcases hk' with hf | rfl | hf
  · exact h1 k hf
  · exact .inl h3
  · exact h2 k hf
theorem ROwn.grown {w w' : World} {B p : Nat} {v : Value} {Z : List RecL} (h : ROwn w B v Z) (hg : w.grownBy w' (some p)) (hp : p < B) : ROwn w' B v Z :=
  ⟨own_kept h.own hg (fun k hk => by cases hk; exact hp), fun z hz => by
    have h1 := own_kept (h.labs z hz).1 hg (fun k hk => by cases hk; exact hp)
    exact ⟨h1, LRow_own h1, (h.labs z hz).2.2⟩⟩
/-- All. -/
theorem Scr.hall {w1 w : World} {p q : Nat} {S : HSt} {F : Nat → Prop} {lv : Value} {Z : List RecL} (h : Scr w1 p q w S F lv Z) :
    Calls Tryz.prog 12 #[.pointer (some ⟨p, 0, none⟩)] w fun e w' => ∃ v' M, e = .returned v' ∧ M.map Prod.fst = S.all ∧ FinS w1 p q w.heap.size w'.heap.size v' M w' ∧ Scr w1 p q w' S F lv Z := by
  refine (hd_All h.hd.at).mono ?_
  rintro e w' ⟨v', M, rfl, hM, ho, hb⟩
  have h' := h.below hb
  refine ⟨v', M, rfl, hM, ⟨S, F, lv, Z, h', ho, fun k hk => .inl (h.up k hk), fun k hk => .inl (h.rf.own.lt k hk).2, (Array.getElem?_eq_some_iff.1 h.rf.obj).1, h.be.size, fun k hk => (ho.own.lt k hk).2, fun z hz k hk => ((ho.labs z hz).1.lt k hk).2⟩, h'⟩
/-- What is between the two Takes. -/
structure Half (w1 : World) (p q B C : Nat) (v : Value) (M : List RecL) (w : World) (S : HSt) (lv : Value) (Z : List RecL) : Prop where
  hd : HeadOn (fun k => k = p) w p S.last S.so []
  rf : RefS w q w1.heap.size S.last S.so lv Z
  row : ROwn w B v M
  ok : S.Ok
  eq : Z.map Prod.fst = S.L
  len : S.all.length ≤ 65536
  be : Below w1.heap.size w1 w
  labs : ∀ z ∈ Z, RecAt w1 z.2 z.1
  pB : p < B
  qB : q < B
  ne : p ≠ q
  low : w1.heap.size ≤ p
  lB : w1.heap.size ≤ B
  top : ∀ k, v.ownBlock = some k → k < C
  topl : ∀ z ∈ M, ∀ k, z.2.ownBlock = some k → k < C
theorem Scr.htake {w1 w : World} {p q : Nat} {S : HSt} {F : Nat → Prop} {lv : Value} {Z : List RecL} (h : Scr w1 p q w S F lv Z) :
    Calls Tryz.prog 17 #[.pointer (some ⟨p, 0, none⟩)] w fun e w' => ∃ v' M, e = .returned v' ∧ M.map Prod.fst = S.all ∧ Half w1 p q w.heap.size w'.heap.size v' M w' S lv Z := by
  have hne : p ≠ q := fun e => h.nq (e ▸ h.hd.foot)
  have hq : q < w.heap.size := (Array.getElem?_eq_some_iff.1 h.rf.obj).1
  refine (hd_TakeOn h.hd).mono ?_
  rintro e w' ⟨v', M, rfl, hM, ho, hH, hg⟩
  refine ⟨v', M, rfl, hM, hH, h.rf.keep fun k hk => ?_, ho, h.ok, h.eq, h.len.2, h.be.grown hg h.be.size (fun k hk => by cases hk; exact h.lo p h.hd.foot), h.labs, h.hd.lt, hq, hne, h.lo p h.hd.foot, h.be.size, fun k hk => (ho.own.lt k hk).2, fun z hz k hk => ((ho.labs z hz).1.lt k hk).2⟩
  rcases hk with rfl | hk
  · exact hg.block k hq (fun e => hne (Option.some.inj e).symm)
  · exact hg.block k (h.rf.own.lt k hk).2 (fun e => h.nl k hk (by cases e; exact h.hd.foot))
theorem Half.take {w1 w : World} {p q B C : Nat} {v : Value} {M : List RecL} {S : HSt} {lv : Value} {Z : List RecL} (h : Half w1 p q B C v M w S lv Z) :
    Calls Tryz.prog 18 #[.pointer (some ⟨q, 0, none⟩)] w fun e w' => ∃ v' Z', e = .returned v' ∧ Z'.map Prod.fst = S.all ∧ RRow w' v' Z' ∧ FinS w1 p q B C v M w' := by
  have hl : Z.length ≤ 65536 := by
    have h1 := h.ok.perm.length_eq
    rw [← h.eq, List.length_map] at h1
    have := h.len
    omega
  have hrow : RRow w lv Z := ⟨argRow_owns h.rf.own, fun z hz => (h.labs z hz).below h.be⟩
  have hlow := h.rf.low
  refine (ref13_Take q lv S.last S.so Z w h.rf.obj hrow hl).mono ?_
  rintro e w' ⟨v', Z', rfl, hp, hs, ho, hobj, hg⟩
  have hbe : Below w1.heap.size w1 w' := h.be.grown hg h.be.size (fun k hk => by cases hk; exact hlow)
  refine ⟨v', Z', rfl, ?_, ⟨argRow_owns ho, fun z hz => (h.labs z (hp.mem_iff.1 hz)).below hbe⟩, ⟨S.take, fun k => k = p, .slice none 0 0, [], ⟨?_, ⟨hobj, World.ownsRow_nil _ _ _ _, hlow⟩, HSt.take_ok S, rfl, fun e => h.ne e.symm, fun k hk => (by cases hk), fun k hk => (by rw [hk]; exact h.low), fun k hk => ?_, hbe, fun z hz => (by cases hz)⟩, h.row.grown hg h.qB, fun k hk => .inl (by rw [hk]; exact h.pB), fun k hk => (by cases hk), h.qB, h.lB, h.top, h.topl⟩⟩
  · have hpm : (Z'.map Prod.fst).Perm S.all := by
      refine (hp.map Prod.fst).trans ?_
      rw [h.eq]
      exact h.ok.perm.symm
    exact (sorted_unique h.ok.sorted hs h.ok.one hpm.symm).symm
  · exact h.hd.stay fun k hk hl' => by
      rw [hk] at hl' ⊢
      exact hg.block p hl' (fun e => h.ne (Option.some.inj e))
  · have := h.hd.lt
    have := hg.size
    rw [hk]
    omega
/-- Add, of the head; then of the reference's. -/
def Mid (w1 : World) (p q B C : Nat) (v : Value) (M Y : List RecL) (S : HSt) (F : Nat → Prop) (lv : Value) (Z : List RecL) (wd w3 : World) : Prop :=
  wd.grownBy w3 (some p) ∧ (addE S.so S.last S.all.length (Y.map Prod.fst) ≠ 0 → Below wd.heap.size wd w3) ∧
  (addE S.so S.last S.all.length (Y.map Prod.fst) = 0 → ∃ A', A'.Perm (S.all ++ Y.map Prod.fst) ∧ Sorted A' ∧ HeadOn (fun k => F k ∨ wd.heap.size ≤ k ∧ k < w3.heap.size) w3 p (lastS S.last (Y.map Prod.fst)) (S.so || decide (0 < Y.length)) A')
theorem Scr.hadd {w1 wd : World} {p q B : Nat} {v : Value} {M Y : List RecL} {S : HSt} {F : Nat → Prop} {lv : Value} {Z : List RecL} (h : Scr w1 p q wd S F lv Z) (hT : Tabs wd) (hM : ROwn wd B v M) (he : M.map Prod.fst = Y.map Prod.fst) (hpB : p < B) (hl : M.length ≤ 2000000) (C : Nat) :
    Calls Tryz.prog 8 #[.pointer (some ⟨p, 0, none⟩), v] wd fun e w3 => e = .returned (.int .i64 (addE S.so S.last S.all.length (Y.map Prod.fst))) ∧ Mid w1 p q B C v M Y S F lv Z wd w3 := by
  have hml : M.length = Y.length := by
    have := congrArg List.length he
    rwa [List.length_map, List.length_map] at this
  have hc := hd_AddOn h.hd hT v M (fun W hW => (hM.grown hW hpB).row) hl
  rw [he, hml] at hc
  refine hc.mono ?_
  rintro e w3 ⟨h1, h2, h3⟩
  refine ⟨h1, ?_, h2, fun h0 => (h3 h0).2⟩
  by_cases h0 : addE S.so S.last S.all.length (Y.map Prod.fst) = 0
  · exact (h3 h0).1
  · exact grown_of_below (h2 h0) _
theorem Mid.radd {w1 wd w3 : World} {p q B C : Nat} {v sv : Value} {M Y : List RecL} {S : HSt} {F : Nat → Prop} {lv : Value} {Z : List RecL} (hm : Mid w1 p q B C v M Y S F lv Z wd w3) (h : Scr w1 p q wd S F lv Z) (hM : ROwn wd B v M) (hY : RRow w1 sv Y) (hYl : Y.length ≤ 2000000)
    (hpB : p < B) (hqB : q < B) (hF : ∀ k, F k → k < B) (hlv : ∀ k, lv.ownBlock = some k → k < B) (hB : w1.heap.size ≤ B) (hC : C ≤ wd.heap.size) (h5 : ∀ k, v.ownBlock = some k → k < C) (h6 : ∀ z ∈ M, ∀ k, z.2.ownBlock = some k → k < C) :
    Calls Tryz.prog 9 #[.pointer (some ⟨q, 0, none⟩), sv] w3 fun e w4 => e = .returned (.int .i64 (addE S.so S.last S.all.length (Y.map Prod.fst))) ∧ FinS w1 p q B C v M w4 ∧ ∀ k, k < wd.heap.size → k ≠ p → k ≠ q → lv.ownBlock ≠ some k → w4.heap[k]? = wd.heap[k]? := by
  obtain ⟨hg, hbad, hok⟩ := hm
  obtain ⟨l1, l2⟩ := h.len
  have hne : p ≠ q := fun e => h.nq (e ▸ h.hd.foot)
  have hq : q < wd.heap.size := (Array.getElem?_eq_some_iff.1 h.rf.obj).1
  have hs := hg.size
  have hbe3 : Below w1.heap.size w1 w3 := h.be.grown hg h.be.size (fun k hk => by cases hk; exact h.lo p h.hd.foot)
  have hrf : RefS w3 q w1.heap.size S.last S.so lv Z := h.rf.keep fun k hk => by
    rcases hk with rfl | hk
    · exact hg.block k hq (fun e => hne (Option.some.inj e).symm)
    · exact hg.block k (h.rf.own.lt k hk).2 (fun e => h.nl k hk (by cases e; exact h.hd.foot))
  have hM3 := hM.grown hg hpB
  have hR := ref13_Add q w1.heap.size S.last S.so lv sv Z Y w3 hrf (fun W hW => hY.below (hbe3.trans hW)) hYl (by omega)
  rw [l1] at hR
  refine hR.mono ?_
  rintro e w4 ⟨h1, hb4, hbad4, hok4⟩
  refine ⟨h1, ?_⟩
  by_cases h0 : addE S.so S.last S.all.length (Y.map Prod.fst) = 0
  · obtain ⟨A', hp, hsr, hH⟩ := hok h0
    obtain ⟨lv', hR4, hO⟩ := hok4 h0
    have hS4 := h.add (w2 := wd) (Below.refl _ _) hY h0 hg hp hsr hH hR4 hO
    have hst : ∀ k, k < w3.heap.size → k ≠ q → lv.ownBlock ≠ some k → w4.heap[k]? = w3.heap[k]? := hO.off
    refine ⟨⟨_, _, lv', _, hS4, hM3.stay (fun k hk => hst k (hM3.own.lt k hk).2 ?_ ?_) (fun z hz k hk => hst k ((hM3.labs z hz).1.lt k hk).2 ?_ ?_), ?_, ?_, hqB, hB, h5, h6⟩, fun k k1 k2 k3 k4 => ?_⟩
    · have := (hM3.own.lt k hk).1
      omega
    · intro hl
      have := (hM3.own.lt k hk).1
      have := hlv k hl
      omega
    · have := ((hM3.labs z hz).1.lt k hk).1
      omega
    · intro hl
      have := ((hM3.labs z hz).1.lt k hk).1
      have := hlv k hl
      omega
    · rintro k (hk | hk)
      · exact .inl (hF k hk)
      · exact .inr (by omega)
    · intro k hk
      rcases hO.loc with e | e
      · rw [e] at hk
        exact .inl (hlv k hk)
      · have := e k hk
        exact .inr (by omega)
    · rw [hst k (by omega) k3 k4]
      exact hg.block k k1 (fun e => k2 (Option.some.inj e))
  · have hb3 := hbad h0
    have hb34 := hbad4 h0
    have hbb := below_seq hb3 hb34
    exact ⟨⟨S, F, lv, Z, h.below hbb, hM.keptB hbb, fun k hk => .inl (hF k hk), fun k hk => .inl (hlv k hk), hqB, hB, h5, h6⟩, fun k k1 _ _ _ => hbb.block k k1⟩
end Go.Proofs.YtaimldndooijdaaGreatDoor
/-
  The walk of HeadScripts.
-/
namespace Go.Proofs.YtaimldndooijdaaGreatDoor
open Go.RowKit
/-- One call: its kind, its text, its records. -/
abbrev OpL := Int × ByteArray × Value × List RecL
def opCells (x : OpL) : List Value := [.int .i64 x.1, .string x.2.1, x.2.2.1]
def opsCells (L : List OpL) : List Value := L.flatMap opCells
theorem opsCells_len (L : List OpL) : (opsCells L).length = L.length * 3 := by
  unfold opsCells
  induction L with
  | nil => rfl
  | cons x L ih => rw [List.flatMap_cons, List.length_append, ih, List.length_cons]; simp [opCells]; omega
def OpRow (w : World) (v : Value) (L : List OpL) : Prop := argRow w v L.length 3 (opsCells L) ∧ ∀ x ∈ L, RRow w x.2.2.1 x.2.2.2 ∧ x.2.2.2.length ≤ 1048576 ∧ x.2.1.size ≤ 1000000000
theorem OpRow.below {w w' : World} {v : Value} {L : List OpL} (h : OpRow w v L) (hb : Below w.heap.size w w') : OpRow w' v L := ⟨argRow_below h.1 hb, fun x hx => ⟨(h.2 x hx).1.below hb, (h.2 x hx).2⟩⟩
theorem opsCells_at (L : List OpL) (i : Nat) (h : i < L.length) (j : Nat) (hj : j < 3) : (opsCells L)[i * 3 + j]? = (opCells L[i])[j]? := by
  have e : L = L.take i ++ L[i] :: L.drop (i + 1) := by rw [← List.drop_eq_getElem_cons h, List.take_append_drop]
  have e2 : (opsCells (L.take i)).length = i * 3 := by rw [opsCells_len, List.length_take, Nat.min_eq_left (by omega)]
  have e3 : opsCells L = opsCells (L.take i) ++ (opCells L[i] ++ opsCells (L.drop (i + 1))) := by
    have : opsCells (L.take i ++ L[i] :: L.drop (i + 1)) = opsCells (L.take i) ++ (opCells L[i] ++ opsCells (L.drop (i + 1))) := by
      unfold opsCells
      rw [List.flatMap_append, List.flatMap_cons]
    rw [← this, ← e]
  rw [e3, List.getElem?_append_right (by omega), e2, show i * 3 + j - i * 3 = j by omega, List.getElem?_append_left (by simp [opCells]; omega)]
theorem OpRow.at {w : World} {a : Option Addr} {n c : Nat} {L : List OpL} (h : OpRow w (.slice a n c) L) {k : Nat} (hk : k < L.length) :
    ∃ b off, a = some ⟨b, off, none⟩ ∧ b < w.heap.size ∧ w.cell? ⟨b, off + k * 3, none⟩ = some (.int .i64 L[k].1) ∧ w.cell? ⟨b, off + k * 3 + 1, none⟩ = some (.string L[k].2.1) ∧ w.cell? ⟨b, off + k * 3 + 2, none⟩ = some L[k].2.2.1 := by
  obtain ⟨⟨hl, a', c', e, _, _, hc⟩, _⟩ := h
  cases e
  obtain ⟨b, off, rfl, hb, hcs⟩ := hc (by omega)
  have hat : ∀ j (hj : j < 3) u, (opCells L[k])[j]? = some u → w.cell? ⟨b, off + (k * 3 + j), none⟩ = some u := fun j hj u hu => by
    have hlt : k * 3 + j < (opsCells L).length := by rw [opsCells_len]; omega
    rw [hcs _ hlt]
    have := opsCells_at L k hk j hj
    rw [List.getElem?_eq_getElem hlt, hu] at this
    exact this
  exact ⟨b, off, rfl, hb, hat 0 (by omega) _ rfl, hat 1 (by omega) _ rfl, hat 2 (by omega) _ rfl⟩
theorem plI_lenS (t : Txt) (L : List Rec) : (plI t L).length ≤ L.length := by
  unfold plI
  rw [List.length_map]
  exact places_len t L 0
set_option maxRecDepth 100000 in
set_option maxHeartbeats 40000000 in
theorem scripts_some (v : Value) (L : List OpL) (w : World) (hT : Tabs w) (hO : OpRow w v L) (hL : L.length ≤ 1048576) :
    Calls Tryz.prog 3 #[v, .bool false] w fun e w' => e = .returned (.bool true) ∧ Below w.heap.size w w' := by
  have CA := law13_awake w hT
  have HT := Lib.hid hT
  have HO := Lib.hid hO
  have hsv : ∃ a c, v = .slice a L.length c := by
    obtain ⟨⟨_, a, c, rfl, -⟩, -⟩ := hO
    exact ⟨a, c, rfl⟩
  obtain ⟨sa, sc, rfl⟩ := hsv
  clear hT hO
  go_enter Tryz.func3, Tryz.ntmps3
  go_upto_region 3 with (go_at_call 4; refine CA.mono ?_; rintro e w1 ⟨rfl, hb1⟩)
  have HB1 := Lib.hid hb1
  clear hb1 CA
  go_upto_region 4 with (go_at_call 5; refine (hd_NewOn _).mono ?_; rintro e w2 ⟨rfl, hH2, hb2, hs2⟩)
  go_upto_region 5 with (go_at_call 6; refine (ref13_New _).mono ?_; rintro e w3 ⟨rfl, rfl⟩)
  have hb3 := belowA (o := refObj (.slice none 0 0) 0 false) (Below.refl w2.heap.size w2)
  have hst : Scr w1 w1.heap.size w2.heap.size (w2.alloc (refObj (.slice none 0 0) 0 false)) HSt.empty (fun k => k = w1.heap.size) (.slice none 0 0) [] :=
    ⟨hH2.below hb3, ⟨heap_alloc_new _ _, World.ownsRow_nil _ _ _ _, by omega⟩, HSt.empty_ok, rfl, fun h => by omega, fun k hk => (by cases hk), fun k hk => by omega, fun k hk => by rw [hk]; simp; omega, hb2.trans (hb3.mono (by omega)), fun z hz => by cases hz⟩
  obtain ⟨p, hp⟩ : ∃ p, w1.heap.size = p := ⟨_, rfl⟩
  obtain ⟨q, hq⟩ : ∃ q, w1.heap.size + 1 = q := ⟨_, rfl⟩
  rw [hs2, hq, hp] at hst
  have HST := Lib.hid hst
  rw [hq, hp]
  clear hst hH2 hb2 hs2 hb3 hp hq
  go_wp2
  go_loopw [7] (fun iv wr => ∃ (k : Nat) (S : HSt) (F : Nat → Prop) (lv : Value) (Z : List RecL), iv = .int .i64 k ∧ k ≤ L.length ∧ Scr w1 p q wr S F lv Z) (fun iv _ => L.length - (intOf iv).toNat)
  case atStart => exact ⟨0, _, _, _, _, rfl, Nat.zero_le _, HST.out⟩
  case round =>
    obtain ⟨k, S, F, lv, Z, rfl, hk, hS⟩ := hrel
    by_cases hlt : k < L.length
    · have hbw := below_seq HB1.out hS.be
      obtain ⟨b, off, rfl, hbl, g0, g1, g2⟩ := (HO.out.below hbw).at hlt
      obtain ⟨hop, hopl, hopt⟩ := (HO.out.below HB1.out).2 _ (List.getElem_mem hlt)
      obtain ⟨⟨kind, term, sv, Y⟩, hx⟩ : ∃ x, L[k] = x := ⟨_, rfl⟩
      rw [hx] at g0 g1 g2 hop hopl hopt
      simp only at g0 g1 g2 hop hopl hopt
      clear hx
      obtain ⟨ya, yc, rfl, -, -⟩ := hop.shape
      have i0 : (0 : Int) ≤ (k : Int) := by omega
      have i1 : (k : Int) < (L.length : Int) := by omega
      go_upto_region 12 with fail
      have hba := belowA (o := .cells #[.int .i64 kind, .string term, .slice ya Y.length yc] 30) (Below.refl wr.heap.size wr)
      have hxa := heap_alloc_new wr (.cells #[.int .i64 kind, .string term, .slice ya Y.length yc] 30)
      have hSa := hS.below hba
      have hpx : p < wr.heap.size := hS.hd.lt
      have hqx : q < wr.heap.size := (Array.getElem?_eq_some_iff.1 hS.rf.obj).1
      have HUP := Lib.hid hS.up
      have hbx : wr.heap.size < (wr.alloc (.cells #[.int .i64 kind, .string term, .slice ya Y.length yc] 30)).heap.size := by simp
      obtain ⟨bx, hbxe⟩ : ∃ bx, wr.heap.size = bx := ⟨_, rfl⟩
      obtain ⟨wa, hwa⟩ : ∃ W, wr.alloc (.cells #[.int .i64 kind, .string term, .slice ya Y.length yc] 30) = W := ⟨_, rfl⟩
      rw [hwa] at hba hxa hSa hbx ⊢
      rw [hbxe] at hxa hpx hqx hbx HUP ⊢
      have hbwa := below_seq hbw hba
      have c0 := cell_own hxa (j := 0) rfl
      have HXA := Lib.hid hxa
      have hopa := fun W (hW : Below w1.heap.size w1 W) => hop.below hW
      have HOP := Lib.hid hopa
      have HSA := Lib.hid hSa
      have HTA := Lib.hid (fun W (hW : Below w.heap.size w W) => Utf8Tabs_below HT.out hW)
      have HBWA := Lib.hid hbwa
      clear hwa hbxe hba hxa hSa hS hop hopa g0 g1 g2 hbw hbwa hbl
      go_upto_block 2 with fail
      go_cut [9, 10, 11] from 29 to 86 (fun _ _ _ wx => ∃ (S : HSt) (F : Nat → Prop) (lv : Value) (Z : List RecL), Scr w1 p q wx S F lv Z)
      case first =>
        by_cases k1 : kind = 1
        · subst k1
          have e1 : ((1 : Int) == 1) = true := rfl
          have c2 := cell_own HXA.out (j := 2) rfl
          have CC := law_copied (.slice ya Y.length yc) Y wa (HOP.out wa HSA.out.be) (by omega)
          go_upto_region 15 with (go_at_call 7; refine CC.mono ?_; rintro e w2 ⟨v2, M, rfl, hM, hMo, hb2⟩)
          obtain ⟨ma, mc, hmv⟩ := owns_slice hMo.own
          have hMl : M.length = Y.length := by
            have := congrArg List.length hM
            rwa [List.length_map, List.length_map] at this
          rw [hMl] at hmv
          subst hmv
          have hMl2 : M.length ≤ 1048576 := by omega
          clear hMl
          have hbd : Below w2.heap.size w2 w2.drew := (Below.refl _ _).drew
          have HBX := Lib.hid (fun W (hW : Below w2.heap.size w2 W) => ((below_seq hb2 hW).cell (p := ⟨bx, 2, none⟩) hbx).trans c2)
          have hSd := HSA.out.below (below_seq hb2 hbd)
          have hMd := hMo.keptB hbd
          have hTd := HTA.out _ (below_seq HBWA.out (below_seq hb2 hbd))
          have hs2 := hb2.size
          have hpB : p < wa.heap.size := by omega
          have hqB : q < wa.heap.size := by omega
          have CAD := hSd.hadd (Y := Y) hTd hMd hM hpB (by omega) w2.heap.size
          have hds : w2.drew.heap.size = w2.heap.size := rfl
          have HCM := Lib.hid (show ∀ w3, Mid w1 p q wa.heap.size w2.heap.size (.slice ma Y.length mc) M Y S F lv Z w2.drew w3 → w2.drew.grownBy w3 (some p) from fun w3 h => h.1)
          have CRA := Lib.hid (fun w3 (hm : Mid w1 p q wa.heap.size w2.heap.size (.slice ma Y.length mc) M Y S F lv Z w2.drew w3) => hm.radd hSd hMd (HOP.out w1 (Below.refl _ _)) (by omega) hpB hqB (fun k hk => by have := HUP.out k hk; omega) (fun k hk => (HSA.out.rf.own.lt k hk).2) HSA.out.be.size (by omega) (fun k hk => (hMo.own.lt k hk).2) (fun z hz k hk => ((hMo.labs z hz).1.lt k hk).2))
          have CSA := Lib.hid (fun w4 (hf : FinS w1 p q wa.heap.size w2.heap.size (.slice ma Y.length mc) M w4) => hf.sameB (HOP.out w4 hf.be1) hM (by omega))
          have hlvx : lv.ownBlock ≠ some bx := fun e => by
            have h1 := HSA.out.rf.own.lt bx e
            exact own_typed HSA.out.rf.own HXA.out (by decide) e
          have HBX3 := Lib.hid (fun w3 (hm : Mid w1 p q wa.heap.size w2.heap.size (.slice ma Y.length mc) M Y S F lv Z w2.drew w3) => (show w3.cell? ⟨bx, 2, none⟩ = some (.slice ya Y.length yc) by
            rw [cell_sameS (hm.1.block bx (by omega) (fun e => by have := Option.some.inj e; omega))]
            exact HBX.out _ hbd))
          have HBX4 := Lib.hid (fun (w4 : World) (hk : ∀ k, k < w2.drew.heap.size → k ≠ p → k ≠ q → lv.ownBlock ≠ some k → w4.heap[k]? = w2.drew.heap[k]?) => (show w4.cell? ⟨bx, 2, none⟩ = some (.slice ya Y.length yc) by
            rw [cell_sameS (hk bx (by omega) (by omega) (by omega) hlvx)]
            exact HBX.out _ hbd))
          have HBX5 := Lib.hid (fun (w4 w5 : World) (hk : ∀ k, k < w2.drew.heap.size → k ≠ p → k ≠ q → lv.ownBlock ≠ some k → w4.heap[k]? = w2.drew.heap[k]?) (h45 : Below w4.heap.size w4 w5) => (show w5.cell? ⟨bx, 2, none⟩ = some (.slice ya Y.length yc) by
            rw [cell_sameS (h45.block bx (World.block_lt_of_cell? w4 _ (HBX4.out w4 hk)))]
            exact HBX4.out w4 hk))
          obtain ⟨E, hE⟩ : ∃ E, addE S.so S.last S.all.length (Y.map Prod.fst) = E := ⟨_, rfl⟩
          rw [hE] at CAD CRA
          have e0 : (E != E) = false := by simp
          clear c2 CC hMo hMd hSd hTd hds hs2 hb2 hE hM
          refine wp_region_held_drew (S := fun W => W.cell? ⟨bx, 2, none⟩ = some (.slice ya Y.length yc)) (by kernel_rfl) (HBX.out _ hbd) (fun hHeld => ?_)
          generalize hdr : w2.drew = wd at *
          clear hdr
          refine wpAnyH_take (i := 0) (oi := { dst := some 34, op := _, type := _, pos := _, after := _, guard := _ }) (v := ?v0) rfl (by kernel_rfl) (by kernel_rfl) (by kernel_rfl) (fun _ _ _ h => h) (Or.inl ⟨by rfl, ?y0⟩) (by assumption) ?r0
          case y0 => (intro w hSw; (try dsimp only at hSw); go_simp; try with_reducible rfl)
          try simp only [Act.put, List.setIfInBounds_toArray, List.set_cons_zero, List.set_cons_succ]
          refine wpAnyH_take (i := 1) (oi := { dst := some 35, op := _, type := _, pos := _, after := _, guard := _ }) (v := ?v1) rfl (by kernel_rfl) (by kernel_rfl) (by kernel_rfl) (fun _ _ _ h => h) (Or.inl ⟨by rfl, ?y1⟩) (by assumption) ?r1
          case y1 => (intro w hSw; (try dsimp only at hSw); go_simp; try with_reducible rfl)
          try simp only [Act.put, List.setIfInBounds_toArray, List.set_cons_zero, List.set_cons_succ]
          refine wpAnyH_take (i := 3) (oi := { dst := some 37, op := _, type := _, pos := _, after := _, guard := _ }) (v := ?v3) rfl (by kernel_rfl) (by kernel_rfl) (by kernel_rfl) (fun _ _ _ h => h) (Or.inl ⟨by rfl, ?y3⟩) (by assumption) ?r3
          case y3 => (intro w hSw; (try dsimp only at hSw); go_simp; try with_reducible rfl)
          try simp only [Act.put, List.setIfInBounds_toArray, List.set_cons_zero, List.set_cons_succ]
          refine wpAnyH_take (i := 4) (oi := { dst := some 38, op := _, type := _, pos := _, after := _, guard := _ }) (v := ?v4) rfl (by kernel_rfl) (by kernel_rfl) (by kernel_rfl) (fun _ _ _ h => h) (Or.inl ⟨by rfl, ?y4⟩) (by assumption) ?r4
          case y4 => (intro w hSw; (try dsimp only at hSw); go_simp; try with_reducible rfl)
          try simp only [Act.put, List.setIfInBounds_toArray, List.set_cons_zero, List.set_cons_succ]
          refine wpAnyH_take (i := 5) (oi := { dst := some 39, op := _, type := _, pos := _, after := _, guard := _ }) (v := ?v5) rfl (by kernel_rfl) (by kernel_rfl) (by kernel_rfl) (fun _ _ _ h => h) (Or.inl ⟨by rfl, ?y5⟩) (by assumption) ?r5
          case y5 => (intro w hSw; (try dsimp only at hSw); go_simp; try with_reducible rfl)
          try simp only [Act.put, List.setIfInBounds_toArray, List.set_cons_zero, List.set_cons_succ]
          refine wpAnyH_ready (rs := [2]) (by kernel_rfl) (by simp) ?_
          refine AllReadyH.cons (o := { dst := some 36, op := _, type := _, pos := _, after := _, guard := _ }) rfl (fun K hK => ?_) AllReadyH.nil
          go_simp
          go_at_call 8; refine CAD.mono ?_; rintro e w3 ⟨rfl, hmid⟩
          refine hK.out _ _ (HBX3.out w3 hmid) (fun hHeld2 => ?r2)
          clear hHeld hK K
          have hHeld := hHeld2
          clear hHeld2
          try simp only [Act.put, List.setIfInBounds_toArray, List.set_cons_zero, List.set_cons_succ]
          refine wpAnyH_ready (rs := [6]) (by kernel_rfl) (by simp) ?_
          refine AllReadyH.cons (o := { dst := some 40, op := _, type := _, pos := _, after := _, guard := _ }) rfl (fun K hK => ?_) AllReadyH.nil
          go_simp
          go_at_call 9; refine (CRA.out w3 hmid).mono ?_; rintro e w4 ⟨rfl, hfin, hkeep⟩
          refine hK.out _ _ (HBX4.out w4 hkeep) (fun hHeld2 => ?r6)
          clear hHeld hK K
          have hHeld := hHeld2
          clear hHeld2
          try simp only [Act.put, List.setIfInBounds_toArray, List.set_cons_zero, List.set_cons_succ]
          refine wpAnyH_take (i := 7) (oi := { dst := some 41, op := _, type := _, pos := _, after := _, guard := _ }) (v := ?v7) rfl (by kernel_rfl) (by kernel_rfl) (by kernel_rfl) (fun _ _ _ h => h) (Or.inl ⟨by rfl, ?y7⟩) (by assumption) ?r7
          case y7 => (intro w hSw; (try dsimp only at hSw); go_simp; try with_reducible rfl)
          try simp only [Act.put, List.setIfInBounds_toArray, List.set_cons_zero, List.set_cons_succ]
          refine wpAnyH_take (i := 8) (oi := { dst := some 42, op := _, type := _, pos := _, after := _, guard := _ }) (v := ?v8) rfl (by kernel_rfl) (by kernel_rfl) (by kernel_rfl) (fun _ _ _ h => h) (Or.inl ⟨by rfl, ?y8⟩) (by assumption) ?r8
          case y8 => (intro w hSw; (try dsimp only at hSw); go_simp; try with_reducible rfl)
          try simp only [Act.put, List.setIfInBounds_toArray, List.set_cons_zero, List.set_cons_succ]
          refine wpAnyH_take (i := 9) (oi := { dst := some 43, op := _, type := _, pos := _, after := _, guard := _ }) (v := ?v9) rfl (by kernel_rfl) (by kernel_rfl) (by kernel_rfl) (fun _ _ _ h => h) (Or.inl ⟨by rfl, ?y9⟩) (by assumption) ?r9
          case y9 => (intro w hSw; (try dsimp only at hSw); go_simp; try with_reducible rfl)
          try simp only [Act.put, List.setIfInBounds_toArray, List.set_cons_zero, List.set_cons_succ]
          refine wpAnyH_take (i := 10) (oi := { dst := some 44, op := _, type := _, pos := _, after := _, guard := _ }) (v := ?v10) rfl (by kernel_rfl) (by kernel_rfl) (by kernel_rfl) (fun _ _ _ h => h) (Or.inl ⟨by rfl, ?y10⟩) (by assumption) ?r10
          case y10 => (intro w hSw; (try dsimp only at hSw); go_simp; try with_reducible rfl)
          try simp only [Act.put, List.setIfInBounds_toArray, List.set_cons_zero, List.set_cons_succ]
          refine wpAnyH_take (i := 11) (oi := { dst := some 45, op := _, type := _, pos := _, after := _, guard := _ }) (v := ?v11) rfl (by kernel_rfl) (by kernel_rfl) (by kernel_rfl) (fun _ _ _ h => h) (Or.inl ⟨by rfl, ?y11⟩) (by assumption) ?r11
          case y11 => (intro w hSw; (try dsimp only at hSw); go_simp; try with_reducible rfl)
          try simp only [Act.put, List.setIfInBounds_toArray, List.set_cons_zero, List.set_cons_succ]
          refine wpAnyH_ready (rs := [12]) (by kernel_rfl) (by simp) ?_
          refine AllReadyH.cons (o := { dst := some 46, op := _, type := _, pos := _, after := _, guard := _ }) rfl (fun K hK => ?_) AllReadyH.nil
          go_simp
          go_at_call 10; refine (CSA.out w4 hfin).mono ?_; rintro e w5 ⟨rfl, hfin5, hb45⟩
          refine hK.out _ _ (HBX5.out w4 w5 hkeep hb45) (fun hHeld2 => ?r12)
          clear hHeld hK K
          have hHeld := hHeld2
          clear hHeld2
          try simp only [Act.put, List.setIfInBounds_toArray, List.set_cons_zero, List.set_cons_succ]
          refine wpAnyH_take (i := 13) (oi := { dst := some 47, op := _, type := _, pos := _, after := _, guard := _ }) (v := ?v13) rfl (by kernel_rfl) (by kernel_rfl) (by kernel_rfl) (fun _ _ _ h => h) (Or.inl ⟨by rfl, ?y13⟩) (by assumption) ?r13
          case y13 => (intro w hSw; (try dsimp only at hSw); go_simp; try with_reducible rfl)
          try simp only [Act.put, List.setIfInBounds_toArray, List.set_cons_zero, List.set_cons_succ]
          refine wpAnyH_take (i := 14) (oi := { dst := some 48, op := _, type := _, pos := _, after := _, guard := _ }) (v := ?v14) rfl (by kernel_rfl) (by kernel_rfl) (by kernel_rfl) (fun _ _ _ h => h) (Or.inl ⟨by rfl, ?y14⟩) (by assumption) ?r14
          case y14 => (intro w hSw; (try dsimp only at hSw); go_simp; try with_reducible rfl)
          try simp only [Act.put, List.setIfInBounds_toArray, List.set_cons_zero, List.set_cons_succ]
          refine wpAnyH_done (by kernel_rfl) ?_ _
          have CSP := hfin5.spoil (by omega)
          go_wp2_with (go_at_call 11; refine CSP.mono ?_; rintro e w6 ⟨rfl, hend⟩)
          go_meet
          exact hend
        · have e1 : (kind == 1) = false := beq_eq_false_iff_ne.2 k1
          clear k1
          by_cases k2 : kind = 2
          · subst k2
            have e2 : ((2 : Int) == 2) = true := rfl
            have CH := HSA.out.hall
            have hsl := HSA.out.len.2
            go_upto_region 20 with (go_at_call 12; refine CH.mono ?_; rintro e w2 ⟨v2, M, rfl, hM, hfin, hS2⟩)
            have hMl : M.length ≤ 65536 := by
              have := congrArg List.length hM
              rw [List.length_map] at this
              omega
            have CA := hS2.all
            obtain ⟨a2, c2', rfl⟩ := hfin.slice
            have HM := Lib.hid hM
            clear hM CH hS2
            go_wp2_with (first
              | (go_at_call 13; refine CA.mono ?_; rintro e w3 ⟨v3, M3, rfl, hM3, hr3, -, hb3⟩; have CS := (hfin.below hb3).same hr3 (HM.out.trans hM3.symm) (by omega); obtain ⟨a3, c3, rfl, -, -⟩ := hr3.shape; clear hM3 hr3)
              | (go_at_call 10; refine CS.mono ?_; rintro e w4 ⟨rfl, hfin4⟩; have CSP := hfin4.spoil (by omega))
              | (go_at_call 11; refine CSP.mono ?_; rintro e w5 ⟨rfl, hend⟩))
            go_meet
            exact hend
          · have e2 : (kind == 2) = false := beq_eq_false_iff_ne.2 k2
            clear k2
            by_cases k3 : kind = 3
            · subst k3
              have e3 : ((3 : Int) == 3) = true := rfl
              have c1 := cell_own HXA.out (j := 1) rfl
              have hsl := HSA.out.len.2
              have hchk := HSA.out.chk
              have hst : strV term.data.toList = .string term := by unfold strV; congr 1
              have htl : term.data.toList.length ≤ 1000000000 := by rw [size_list]; exact hopt
              have hpl : (plI term.data.toList S.all).length ≤ 65536 := Nat.le_trans (plI_lenS _ _) hsl
              have CF := Lib.hid (fun W (hW : Below wa.heap.size wa W) => (show Calls Tryz.prog 15 #[.pointer (some ⟨p, 0, none⟩), .string term] W fun e w' => ∃ v', e = .returned v' ∧ w'.ownsRow W.heap.size 44 1 v' (plI term.data.toList S.all).length (u64s (plI term.data.toList S.all)) ∧ Below W.heap.size W w' from by
                have h := hd_Find (HSA.out.below hW).hd.at term.data.toList (by omega)
                rw [hst] at h
                exact h))
              have CA := Lib.hid (fun W (hW : Below wa.heap.size wa W) => (HSA.out.below hW).all)
              have CR := Lib.hid (fun (W : World) (v4 : Value) (Z4 : List RecL) (hz : Z4.map Prod.fst = S.all) (hr : RRow W v4 Z4) => (show Calls Tryz.prog 16 #[v4, .string term] W fun e w' => ∃ v', e = .returned v' ∧ w'.ownsRow W.heap.size 44 1 v' (plI term.data.toList S.all).length (u64s (plI term.data.toList S.all)) ∧ Below W.heap.size W w' from by
                have hl := congrArg List.length hz
                rw [List.length_map] at hl
                have h := ref13_Find v4 Z4 term.data.toList W hr (by omega) (fun z hz' => hchk _ (by rw [← hz]; exact List.mem_map_of_mem hz'))
                rw [hst, hz] at h
                exact h))
              obtain ⟨P, hP⟩ : ∃ P, plI term.data.toList S.all = P := ⟨_, rfl⟩
              rw [hP] at CF CR hpl
              have CS := Lib.hid (fun (W : World) (va vb : Value) (h1 : argRow W va P.length 1 (u64s P)) (h2 : argRow W vb P.length 1 (u64s P)) => (show Calls Tryz.prog 14 #[va, vb] W fun e w' => e = .returned (.bool true) ∧ Below W.heap.size W w' from by
                have h := ref03_Same va vb P P W h1 h2 (by omega) (by omega)
                rw [decide_eq_true rfl] at h
                exact h))
              have HBX := Lib.hid (fun W (hW : Below wa.heap.size wa W) => (hW.cell (p := ⟨bx, 1, none⟩) hbx).trans c1)
              have hbd : Below wa.heap.size wa wa.drew := (Below.refl _ _).drew
              clear hst htl hP c1 hchk hsl
              go_upto_region 24 with fail
              refine wp_region_held_drew (S := fun W => W.cell? ⟨bx, 1, none⟩ = some (.string term) ∧ Below wa.heap.size wa W) (by kernel_rfl) (⟨HBX.out _ hbd, hbd⟩) (fun hHeld => ?_)
              refine wpAnyH_take (i := 0) (oi := { dst := some 64, op := _, type := _, pos := _, after := _, guard := _ }) (v := ?vf0) rfl (by kernel_rfl) (by kernel_rfl) (by kernel_rfl) (fun _ _ _ h => h) (Or.inl ⟨by rfl, ?yf0⟩) (by assumption) ?rf0
              case yf0 => (intro w hSw; (try dsimp only at hSw); go_simp; try with_reducible rfl)
              try simp only [Act.put, List.setIfInBounds_toArray, List.set_cons_zero, List.set_cons_succ]
              refine wpAnyH_take (i := 1) (oi := { dst := some 65, op := _, type := _, pos := _, after := _, guard := _ }) (v := ?vf1) rfl (by kernel_rfl) (by kernel_rfl) (by kernel_rfl) (fun _ _ _ h => h) (Or.inl ⟨by rfl, ?yf1⟩) (by assumption) ?rf1
              case yf1 => (intro w hSw; (try dsimp only at hSw); go_simp; try with_reducible rfl)
              try simp only [Act.put, List.setIfInBounds_toArray, List.set_cons_zero, List.set_cons_succ]
              refine wpAnyH_take (i := 2) (oi := { dst := some 66, op := _, type := _, pos := _, after := _, guard := _ }) (v := ?vf2) rfl (by kernel_rfl) (by kernel_rfl) (by kernel_rfl) (fun _ _ _ h => h) (Or.inl ⟨by rfl, ?yf2⟩) (by assumption) ?rf2
              case yf2 => (intro w hSw; (try dsimp only at hSw); go_simp; try with_reducible rfl)
              try simp only [Act.put, List.setIfInBounds_toArray, List.set_cons_zero, List.set_cons_succ]
              refine wpAnyH_take (i := 4) (oi := { dst := some 68, op := _, type := _, pos := _, after := _, guard := _ }) (v := ?vf4) rfl (by kernel_rfl) (by kernel_rfl) (by kernel_rfl) (fun _ _ _ h => h) (Or.inl ⟨by rfl, ?yf4⟩) (by assumption) ?rf4
              case yf4 => (intro w hSw; (try dsimp only at hSw); go_simp; try with_reducible rfl)
              try simp only [Act.put, List.setIfInBounds_toArray, List.set_cons_zero, List.set_cons_succ]
              refine wpAnyH_take (i := 6) (oi := { dst := some 70, op := _, type := _, pos := _, after := _, guard := _ }) (v := ?vf6) rfl (by kernel_rfl) (by kernel_rfl) (by kernel_rfl) (fun _ _ _ h => h) (Or.inl ⟨by rfl, ?yf6⟩) (by assumption) ?rf6
              case yf6 => (intro w hSw; (try dsimp only at hSw); go_simp; try with_reducible rfl)
              try simp only [Act.put, List.setIfInBounds_toArray, List.set_cons_zero, List.set_cons_succ]
              refine wpAnyH_take (i := 7) (oi := { dst := some 71, op := _, type := _, pos := _, after := _, guard := _ }) (v := ?vf7) rfl (by kernel_rfl) (by kernel_rfl) (by kernel_rfl) (fun _ _ _ h => h) (Or.inl ⟨by rfl, ?yf7⟩) (by assumption) ?rf7
              case yf7 => (intro w hSw; (try dsimp only at hSw); go_simp; try with_reducible rfl)
              try simp only [Act.put, List.setIfInBounds_toArray, List.set_cons_zero, List.set_cons_succ]
              refine wpAnyH_ready (rs := [3]) (by kernel_rfl) (by simp) ?_
              refine AllReadyH.cons (o := { dst := some 67, op := _, type := _, pos := _, after := _, guard := _ }) rfl (fun K hK => ?_) AllReadyH.nil
              go_simp
              go_at_call 15; refine (CF.out _ hHeld.2).mono ?_; rintro e w3 ⟨v3, rfl, ho3, hb3⟩; obtain ⟨a3, c3, rfl⟩ := owns_slice ho3; have hb3' := below_seq hHeld.2 hb3
              refine hK.out _ _ (⟨HBX.out w3 hb3', hb3'⟩) (fun hHeld2 => ?rf3)
              clear hHeld hK K
              have hHeld := hHeld2
              clear hHeld2
              try simp only [Act.put, List.setIfInBounds_toArray, List.set_cons_zero, List.set_cons_succ]
              refine wpAnyH_ready (rs := [5]) (by kernel_rfl) (by simp) ?_
              refine AllReadyH.cons (o := { dst := some 69, op := _, type := _, pos := _, after := _, guard := _ }) rfl (fun K hK => ?_) AllReadyH.nil
              go_simp
              go_at_call 13; refine (CA.out _ hHeld.2).mono ?_; rintro e w4 ⟨v4, Z4, rfl, hz4, hr4, -, hb4⟩; have hb4' := below_seq hHeld.2 hb4; have CRF := CR.out w4 v4 Z4 hz4 hr4; obtain ⟨a4, c4, rfl, -, -⟩ := hr4.shape; clear hz4 hr4
              refine hK.out _ _ (⟨HBX.out w4 hb4', hb4'⟩) (fun hHeld2 => ?rf5)
              clear hHeld hK K
              have hHeld := hHeld2
              clear hHeld2
              try simp only [Act.put, List.setIfInBounds_toArray, List.set_cons_zero, List.set_cons_succ]
              refine wpAnyH_ready (rs := [8]) (by kernel_rfl) (by simp) ?_
              refine AllReadyH.cons (o := { dst := some 72, op := _, type := _, pos := _, after := _, guard := _ }) rfl (fun K hK => ?_) AllReadyH.nil
              go_simp
              go_at_call 16; refine CRF.mono ?_; rintro e w5 ⟨v5, rfl, ho5, hb5⟩; have hb5' := below_seq hHeld.2 hb5; have CSM := CS.out w5 _ _ (argRow_below (argRow_owns ho3) (below_seq hb4 hb5)) (argRow_owns ho5); obtain ⟨a5, c5, rfl⟩ := owns_slice ho5
              refine hK.out _ _ (⟨HBX.out w5 hb5', hb5'⟩) (fun hHeld2 => ?rf8)
              clear hHeld hK K
              have hHeld := hHeld2
              clear hHeld2
              try simp only [Act.put, List.setIfInBounds_toArray, List.set_cons_zero, List.set_cons_succ]
              refine wpAnyH_ready (rs := [9]) (by kernel_rfl) (by simp) ?_
              refine AllReadyH.cons (o := { dst := some 73, op := _, type := _, pos := _, after := _, guard := _ }) rfl (fun K hK => ?_) AllReadyH.nil
              go_simp
              go_at_call 14; refine CSM.mono ?_; rintro e w6 ⟨rfl, hb6⟩; have hb6' := below_seq hHeld.2 hb6
              refine hK.out _ _ (⟨HBX.out w6 hb6', hb6'⟩) (fun hHeld2 => ?rf9)
              clear hHeld hK K
              have hHeld := hHeld2
              clear hHeld2
              try simp only [Act.put, List.setIfInBounds_toArray, List.set_cons_zero, List.set_cons_succ]
              refine wpAnyH_take (i := 10) (oi := { dst := some 74, op := _, type := _, pos := _, after := _, guard := _ }) (v := ?vf10) rfl (by kernel_rfl) (by kernel_rfl) (by kernel_rfl) (fun _ _ _ h => h) (Or.inl ⟨by rfl, ?yf10⟩) (by assumption) ?rf10
              case yf10 => (intro w hSw; (try dsimp only at hSw); go_simp; try with_reducible rfl)
              try simp only [Act.put, List.setIfInBounds_toArray, List.set_cons_zero, List.set_cons_succ]
              refine wpAnyH_done (by kernel_rfl) ?_ _
              go_wp2_with fail
              go_meet
              exact ⟨_, _, _, _, HSA.out.below hb6'⟩
            · have e3 : (kind == 3) = false := beq_eq_false_iff_ne.2 k3
              clear k3
              by_cases k4 : kind = 4
              · subst k4
                have e4 : ((4 : Int) == 4) = true := rfl
                have CH := HSA.out.htake
                have hsl := HSA.out.len.2
                go_upto_region 28 with (go_at_call 17; refine CH.mono ?_; rintro e w2 ⟨v2, M, rfl, hM, hh⟩)
                have hMl : M.length ≤ 65536 := by
                  have := congrArg List.length hM
                  rw [List.length_map] at this
                  omega
                have CT := hh.take
                obtain ⟨a2, c2', rfl⟩ := owns_slice hh.row.own
                have HM := Lib.hid hM
                clear hM CH hh
                go_wp2_with (first
                  | (go_at_call 18; refine CT.mono ?_; rintro e w3 ⟨v3, M3, rfl, hM3, hr3, hfin3⟩; have CS := hfin3.same hr3 (HM.out.trans hM3.symm) (by omega); obtain ⟨a3, c3, rfl, -, -⟩ := hr3.shape; clear hM3 hr3)
                  | (go_at_call 10; refine CS.mono ?_; rintro e w4 ⟨rfl, hfin4⟩; have CSP := hfin4.spoil (by omega))
                  | (go_at_call 11; refine CSP.mono ?_; rintro e w5 ⟨rfl, hend⟩))
                go_meet
                exact hend
              · have e4 : (kind == 4) = false := beq_eq_false_iff_ne.2 k4
                clear k4
                go_wp2_with fail
                go_meet
                exact ⟨_, _, _, _, HSA.out⟩
      case rest =>
        obtain ⟨S2, F2, lv2, Z2, hS2⟩ := hcut
        have CL := hd_Len hS2.hd.at
        have CA := hS2.all
        have HS2 := Lib.hid (fun W (hW : Below wc.heap.size wc W) => hS2.below hW)
        obtain ⟨n, hn⟩ : ∃ n, S2.all.length = n := ⟨_, rfl⟩
        have HN := Lib.hid hn
        rw [hn] at CL
        have e0 : ((n : Int) != (n : Int)) = false := by simp
        clear hS2 hn c0
        go_wp2_with (first
          | (go_at_call 19; refine CL.mono ?_; rintro e w4 ⟨rfl, rfl⟩)
          | (go_at_call 13; refine CA.mono ?_; rintro e w5 ⟨v5, Z5, rfl, hz5, hr5, -, hb5⟩; obtain ⟨a5, c5, rfl, -, -⟩ := hr5.shape; have hl5 := congrArg List.length hz5; rw [List.length_map, HN.out] at hl5; rw [hl5]; clear hl5 hz5 hr5))
        go_roundw
        case rel => exact ⟨k + 1, _, _, _, _, by go_num, by omega, HS2.out _ hb5⟩
        case measure => simp [intOf]; omega
    · have i1 : ¬ (k : Int) < (L.length : Int) := by omega
      go_wp2_with fail
      go_ret
      exact ⟨rfl, below_seq HB1.out hS.be⟩
end Go.Proofs.YtaimldndooijdaaGreatDoor
/-
  The walk of HeadScripts, on no head.
-/
namespace Go.Proofs.YtaimldndooijdaaGreatDoor
open Go.RowKit
set_option maxRecDepth 100000 in
set_option maxHeartbeats 40000000 in
theorem scripts_none (v : Value) (L : List OpL) (w : World) (hT : Tabs w) (hO : OpRow w v L) (hL : L.length ≤ 1048576) :
    Calls Tryz.prog 3 #[v, .bool true] w fun e w' => e = .returned (.bool true) ∧ Below w.heap.size w w' := by
  have CA := law13_awake w hT
  have HO := Lib.hid hO
  have hsv : ∃ a c, v = .slice a L.length c := by
    obtain ⟨⟨_, a, c, rfl, -⟩, -⟩ := hO
    exact ⟨a, c, rfl⟩
  obtain ⟨sa, sc, rfl⟩ := hsv
  clear hT hO
  go_enter Tryz.func3, Tryz.ntmps3
  go_upto_region 3 with (go_at_call 4; refine CA.mono ?_; rintro e w1 ⟨rfl, hb1⟩)
  have HB1 := Lib.hid hb1
  clear hb1 CA
  go_upto_region 4 with (go_at_call 5; refine (hd_NewOn _).mono ?_; rintro e w2 ⟨rfl, -, hb2, -⟩)
  go_upto_region 5 with (go_at_call 6; refine (ref13_New _).mono ?_; rintro e w3 ⟨rfl, rfl⟩)
  have HST := Lib.hid (below_seq (below_seq HB1.out hb2) (belowA (o := refObj (.slice none 0 0) 0 false) (Below.refl w2.heap.size w2)))
  clear hb2
  go_wp2
  go_loopw [7] (fun iv wr => ∃ (k : Nat), iv = .int .i64 k ∧ k ≤ L.length ∧ Below w.heap.size w wr) (fun iv _ => L.length - (intOf iv).toNat)
  case atStart => exact ⟨0, rfl, Nat.zero_le _, HST.out⟩
  case round =>
    obtain ⟨k, rfl, hk, hbw⟩ := hrel
    by_cases hlt : k < L.length
    · obtain ⟨b, off, rfl, hbl, g0, g1, g2⟩ := (HO.out.below hbw).at hlt
      obtain ⟨hop, hopl, hopt⟩ := HO.out.2 _ (List.getElem_mem hlt)
      obtain ⟨⟨kind, term, sv, Y⟩, hx⟩ : ∃ x, L[k] = x := ⟨_, rfl⟩
      rw [hx] at g0 g1 g2 hop hopl hopt
      simp only at g0 g1 g2 hop hopl hopt
      clear hx
      obtain ⟨ya, yc, rfl, -, -⟩ := hop.shape
      have i0 : (0 : Int) ≤ (k : Int) := by omega
      have i1 : (k : Int) < (L.length : Int) := by omega
      go_upto_region 12 with fail
      have hba := belowA (o := .cells #[.int .i64 kind, .string term, .slice ya Y.length yc] 30) (Below.refl wr.heap.size wr)
      have hxa := heap_alloc_new wr (.cells #[.int .i64 kind, .string term, .slice ya Y.length yc] 30)
      have hbx : wr.heap.size < (wr.alloc (.cells #[.int .i64 kind, .string term, .slice ya Y.length yc] 30)).heap.size := by simp
      obtain ⟨bx, hbxe⟩ : ∃ bx, wr.heap.size = bx := ⟨_, rfl⟩
      obtain ⟨wa, hwa⟩ : ∃ W, wr.alloc (.cells #[.int .i64 kind, .string term, .slice ya Y.length yc] 30) = W := ⟨_, rfl⟩
      rw [hwa] at hba hxa hbx ⊢
      rw [hbxe] at hxa hbx ⊢
      have hbwa := below_seq hbw hba
      have c0 := cell_own hxa (j := 0) rfl
      have HXA := Lib.hid hxa
      have HOP := Lib.hid (fun W (hW : Below w.heap.size w W) => hop.below hW)
      have HBWA := Lib.hid hbwa
      clear hwa hbxe hba hxa hop g0 g1 g2 hbw hbwa hbl
      go_upto_block 2 with fail
      go_cut [9, 10, 11] from 29 to 86 (fun _ _ _ wx => Below w.heap.size w wx)
      case first =>
        by_cases k1 : kind = 1
        · subst k1
          have e1 : ((1 : Int) == 1) = true := rfl
          have c2 := cell_own HXA.out (j := 2) rfl
          have CC := law_copied (.slice ya Y.length yc) Y wa (HOP.out wa HBWA.out) (by omega)
          go_upto_region 15 with (go_at_call 7; refine CC.mono ?_; rintro e w2 ⟨v2, M, rfl, hM, hMo, hb2⟩)
          obtain ⟨ma, mc, hmv⟩ := owns_slice hMo.own
          have hMl : M.length = Y.length := by
            have := congrArg List.length hM
            rwa [List.length_map, List.length_map] at this
          rw [hMl] at hmv
          subst hmv
          have hMl2 : M.length ≤ 1048576 := by omega
          clear hMl
          have hbd : Below w2.heap.size w2 w2.drew := (Below.refl _ _).drew
          have HBX := Lib.hid (fun W (hW : Below w2.heap.size w2 W) => ((below_seq hb2 hW).cell (p := ⟨bx, 2, none⟩) hbx).trans c2)
          have HW2 := Lib.hid (below_seq HBWA.out hb2)
          have CSA := Lib.hid (fun W (hW : Below w2.heap.size w2 W) => (show Calls Tryz.prog 10 #[.slice ma Y.length mc, .slice ya Y.length yc] W fun e w' => e = .returned (.bool true) ∧ Below W.heap.size W w' from by
            have h := rrec_SameAll (.slice ma Y.length mc) (.slice ya Y.length yc) M Y W (hMo.keptB hW).row (HOP.out W (below_seq HW2.out hW)) (by omega)
            rw [decide_eq_true hM] at h
            exact h))
          have CSP := Lib.hid (fun W (hW : Below w2.heap.size w2 W) => law_spoil (.slice ma Y.length mc) M wa.heap.size w2.heap.size W (hMo.keptB hW) (by omega) (fun k hk => (hMo.own.lt k hk).2) (fun z hz k hk => ((hMo.labs z hz).1.lt k hk).2))
          clear c2 CC hMo hM
          refine wp_region_held_drew (S := fun W => W.cell? ⟨bx, 2, none⟩ = some (.slice ya Y.length yc) ∧ Below w2.heap.size w2 W) (by kernel_rfl) (⟨HBX.out _ hbd, hbd⟩) (fun hHeld => ?_)
          refine wpAnyH_take (i := 0) (oi := { dst := some 34, op := _, type := _, pos := _, after := _, guard := _ }) (v := ?va0) rfl (by kernel_rfl) (by kernel_rfl) (by kernel_rfl) (fun _ _ _ h => h) (Or.inl ⟨by rfl, ?ya0⟩) (by assumption) ?ra0
          case ya0 => (intro w hSw; (try dsimp only at hSw); go_simp; try with_reducible rfl)
          try simp only [Act.put, List.setIfInBounds_toArray, List.set_cons_zero, List.set_cons_succ]
          refine wpAnyH_take (i := 1) (oi := { dst := some 35, op := _, type := _, pos := _, after := _, guard := _ }) (v := ?va1) rfl (by kernel_rfl) (by kernel_rfl) (by kernel_rfl) (fun _ _ _ h => h) (Or.inl ⟨by rfl, ?ya1⟩) (by assumption) ?ra1
          case ya1 => (intro w hSw; (try dsimp only at hSw); go_simp; try with_reducible rfl)
          try simp only [Act.put, List.setIfInBounds_toArray, List.set_cons_zero, List.set_cons_succ]
          refine wpAnyH_take (i := 3) (oi := { dst := some 37, op := _, type := _, pos := _, after := _, guard := _ }) (v := ?va3) rfl (by kernel_rfl) (by kernel_rfl) (by kernel_rfl) (fun _ _ _ h => h) (Or.inl ⟨by rfl, ?ya3⟩) (by assumption) ?ra3
          case ya3 => (intro w hSw; (try dsimp only at hSw); go_simp; try with_reducible rfl)
          try simp only [Act.put, List.setIfInBounds_toArray, List.set_cons_zero, List.set_cons_succ]
          refine wpAnyH_take (i := 4) (oi := { dst := some 38, op := _, type := _, pos := _, after := _, guard := _ }) (v := ?va4) rfl (by kernel_rfl) (by kernel_rfl) (by kernel_rfl) (fun _ _ _ h => h) (Or.inl ⟨by rfl, ?ya4⟩) (by assumption) ?ra4
          case ya4 => (intro w hSw; (try dsimp only at hSw); go_simp; try with_reducible rfl)
          try simp only [Act.put, List.setIfInBounds_toArray, List.set_cons_zero, List.set_cons_succ]
          refine wpAnyH_take (i := 5) (oi := { dst := some 39, op := _, type := _, pos := _, after := _, guard := _ }) (v := ?va5) rfl (by kernel_rfl) (by kernel_rfl) (by kernel_rfl) (fun _ _ _ h => h) (Or.inl ⟨by rfl, ?ya5⟩) (by assumption) ?ra5
          case ya5 => (intro w hSw; (try dsimp only at hSw); go_simp; try with_reducible rfl)
          try simp only [Act.put, List.setIfInBounds_toArray, List.set_cons_zero, List.set_cons_succ]
          refine wpAnyH_ready (rs := [2]) (by kernel_rfl) (by simp) ?_
          refine AllReadyH.cons (o := { dst := some 36, op := _, type := _, pos := _, after := _, guard := _ }) rfl (fun K hK => ?_) AllReadyH.nil
          go_simp
          go_at_call 8; refine (head_Add0 _ _ ⟨_, _, _, rfl⟩).mono ?_; rintro e w3 ⟨rfl, rfl⟩
          refine hK.out _ _ (hHeld) (fun hHeld2 => ?ra2)
          clear hHeld hK K
          have hHeld := hHeld2
          clear hHeld2
          try simp only [Act.put, List.setIfInBounds_toArray, List.set_cons_zero, List.set_cons_succ]
          refine wpAnyH_ready (rs := [6]) (by kernel_rfl) (by simp) ?_
          refine AllReadyH.cons (o := { dst := some 40, op := _, type := _, pos := _, after := _, guard := _ }) rfl (fun K hK => ?_) AllReadyH.nil
          go_simp
          go_at_call 9; refine (ref13_Add0 _ _ ⟨_, _, _, rfl⟩).mono ?_; rintro e w4 ⟨rfl, rfl⟩
          refine hK.out _ _ (hHeld) (fun hHeld2 => ?ra6)
          clear hHeld hK K
          have hHeld := hHeld2
          clear hHeld2
          try simp only [Act.put, List.setIfInBounds_toArray, List.set_cons_zero, List.set_cons_succ]
          refine wpAnyH_take (i := 7) (oi := { dst := some 41, op := _, type := _, pos := _, after := _, guard := _ }) (v := ?va7) rfl (by kernel_rfl) (by kernel_rfl) (by kernel_rfl) (fun _ _ _ h => h) (Or.inl ⟨by rfl, ?ya7⟩) (by assumption) ?ra7
          case ya7 => (intro w hSw; (try dsimp only at hSw); go_simp; try with_reducible rfl)
          try simp only [Act.put, List.setIfInBounds_toArray, List.set_cons_zero, List.set_cons_succ]
          refine wpAnyH_take (i := 8) (oi := { dst := some 42, op := _, type := _, pos := _, after := _, guard := _ }) (v := ?va8) rfl (by kernel_rfl) (by kernel_rfl) (by kernel_rfl) (fun _ _ _ h => h) (Or.inl ⟨by rfl, ?ya8⟩) (by assumption) ?ra8
          case ya8 => (intro w hSw; (try dsimp only at hSw); go_simp; try with_reducible rfl)
          try simp only [Act.put, List.setIfInBounds_toArray, List.set_cons_zero, List.set_cons_succ]
          refine wpAnyH_take (i := 9) (oi := { dst := some 43, op := _, type := _, pos := _, after := _, guard := _ }) (v := ?va9) rfl (by kernel_rfl) (by kernel_rfl) (by kernel_rfl) (fun _ _ _ h => h) (Or.inl ⟨by rfl, ?ya9⟩) (by assumption) ?ra9
          case ya9 => (intro w hSw; (try dsimp only at hSw); go_simp; try with_reducible rfl)
          try simp only [Act.put, List.setIfInBounds_toArray, List.set_cons_zero, List.set_cons_succ]
          refine wpAnyH_take (i := 10) (oi := { dst := some 44, op := _, type := _, pos := _, after := _, guard := _ }) (v := ?va10) rfl (by kernel_rfl) (by kernel_rfl) (by kernel_rfl) (fun _ _ _ h => h) (Or.inl ⟨by rfl, ?ya10⟩) (by assumption) ?ra10
          case ya10 => (intro w hSw; (try dsimp only at hSw); go_simp; try with_reducible rfl)
          try simp only [Act.put, List.setIfInBounds_toArray, List.set_cons_zero, List.set_cons_succ]
          refine wpAnyH_take (i := 11) (oi := { dst := some 45, op := _, type := _, pos := _, after := _, guard := _ }) (v := ?va11) rfl (by kernel_rfl) (by kernel_rfl) (by kernel_rfl) (fun _ _ _ h => h) (Or.inl ⟨by rfl, ?ya11⟩) (by assumption) ?ra11
          case ya11 => (intro w hSw; (try dsimp only at hSw); go_simp; try with_reducible rfl)
          try simp only [Act.put, List.setIfInBounds_toArray, List.set_cons_zero, List.set_cons_succ]
          refine wpAnyH_ready (rs := [12]) (by kernel_rfl) (by simp) ?_
          refine AllReadyH.cons (o := { dst := some 46, op := _, type := _, pos := _, after := _, guard := _ }) rfl (fun K hK => ?_) AllReadyH.nil
          go_simp
          go_at_call 10; refine (CSA.out _ hHeld.2).mono ?_; rintro e w5 ⟨rfl, hb45⟩; have hb5 := below_seq hHeld.2 hb45
          refine hK.out _ _ (⟨HBX.out _ hb5, hb5⟩) (fun hHeld2 => ?ra12)
          clear hHeld hK K
          have hHeld := hHeld2
          clear hHeld2
          try simp only [Act.put, List.setIfInBounds_toArray, List.set_cons_zero, List.set_cons_succ]
          refine wpAnyH_take (i := 13) (oi := { dst := some 47, op := _, type := _, pos := _, after := _, guard := _ }) (v := ?va13) rfl (by kernel_rfl) (by kernel_rfl) (by kernel_rfl) (fun _ _ _ h => h) (Or.inl ⟨by rfl, ?ya13⟩) (by assumption) ?ra13
          case ya13 => (intro w hSw; (try dsimp only at hSw); go_simp; try with_reducible rfl)
          try simp only [Act.put, List.setIfInBounds_toArray, List.set_cons_zero, List.set_cons_succ]
          refine wpAnyH_take (i := 14) (oi := { dst := some 48, op := _, type := _, pos := _, after := _, guard := _ }) (v := ?va14) rfl (by kernel_rfl) (by kernel_rfl) (by kernel_rfl) (fun _ _ _ h => h) (Or.inl ⟨by rfl, ?ya14⟩) (by assumption) ?ra14
          case ya14 => (intro w hSw; (try dsimp only at hSw); go_simp; try with_reducible rfl)
          try simp only [Act.put, List.setIfInBounds_toArray, List.set_cons_zero, List.set_cons_succ]
          refine wpAnyH_done (by kernel_rfl) ?_ _
          have CSP2 := CSP.out _ hb5
          have HB5 := Lib.hid (below_seq HW2.out hb5)
          have hsz := hb2.size
          go_wp2_with (go_at_call 11; refine CSP2.mono ?_; rintro e w6 ⟨rfl, hb6, -⟩)
          go_meet
          exact HB5.out.trans (hb6.mono HBWA.out.size)
        · have e1 : (kind == 1) = false := beq_eq_false_iff_ne.2 k1
          clear k1
          by_cases k2 : kind = 2
          · subst k2
            have e2 : ((2 : Int) == 2) = true := rfl
            have CS := Lib.hid (fun (W : World) => (show Calls Tryz.prog 10 #[.slice none 0 0, .slice none 0 0] W fun e w' => e = .returned (.bool true) ∧ Below W.heap.size W w' from by
              have h := rrec_SameAll (.slice none 0 0) (.slice none 0 0) [] [] W (rrow_nil W) (rrow_nil W) (by decide)
              rw [decide_eq_true rfl] at h
              exact h))
            have CSP := Lib.hid (fun (W : World) => law_spoil (.slice none 0 0) [] W.heap.size W.heap.size W (ROwn.nil _ _) (by decide) (fun k hk => by cases hk) (fun z hz => by cases hz))
            go_wp2_with (first
              | (go_at_call 12; refine (head_All0 _).mono ?_; rintro e w2 ⟨rfl, rfl⟩)
              | (go_at_call 13; refine (ref13_All0 _).mono ?_; rintro e w3 ⟨rfl, rfl⟩)
              | (go_at_call 10; refine (CS.out _).mono ?_; rintro e w4 ⟨rfl, hb4⟩)
              | (go_at_call 11; refine (CSP.out _).mono ?_; rintro e w5 ⟨rfl, hb5, -⟩))
            go_meet
            exact below_seq HBWA.out (below_seq hb4 hb5)
          · have e2 : (kind == 2) = false := beq_eq_false_iff_ne.2 k2
            clear k2
            by_cases k3 : kind = 3
            · subst k3
              have e3 : ((3 : Int) == 3) = true := rfl
              have c1 := cell_own HXA.out (j := 1) rfl
              have hst : strV term.data.toList = .string term := by unfold strV; congr 1
              have CRF := Lib.hid (fun (W : World) => (show Calls Tryz.prog 16 #[.slice none 0 0, .string term] W fun e w' => ∃ v', e = .returned v' ∧ w'.ownsRow W.heap.size 44 1 v' 0 [] ∧ Below W.heap.size W w' from by
                have h := ref13_Find (.slice none 0 0) [] term.data.toList W (rrow_nil W) (by decide) (fun z hz => by cases hz)
                rw [hst] at h
                exact h))
              have CS := Lib.hid (fun (W : World) (vb : Value) (h2 : ∃ B, W.ownsRow B 44 1 vb 0 []) => (show Calls Tryz.prog 14 #[.slice none 0 0, vb] W fun e w' => e = .returned (.bool true) ∧ Below W.heap.size W w' from by
                obtain ⟨B, h2⟩ := h2
                have h := ref03_Same (.slice none 0 0) vb [] [] W (argRow_owns (World.ownsRow_nil W 0 44 1)) (argRow_owns h2) (by decide) (by decide)
                rw [decide_eq_true rfl] at h
                exact h))
              have HBX := Lib.hid (fun W (hW : Below wa.heap.size wa W) => (hW.cell (p := ⟨bx, 1, none⟩) hbx).trans c1)
              have hbd : Below wa.heap.size wa wa.drew := (Below.refl _ _).drew
              clear hst c1
              go_upto_region 24 with fail
              refine wp_region_held_drew (S := fun W => W.cell? ⟨bx, 1, none⟩ = some (.string term) ∧ Below wa.heap.size wa W) (by kernel_rfl) (⟨HBX.out _ hbd, hbd⟩) (fun hHeld => ?_)
              refine wpAnyH_take (i := 0) (oi := { dst := some 64, op := _, type := _, pos := _, after := _, guard := _ }) (v := ?vf0) rfl (by kernel_rfl) (by kernel_rfl) (by kernel_rfl) (fun _ _ _ h => h) (Or.inl ⟨by rfl, ?yf0⟩) (by assumption) ?rf0
              case yf0 => (intro w hSw; (try dsimp only at hSw); go_simp; try with_reducible rfl)
              try simp only [Act.put, List.setIfInBounds_toArray, List.set_cons_zero, List.set_cons_succ]
              refine wpAnyH_take (i := 1) (oi := { dst := some 65, op := _, type := _, pos := _, after := _, guard := _ }) (v := ?vf1) rfl (by kernel_rfl) (by kernel_rfl) (by kernel_rfl) (fun _ _ _ h => h) (Or.inl ⟨by rfl, ?yf1⟩) (by assumption) ?rf1
              case yf1 => (intro w hSw; (try dsimp only at hSw); go_simp; try with_reducible rfl)
              try simp only [Act.put, List.setIfInBounds_toArray, List.set_cons_zero, List.set_cons_succ]
              refine wpAnyH_take (i := 2) (oi := { dst := some 66, op := _, type := _, pos := _, after := _, guard := _ }) (v := ?vf2) rfl (by kernel_rfl) (by kernel_rfl) (by kernel_rfl) (fun _ _ _ h => h) (Or.inl ⟨by rfl, ?yf2⟩) (by assumption) ?rf2
              case yf2 => (intro w hSw; (try dsimp only at hSw); go_simp; try with_reducible rfl)
              try simp only [Act.put, List.setIfInBounds_toArray, List.set_cons_zero, List.set_cons_succ]
              refine wpAnyH_take (i := 4) (oi := { dst := some 68, op := _, type := _, pos := _, after := _, guard := _ }) (v := ?vf4) rfl (by kernel_rfl) (by kernel_rfl) (by kernel_rfl) (fun _ _ _ h => h) (Or.inl ⟨by rfl, ?yf4⟩) (by assumption) ?rf4
              case yf4 => (intro w hSw; (try dsimp only at hSw); go_simp; try with_reducible rfl)
              try simp only [Act.put, List.setIfInBounds_toArray, List.set_cons_zero, List.set_cons_succ]
              refine wpAnyH_take (i := 6) (oi := { dst := some 70, op := _, type := _, pos := _, after := _, guard := _ }) (v := ?vf6) rfl (by kernel_rfl) (by kernel_rfl) (by kernel_rfl) (fun _ _ _ h => h) (Or.inl ⟨by rfl, ?yf6⟩) (by assumption) ?rf6
              case yf6 => (intro w hSw; (try dsimp only at hSw); go_simp; try with_reducible rfl)
              try simp only [Act.put, List.setIfInBounds_toArray, List.set_cons_zero, List.set_cons_succ]
              refine wpAnyH_take (i := 7) (oi := { dst := some 71, op := _, type := _, pos := _, after := _, guard := _ }) (v := ?vf7) rfl (by kernel_rfl) (by kernel_rfl) (by kernel_rfl) (fun _ _ _ h => h) (Or.inl ⟨by rfl, ?yf7⟩) (by assumption) ?rf7
              case yf7 => (intro w hSw; (try dsimp only at hSw); go_simp; try with_reducible rfl)
              try simp only [Act.put, List.setIfInBounds_toArray, List.set_cons_zero, List.set_cons_succ]
              refine wpAnyH_ready (rs := [3]) (by kernel_rfl) (by simp) ?_
              refine AllReadyH.cons (o := { dst := some 67, op := _, type := _, pos := _, after := _, guard := _ }) rfl (fun K hK => ?_) AllReadyH.nil
              go_simp
              go_at_call 15; refine (head_FindN _ _).mono ?_; rintro e w3 ⟨rfl, rfl⟩
              refine hK.out _ _ (hHeld) (fun hHeld2 => ?rf3)
              clear hHeld hK K
              have hHeld := hHeld2
              clear hHeld2
              try simp only [Act.put, List.setIfInBounds_toArray, List.set_cons_zero, List.set_cons_succ]
              refine wpAnyH_ready (rs := [5]) (by kernel_rfl) (by simp) ?_
              refine AllReadyH.cons (o := { dst := some 69, op := _, type := _, pos := _, after := _, guard := _ }) rfl (fun K hK => ?_) AllReadyH.nil
              go_simp
              go_at_call 13; refine (ref13_All0 _).mono ?_; rintro e w4 ⟨rfl, rfl⟩
              refine hK.out _ _ (hHeld) (fun hHeld2 => ?rf5)
              clear hHeld hK K
              have hHeld := hHeld2
              clear hHeld2
              try simp only [Act.put, List.setIfInBounds_toArray, List.set_cons_zero, List.set_cons_succ]
              refine wpAnyH_ready (rs := [8]) (by kernel_rfl) (by simp) ?_
              refine AllReadyH.cons (o := { dst := some 72, op := _, type := _, pos := _, after := _, guard := _ }) rfl (fun K hK => ?_) AllReadyH.nil
              go_simp
              go_at_call 16; refine (CRF.out _).mono ?_; rintro e w5 ⟨v5, rfl, ho5, hb5⟩; have hb5' := below_seq hHeld.2 hb5; have CSM := CS.out w5 v5 ⟨_, ho5⟩; obtain ⟨a5, c5, rfl⟩ := owns_slice ho5
              refine hK.out _ _ (⟨HBX.out w5 hb5', hb5'⟩) (fun hHeld2 => ?rf8)
              clear hHeld hK K
              have hHeld := hHeld2
              clear hHeld2
              try simp only [Act.put, List.setIfInBounds_toArray, List.set_cons_zero, List.set_cons_succ]
              refine wpAnyH_ready (rs := [9]) (by kernel_rfl) (by simp) ?_
              refine AllReadyH.cons (o := { dst := some 73, op := _, type := _, pos := _, after := _, guard := _ }) rfl (fun K hK => ?_) AllReadyH.nil
              go_simp
              go_at_call 14; refine CSM.mono ?_; rintro e w6 ⟨rfl, hb6⟩; have hb6' := below_seq hHeld.2 hb6
              refine hK.out _ _ (⟨HBX.out w6 hb6', hb6'⟩) (fun hHeld2 => ?rf9)
              clear hHeld hK K
              have hHeld := hHeld2
              clear hHeld2
              try simp only [Act.put, List.setIfInBounds_toArray, List.set_cons_zero, List.set_cons_succ]
              refine wpAnyH_take (i := 10) (oi := { dst := some 74, op := _, type := _, pos := _, after := _, guard := _ }) (v := ?vf10) rfl (by kernel_rfl) (by kernel_rfl) (by kernel_rfl) (fun _ _ _ h => h) (Or.inl ⟨by rfl, ?yf10⟩) (by assumption) ?rf10
              case yf10 => (intro w hSw; (try dsimp only at hSw); go_simp; try with_reducible rfl)
              try simp only [Act.put, List.setIfInBounds_toArray, List.set_cons_zero, List.set_cons_succ]
              refine wpAnyH_done (by kernel_rfl) ?_ _
              go_wp2_with fail
              go_meet
              exact below_seq HBWA.out hb6'
            · have e3 : (kind == 3) = false := beq_eq_false_iff_ne.2 k3
              clear k3
              by_cases k4 : kind = 4
              · subst k4
                have e4 : ((4 : Int) == 4) = true := rfl
                have CS := Lib.hid (fun (W : World) => (show Calls Tryz.prog 10 #[.slice none 0 0, .slice none 0 0] W fun e w' => e = .returned (.bool true) ∧ Below W.heap.size W w' from by
                  have h := rrec_SameAll (.slice none 0 0) (.slice none 0 0) [] [] W (rrow_nil W) (rrow_nil W) (by decide)
                  rw [decide_eq_true rfl] at h
                  exact h))
                have CSP := Lib.hid (fun (W : World) => law_spoil (.slice none 0 0) [] W.heap.size W.heap.size W (ROwn.nil _ _) (by decide) (fun k hk => by cases hk) (fun z hz => by cases hz))
                go_wp2_with (first
                  | (go_at_call 17; refine (head_Take0 _).mono ?_; rintro e w2 ⟨rfl, rfl⟩)
                  | (go_at_call 18; refine (ref13_Take0 _).mono ?_; rintro e w3 ⟨rfl, rfl⟩)
                  | (go_at_call 10; refine (CS.out _).mono ?_; rintro e w4 ⟨rfl, hb4⟩)
                  | (go_at_call 11; refine (CSP.out _).mono ?_; rintro e w5 ⟨rfl, hb5, -⟩))
                go_meet
                exact below_seq HBWA.out (below_seq hb4 hb5)
              · have e4 : (kind == 4) = false := beq_eq_false_iff_ne.2 k4
                clear k4
                go_wp2_with fail
                go_meet
                exact HBWA.out
      case rest =>
        have HC := Lib.hid hcut
        clear hcut c0
        go_wp2_with (first
          | (go_at_call 19; refine (head_Len0 _).mono ?_; rintro e w4 ⟨rfl, rfl⟩)
          | (go_at_call 13; refine (ref13_All0 _).mono ?_; rintro e w5 ⟨rfl, rfl⟩))
        go_roundw
        case rel => exact ⟨k + 1, by go_num, by omega, HC.out⟩
        case measure => simp [intOf]; omega
    · have i1 : ¬ (k : Int) < (L.length : Int) := by omega
      go_wp2_with fail
      go_ret
      exact ⟨rfl, hbw⟩
theorem scripts_walk (v : Value) (L : List OpL) (none : Bool) (w : World) (hT : Tabs w) (hO : OpRow w v L) (hL : L.length ≤ 1048576) :
    Calls Tryz.prog 3 #[v, .bool none] w fun e w' => e = .returned (.bool true) ∧ Below w.heap.size w w' := by
  cases none
  · exact scripts_some v L w hT hO hL
  · exact scripts_none v L w hT hO hL
end Go.Proofs.YtaimldndooijdaaGreatDoor
