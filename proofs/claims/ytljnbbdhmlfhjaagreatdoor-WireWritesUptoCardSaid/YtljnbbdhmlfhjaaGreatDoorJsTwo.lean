/-
  The program's JSON parser: array.
-/
import Derived.Test.YtljnbbdhmlfhjaaGreatDoorJsG
import Derived.Test.YtljnbbdhmlfhjaaGreatDoorJsOne
import Derived.Test.YtljnbbdhmlfhjaaGreatDoorUtfV
import Derived.Laws.IdiomStrings
namespace Go.Proofs.YtljnbbdhmlfhjaaGreatDoor
open Go.RowKit
theorem nb_old {lo p n size : Nat} {wr w2 w9 : World} {e : TypeId} {v v9 : Value} {xs : List Value} {o : Obj} (hl : lo ≤ wr.heap.size) (hg2 : wr.grownBy w2 (some p)) (hp : p < lo) (hgr9 : (w2.alloc o).grownBy w9 v.ownBlock)
    (hloc : v9.ownBlock = v.ownBlock ∨ v9.ownBlock = some (w2.alloc o).heap.size) (_own : wr.ownsRow lo e size v n xs) : ∀ k, Nb lo wr v k → Nb lo w9 v9 k ∧ (k < wr.heap.size → w9.heap[k]? = wr.heap[k]?) := by
  rintro k ⟨h1, h2, h3⟩
  have hs2 := hg2.size
  have hs9 := hgr9.size
  have hsa : (w2.alloc o).heap.size = w2.heap.size + 1 := by simp
  refine ⟨⟨h1, by omega, fun e => ?_⟩, fun _ => ?_⟩
  · rcases hloc with h | h
    · exact h3 (h ▸ e)
    · rw [h] at e
      cases e
      omega
  · rw [hgr9.block k (by omega) (fun e => h3 e.symm), heap_alloc_old _ _ (by omega), hg2.block k h2 (fun e => by cases e; omega)]
theorem nb_new {lo p n size : Nat} {wr w2 w9 : World} {e : TypeId} {v v9 : Value} {xs : List Value} {o : Obj} (hl : lo ≤ wr.heap.size) (hg2 : wr.grownBy w2 (some p)) (hgr9 : (w2.alloc o).grownBy w9 v.ownBlock)
    (hloc : v9.ownBlock = v.ownBlock ∨ v9.ownBlock = some (w2.alloc o).heap.size) (own : wr.ownsRow lo e size v n xs) : ∀ k, Nw wr.heap.size w2 k → Nb lo w9 v9 k ∧ (k < w2.heap.size → w9.heap[k]? = w2.heap[k]?) := by
  rintro k ⟨h1, h2⟩
  have hs2 := hg2.size
  have hs9 := hgr9.size
  have hsa : (w2.alloc o).heap.size = w2.heap.size + 1 := by simp
  have h3 : v.ownBlock ≠ some k := fun e => by have := (own.lt k e).2; omega
  refine ⟨⟨by omega, by omega, fun e => ?_⟩, fun _ => ?_⟩
  · rcases hloc with h | h
    · exact h3 (h ▸ e)
    · rw [h] at e
      cases e
      omega
  · rw [hgr9.block k (by omega) (fun e => h3 e.symm), heap_alloc_old _ _ (by omega)]
theorem nb_turn {lo p : Nat} {wr w2 : World} {v : Value} (hg2 : wr.grownBy w2 (some p)) (hp : p < lo) : ∀ k, Nb lo wr v k → Nb lo w2 v k ∧ (k < wr.heap.size → w2.heap[k]? = wr.heap[k]?) := by
  rintro k ⟨h1, h2, h3⟩
  have hs2 := hg2.size
  exact ⟨⟨h1, by omega, h3⟩, fun _ => hg2.block k h2 (fun e => by cases e; omega)⟩
theorem rowS_own {lo n size : Nat} {w : World} {e : TypeId} {v : Value} {xs : List Value} (h : w.ownsRow lo e size v n xs) : RowS w (Nw lo w) v n size xs := by
  refine ⟨argRow_owns h, fun h0 a n' c ev => ?_⟩
  obtain ⟨hl, hr⟩ := h
  rcases hr with ⟨hv, hn, -⟩ | ⟨g, cap, cs, hv, hlo, hg, -⟩
  · omega
  · rw [hv] at ev
    cases ev
    exact ⟨hlo, (Array.getElem?_eq_some_iff.1 hg).1⟩
/-- An array under way. -/
structure AIt (w : World) (p : Nat) (wr : World) (v : Value) (l : List J) (vs : List Value) (r : Bs) (deep most : Nat) : Prop where
  plt : p < w.heap.size
  own : wr.ownsRow w.heap.size 20 1 v l.length vs
  rep : RepL wr (Nb w.heap.size wr v) l vs
  js : JS wr p r deep (max most (deep + deepL l))
  gr : w.grownBy wr (some p)
theorem AIt.to {w wr w2 : World} {p : Nat} {v : Value} {l : List J} {vs : List Value} {r r2 : Bs} {deep most : Nat} (h : AIt w p wr v l vs r deep most) (hj : JS w2 p r2 deep (max most (deep + deepL l))) (hg : wr.grownBy w2 (some p)) : AIt w p w2 v l vs r2 deep most :=
  ⟨h.plt, own_keptJ h.own hg (fun k hk => by cases hk; exact h.plt), RepL.to (nb_turn hg h.plt) l vs h.rep, hj, h.gr.trans hg⟩
theorem AIt.more {w wr w2 w9 : World} {p : Nat} {v v9 u : Value} {l : List J} {j : J} {vs : List Value} {r r1 : Bs} {deep most : Nat} {o : Obj} {n9 : Nat} {xs9 : List Value} (h : AIt w p wr v l vs r deep most)
    (hj : JS w2 p r1 deep (max (max most (deep + deepL l)) (deep + deepJ j))) (hg2 : wr.grownBy w2 (some p)) (hu : RepJ w2 (Nw wr.heap.size w2) j u)
    (hown : w9.ownsRow w.heap.size 20 1 v9 n9 xs9) (hgr9 : (w2.alloc o).grownBy w9 v.ownBlock) (hloc : v9.ownBlock = v.ownBlock ∨ v9.ownBlock = some (w2.alloc o).heap.size) (hn : n9 = l.length + 1) (hx : xs9 = vs ++ [u]) :
    AIt w p w9 v9 (l ++ [j]) (vs ++ [u]) r1 deep most := by
  subst hn hx
  have hb := belowAJ (o := o) (Below.refl w2.heap.size w2) (Nat.le_refl _)
  refine ⟨h.plt, by rw [List.length_append]; exact hown, repL_snoc (RepJ.to (nb_new h.gr.size hg2 hgr9 hloc h.own) j u hu) (RepL.to (nb_old h.gr.size hg2 h.plt hgr9 hloc h.own) l vs h.rep), ?_, ?_⟩
  · rw [deepL_snoc, show max most (deep + max (deepL l) (deepJ j)) = max (max most (deep + deepL l)) (deep + deepJ j) by omega]
    exact (hj.keptB hb).kept hgr9 (fun k hk => by have := (h.own.lt k hk).1; have := h.plt; omega)
  · exact grown_off ((h.gr.trans hg2).trans (grown_of_below hb (some p))) hgr9 (fun k hk => (h.own.lt k hk).1)
theorem AIt.done {w wr : World} {p : Nat} {v : Value} {l : List J} {vs : List Value} {r : Bs} {deep most : Nat} (h : AIt w p wr v l vs r deep most) : ArrR p w deep most (some (.arr l, r)) (.returned (.iface 42 v)) wr :=
  ⟨_, rfl, h.js, h.gr, _, vs, rfl, rowS_own h.own, RepL.to (fun k hk => ⟨⟨hk.1, hk.2.1⟩, fun _ => rfl⟩) l vs h.rep⟩
def preA (l : List J) : Option (List J × Bs) → Option (J × Bs)
  | none => none
  | some (l', r) => some (.arr (l ++ l'), r)
theorem preA_add (l : List J) (j : J) (o : Option (List J × Bs)) : preA l (addL j o) = preA (l ++ [j]) o := by
  cases o with
  | none => rfl
  | some x => simp [preA, addL]
theorem arr_pre (val : Bs → Option (J × Bs)) (s : Bs) (h : nextB 93 (sp s) = none) : arrP val s = preA [] (itemsL val (s.length + 1) (sp s)) := by
  unfold arrP
  rw [h]
  simp only []
  cases itemsL val (s.length + 1) (sp s) <;> rfl
set_option maxRecDepth 100000 in
set_option maxHeartbeats 20000000 in
theorem js_array (val : Bs → Option (J × Bs)) (n : Nat) (hok : ValOk val) (IH : ReadsJ val n) (p : Nat) (w : World) (s : Bs) (deep most : Nat) (hs : s.length ≤ n) (hs2 : s.length ≤ 1099511627776) (h : JS w p (91 :: s) deep most) (hdm : deep ≤ most) (hd : deep + s.length ≤ 1099511627776) :
    Calls Tryz.prog 79 #[.pointer (some ⟨p, 0, none⟩)] w (ArrR p w deep most (arrP val s)) := by
  have EI : ElemT Tryz.prog 42 20 .nilIface 1 16 := ⟨Tryz.underlying42, by kernel_rfl, rfl, by decide⟩
  have hpw := h.lt
  have C1 := js_next_yes p w s deep most 91 h
  have C2 := Lib.hid (fun W (hW : JS W p s deep most) => js_space p W s deep most hW)
  have hsl := sp_len s
  clear h
  cases hnx : nextB 93 (sp s) with
  | some r =>
    have e : arrP val s = some (.arr [], r) := by unfold arrP; rw [hnx]
    rw [e]
    have hsp := next_inv hnx
    have C3 := Lib.hid (fun W (hW : JS W p (sp s) deep most) => js_next_yes p W r deep most 93 (hsp ▸ hW))
    clear hnx e hsp
    go_enter Tryz.func79, Tryz.ntmps79
    go_upto_region 3 with (go_at_call 109; refine C1.mono ?_; rintro e w2 ⟨rfl, hj2, hg2⟩; have H2 := Lib.hid (And.intro hj2 hg2); clear hj2 hg2)
    have hb3 := belowAJ (o := .cells #[] 20) (Below.refl w2.heap.size w2) (Nat.le_refl _)
    have hj3 := H2.out.1.keptB hb3
    have ho3 := World.ownsRow_lit (base := w.heap.size) (e := 20) (size := 1) w2 #[] 0 H2.out.2.size (by decide) rfl
    have HT := Lib.hid (⟨hpw, ho3, rfl, by rw [show max most (deep + deepL []) = most by simp only [deepL]; omega]; exact hj3, H2.out.2.trans (grown_of_below hb3 _)⟩ : AIt w p (w2.alloc (.cells #[] 20)) (.slice (some ⟨w2.heap.size, 0, none⟩) 0 0) [] [] s deep most)
    clear hb3 ho3
    have C2' := C2.out _ hj3
    clear C2 hj3 C1
    go_upto_region 4 with (go_at_call 75; refine C2'.mono ?_; rintro e w4 ⟨rfl, hj4, hg4⟩; have H4 := Lib.hid (And.intro hj4 hg4); clear hj4 hg4)
    have C3' := C3.out w4 H4.out.1
    go_wp2_with (go_at_call 109; refine C3'.mono ?_; rintro e w5 ⟨rfl, hj5, hg5⟩; have H5 := Lib.hid (And.intro hj5 hg5); clear hj5 hg5)
    go_ret
    refine (HT.out.to (w2 := w5) (r2 := r) ?_ (H4.out.2.trans H5.out.2)).done
    rw [show max most (deep + deepL []) = most by simp only [deepL]; omega]
    exact H5.out.1
  | none =>
    obtain ⟨X, hX⟩ : ∃ X, arrP val s = X := ⟨_, rfl⟩
    rw [hX]
    have HX := Lib.hid ((arr_pre val s hnx).symm.trans hX)
    have C3 := Lib.hid (fun W (hW : JS W p (sp s) deep most) => js_next_no p W (sp s) deep most 93 hW hnx)
    have HIH := Lib.hid IH
    have HOK := Lib.hid hok
    clear hnx hX IH hok
    go_enter Tryz.func79, Tryz.ntmps79
    go_upto_region 3 with (go_at_call 109; refine C1.mono ?_; rintro e w2 ⟨rfl, hj2, hg2⟩; have H2 := Lib.hid (And.intro hj2 hg2); clear hj2 hg2)
    have hb3 := belowAJ (o := .cells #[] 20) (Below.refl w2.heap.size w2) (Nat.le_refl _)
    have hj3 := H2.out.1.keptB hb3
    have ho3 := World.ownsRow_lit (base := w.heap.size) (e := 20) (size := 1) w2 #[] 0 H2.out.2.size (by decide) rfl
    have HT := Lib.hid (⟨hpw, ho3, rfl, by rw [show max most (deep + deepL []) = most by simp only [deepL]; omega]; exact hj3, H2.out.2.trans (grown_of_below hb3 _)⟩ : AIt w p (w2.alloc (.cells #[] 20)) (.slice (some ⟨w2.heap.size, 0, none⟩) 0 0) [] [] s deep most)
    clear hb3 ho3
    have C2' := C2.out _ hj3
    clear C2 hj3 C1
    go_upto_region 4 with (go_at_call 75; refine C2'.mono ?_; rintro e w4 ⟨rfl, hj4, hg4⟩; have H4 := Lib.hid (And.intro hj4 hg4); clear hj4 hg4)
    have C3' := C3.out w4 H4.out.1
    have hT4 := HT.out.to (w2 := w4) (r2 := sp s) (by rw [show max most (deep + deepL []) = most by simp only [deepL]; omega]; exact H4.out.1) H4.out.2
    have HT4 := Lib.hid hT4
    clear hT4 HT C3
    go_upto_region 5 with (go_at_call 109; refine C3'.mono ?_; rintro e w5 ⟨rfl, rfl⟩)
    clear C3' H4
    go_loopg [3] (s.length + 1) (fun gk v wr => ∃ l vs r, AIt w p wr v l vs r deep most ∧ preA l (itemsL val gk r) = X ∧ r.length < gk ∧ l.length + r.length ≤ s.length)
    case atStart => exact ⟨[], [], sp s, HT4.out, HX.out, by omega, by simp; omega⟩
    case round =>
      obtain ⟨l, vs, r, ht, hx, hgk, hls⟩ := hrel
      obtain ⟨k, rfl⟩ : ∃ k, gk = k + 1 := ⟨gk - 1, by omega⟩
      obtain ⟨va, vc, rfl⟩ := owns_slice ht.own
      obtain ⟨N, hN⟩ : ∃ N, l.length = N := ⟨_, rfl⟩
      have CV := HIH.out p wr r deep (max most (deep + deepL l)) (by omega) (by omega) ht.js (by omega) (by omega)
      have HT := Lib.hid ht
      have HN := Lib.hid hN
      rw [hN] at HT hls ⊢
      simp only [itemsL] at hx
      clear ht hN HT4 HX HIH
      cases hv : val r with
      | none =>
        rw [hv] at hx CV
        obtain rfl : X = none := hx.symm
        clear hx hv
        go_wp2_with (go_at_call 43; refine CV.mono ?_; rintro e w5 ⟨rfl, hg5⟩)
        exact ⟨rfl, rfl, HT.out.gr.trans hg5⟩
      | some y =>
        obtain ⟨j, r1⟩ := y
        obtain ⟨hr1, -, -⟩ := HOK.out r j r1 hv
        rw [hv] at hx CV
        simp only at hx
        have HXX := Lib.hid hx
        have HGK := Lib.hid hgk
        have HLS := Lib.hid hls
        have HR1 := Lib.hid hr1
        have hsz := HT.out.gr.size
        have hNl : N ≤ 1099511627776 := by omega
        clear hx hv hgk hls hr1
        have hOWN := Lib.hid HT.out.own
        rw [HN.out] at hOWN
        rcases val_kind CV with CW | CW
        all_goals
          clear CV
          go_upto_region 7 with (first | (go_at_call 43; refine CW.mono ?_; rintro e w5 ⟨T, x, rfl, hj5, hg5, hu5⟩; have hsz5 := hg5.size; have hOW := fun o => (own_keptJ hOWN.out hg5 (fun k hk => by cases hk; exact hpw)).alloc o; have H5 := Lib.hid (And.intro hj5 (And.intro hg5 hu5)); clear hj5 hg5 hu5) | (at_builtin; go_loud (refine wpList_append_src rfl _ _ _ _ rfl w.heap.size EI _ N vs rfl (hOW _) _ 1 [_] rfl (by exact src_last (cs := #[_]) Tryz.underlying42 1 1 1 (by simp) rfl (by simp [Value.oneCell'])) (by unfold maxLen; omega) (by omega) (by simp; omega) ?_); intro v9 w9 hown9 hgr9 _ hloc9; have H9 := Lib.hid (And.intro hown9 (And.intro hgr9 hloc9)); clear hown9 hgr9 hloc9))
          have T9 := HT.out.more H5.out.1 H5.out.2.1 H5.out.2.2 H9.out.1 H9.out.2.1 H9.out.2.2 (by rw [HN.out]) rfl
          have HT9 := Lib.hid T9
          obtain ⟨va9, vc9, rfl⟩ := owns_slice H9.out.1
          clear T9 H9 H5 hOW CW hOWN
          cases hn93 : nextB 93 r1 with
          | some r2 =>
            have hX : X = some (.arr (l ++ [j]), r2) := by
              rw [← HXX.out]
              unfold moreP
              rw [hn93]
              rfl
            have C93 := js_next_yes p w9 r2 deep _ 93 (next_inv hn93 ▸ HT9.out.js)
            subst hX
            clear hn93
            go_wp2_with (go_at_call 109; refine C93.mono ?_; rintro e w10 ⟨rfl, hj10, hg10⟩; have H10 := Lib.hid (And.intro hj10 hg10); clear hj10 hg10)
            go_ret
            exact (HT9.out.to H10.out.1 H10.out.2).done
          | none =>
            have C93 := js_next_no p w9 r1 deep _ 93 HT9.out.js hn93
            go_upto_region 9 with (go_at_call 109; refine C93.mono ?_; rintro e w10 ⟨rfl, rfl⟩)
            cases hn44 : nextB 44 r1 with
            | none =>
              have hX : X = none := by
                rw [← HXX.out]
                unfold moreP
                rw [hn93, hn44]
                rfl
              subst hX
              have C44 := js_next_no p w9 r1 deep _ 44 HT9.out.js hn44
              clear hn93 hn44 C93
              go_wp2_with (first | (go_at_call 109; refine C44.mono ?_; rintro e w10 ⟨rfl, rfl⟩) | (go_at_call 44; refine (js_mustnt p _).mono ?_; rintro e w11 ⟨rfl, rfl⟩))
              exact ⟨rfl, rfl, HT9.out.gr⟩
            | some r2 =>
              have hX : preA (l ++ [j]) (itemsL val k r2) = X := by
                rw [← HXX.out]
                unfold moreP
                rw [hn93, hn44]
                exact (preA_add _ _ _).symm
              have HX2 := Lib.hid hX
              have C44 := js_next_yes p w9 r2 deep _ 44 (next_inv hn44 ▸ HT9.out.js)
              have hl44 := congrArg List.length (next_inv hn44)
              rw [List.length_cons] at hl44
              have HL := Lib.hid hl44
              clear hn93 hn44 C93 hX hl44
              go_wp2_with (first | (go_at_call 109; refine C44.mono ?_; rintro e w10 ⟨rfl, hj10, hg10⟩; have H10 := Lib.hid (And.intro hj10 hg10); clear hj10 hg10) | (go_at_call 44; refine (js_must p _).mono ?_; rintro e w11 ⟨rfl, rfl⟩))
              go_roundg k
              case measure => omega
              case rel =>
                have g1 := HL.out
                have g2 := HR1.out
                have g3 := HGK.out
                have g4 := HLS.out
                exact ⟨l ++ [j], _, r2, HT9.out.to H10.out.1 H10.out.2, HX2.out, by omega, by rw [List.length_append, List.length_singleton, HN.out]; omega⟩
end Go.Proofs.YtljnbbdhmlfhjaaGreatDoor
/-
  The program's JSON parser: object.
-/
namespace Go.Proofs.YtljnbbdhmlfhjaaGreatDoor
open Go.RowKit
/-- An object under way. -/
structure OIt (w : World) (p : Nat) (wr : World) (v : Value) (l : List (Bs × J)) (vs : List Value) (r : Bs) (deep most : Nat) : Prop where
  plt : p < w.heap.size
  own : wr.ownsRow w.heap.size 93 2 v l.length vs
  rep : RepM wr (Nb w.heap.size wr v) l vs
  js : JS wr p r deep (max most (deep + deepM l))
  gr : w.grownBy wr (some p)
theorem OIt.to {w wr w2 : World} {p : Nat} {v : Value} {l : List (Bs × J)} {vs : List Value} {r r2 : Bs} {deep most : Nat} (h : OIt w p wr v l vs r deep most) (hj : JS w2 p r2 deep (max most (deep + deepM l))) (hg : wr.grownBy w2 (some p)) : OIt w p w2 v l vs r2 deep most :=
  ⟨h.plt, own_keptJ h.own hg (fun k hk => by cases hk; exact h.plt), RepM.to (nb_turn hg h.plt) l vs h.rep, hj, h.gr.trans hg⟩
theorem OIt.more {w wr w2 w9 : World} {p : Nat} {v v9 u : Value} {l : List (Bs × J)} {nm : Bs} {j : J} {vs : List Value} {r r1 : Bs} {deep most : Nat} {o : Obj} {n9 : Nat} {xs9 : List Value} (h : OIt w p wr v l vs r deep most)
    (hj : JS w2 p r1 deep (max (max most (deep + deepM l)) (deep + deepJ j))) (hg2 : wr.grownBy w2 (some p)) (hu : RepJ w2 (Nw wr.heap.size w2) j u)
    (hown : w9.ownsRow w.heap.size 93 2 v9 n9 xs9) (hgr9 : (w2.alloc o).grownBy w9 v.ownBlock) (hloc : v9.ownBlock = v.ownBlock ∨ v9.ownBlock = some (w2.alloc o).heap.size) (hn : n9 = l.length + 1) (hx : xs9 = vs ++ [.string ⟨nm.toArray⟩, u]) :
    OIt w p w9 v9 (l ++ [(nm, j)]) (vs ++ [.string ⟨nm.toArray⟩, u]) r1 deep most := by
  subst hn hx
  have hb := belowAJ (o := o) (Below.refl w2.heap.size w2) (Nat.le_refl _)
  refine ⟨h.plt, by rw [List.length_append]; exact hown, repM_snoc (RepJ.to (nb_new h.gr.size hg2 hgr9 hloc h.own) j u hu) (RepM.to (nb_old h.gr.size hg2 h.plt hgr9 hloc h.own) l vs h.rep), ?_, ?_⟩
  · rw [deepM_snoc, show max most (deep + max (deepM l) (deepJ j)) = max (max most (deep + deepM l)) (deep + deepJ j) by omega]
    exact (hj.keptB hb).kept hgr9 (fun k hk => by have := (h.own.lt k hk).1; have := h.plt; omega)
  · exact grown_off ((h.gr.trans hg2).trans (grown_of_below hb (some p))) hgr9 (fun k hk => (h.own.lt k hk).1)
theorem OIt.done {w wr : World} {p : Nat} {v : Value} {l : List (Bs × J)} {vs : List Value} {r : Bs} {deep most : Nat} (h : OIt w p wr v l vs r deep most) : ArrR p w deep most (some (.obj l, r)) (.returned (.iface 79 v)) wr :=
  ⟨_, rfl, h.js, h.gr, _, vs, rfl, rowS_own h.own, RepM.to (fun k hk => ⟨⟨hk.1, hk.2.1⟩, fun _ => rfl⟩) l vs h.rep⟩
def preO (l : List (Bs × J)) : Option (List (Bs × J) × Bs) → Option (J × Bs)
  | none => none
  | some (l', r) => some (.obj (l ++ l'), r)
theorem preO_add (l : List (Bs × J)) (m : Bs × J) (o : Option (List (Bs × J) × Bs)) : preO l (addL m o) = preO (l ++ [m]) o := by
  cases o with
  | none => rfl
  | some x => simp [preO, addL]
theorem obj_pre (val : Bs → Option (J × Bs)) (s : Bs) (h : nextB 125 (sp s) = none) : objP val s = preO [] (memsL val (s.length + 1) (sp s)) := by
  unfold objP
  rw [h]
  simp only []
  cases memsL val (s.length + 1) (sp s) <;> rfl
set_option maxRecDepth 100000 in
set_option maxHeartbeats 40000000 in
theorem js_object (val : Bs → Option (J × Bs)) (n : Nat) (hok : ValOk val) (IH : ReadsJ val n) (p : Nat) (w : World) (s : Bs) (deep most : Nat) (hs : s.length ≤ n) (hs2 : s.length ≤ 1099511627776) (h : JS w p (123 :: s) deep most) (hdm : deep ≤ most) (hd : deep + s.length ≤ 1099511627776) :
    Calls Tryz.prog 80 #[.pointer (some ⟨p, 0, none⟩)] w (ArrR p w deep most (objP val s)) := by
  have EI : ElemT Tryz.prog 79 93 (.agg #[.string ⟨#[]⟩, .nilIface]) 2 32 := ⟨Tryz.underlying79, by kernel_rfl, rfl, by decide⟩
  have hpw := h.lt
  have C1 := js_next_yes p w s deep most 123 h
  have C2 := Lib.hid (fun W (hW : JS W p s deep most) => js_space p W s deep most hW)
  have hsl := sp_len s
  clear h
  cases hnx : nextB 125 (sp s) with
  | some r =>
    have e : objP val s = some (.obj [], r) := by unfold objP; rw [hnx]
    rw [e]
    have hsp := next_inv hnx
    have C3 := Lib.hid (fun W (hW : JS W p (sp s) deep most) => js_next_yes p W r deep most 125 (hsp ▸ hW))
    clear hnx e hsp
    go_enter Tryz.func80, Tryz.ntmps80
    go_upto_region 3 with (go_at_call 109; refine C1.mono ?_; rintro e w2 ⟨rfl, hj2, hg2⟩; have H2 := Lib.hid (And.intro hj2 hg2); clear hj2 hg2)
    have hb3 := belowAJ (o := .cells #[] 93) (Below.refl w2.heap.size w2) (Nat.le_refl _)
    have hj3 := H2.out.1.keptB hb3
    have ho3 := World.ownsRow_lit (base := w.heap.size) (e := 93) (size := 2) w2 #[] 0 H2.out.2.size (by decide) rfl
    have HT := Lib.hid (⟨hpw, ho3, rfl, by rw [show max most (deep + deepM []) = most by simp only [deepM]; omega]; exact hj3, H2.out.2.trans (grown_of_below hb3 _)⟩ : OIt w p (w2.alloc (.cells #[] 93)) (.slice (some ⟨w2.heap.size, 0, none⟩) 0 0) [] [] s deep most)
    clear hb3 ho3
    have C2' := C2.out _ hj3
    clear C2 hj3 C1
    go_upto_region 4 with (go_at_call 75; refine C2'.mono ?_; rintro e w4 ⟨rfl, hj4, hg4⟩; have H4 := Lib.hid (And.intro hj4 hg4); clear hj4 hg4)
    have C3' := C3.out w4 H4.out.1
    go_wp2_with (go_at_call 109; refine C3'.mono ?_; rintro e w5 ⟨rfl, hj5, hg5⟩; have H5 := Lib.hid (And.intro hj5 hg5); clear hj5 hg5)
    go_ret
    refine (HT.out.to (w2 := w5) (r2 := r) ?_ (H4.out.2.trans H5.out.2)).done
    rw [show max most (deep + deepM []) = most by simp only [deepM]; omega]
    exact H5.out.1
  | none =>
    obtain ⟨X, hX⟩ : ∃ X, objP val s = X := ⟨_, rfl⟩
    rw [hX]
    have HX := Lib.hid ((obj_pre val s hnx).symm.trans hX)
    have C3 := Lib.hid (fun W (hW : JS W p (sp s) deep most) => js_next_no p W (sp s) deep most 125 hW hnx)
    have HIH := Lib.hid IH
    have HOK := Lib.hid hok
    clear hnx hX IH hok
    go_enter Tryz.func80, Tryz.ntmps80
    go_upto_region 3 with (go_at_call 109; refine C1.mono ?_; rintro e w2 ⟨rfl, hj2, hg2⟩; have H2 := Lib.hid (And.intro hj2 hg2); clear hj2 hg2)
    have hb3 := belowAJ (o := .cells #[] 93) (Below.refl w2.heap.size w2) (Nat.le_refl _)
    have hj3 := H2.out.1.keptB hb3
    have ho3 := World.ownsRow_lit (base := w.heap.size) (e := 93) (size := 2) w2 #[] 0 H2.out.2.size (by decide) rfl
    have HT := Lib.hid (⟨hpw, ho3, rfl, by rw [show max most (deep + deepM []) = most by simp only [deepM]; omega]; exact hj3, H2.out.2.trans (grown_of_below hb3 _)⟩ : OIt w p (w2.alloc (.cells #[] 93)) (.slice (some ⟨w2.heap.size, 0, none⟩) 0 0) [] [] s deep most)
    clear hb3 ho3
    have C2' := C2.out _ hj3
    clear C2 hj3 C1
    go_upto_region 4 with (go_at_call 75; refine C2'.mono ?_; rintro e w4 ⟨rfl, hj4, hg4⟩; have H4 := Lib.hid (And.intro hj4 hg4); clear hj4 hg4)
    have C3' := C3.out w4 H4.out.1
    have hT4 := HT.out.to (w2 := w4) (r2 := sp s) (by rw [show max most (deep + deepM []) = most by simp only [deepM]; omega]; exact H4.out.1) H4.out.2
    have HT4 := Lib.hid hT4
    clear hT4 HT C3
    go_upto_region 5 with (go_at_call 109; refine C3'.mono ?_; rintro e w5 ⟨rfl, rfl⟩)
    clear C3' H4
    go_loopg [3] (s.length + 1) (fun gk v wr => ∃ l vs r, OIt w p wr v l vs r deep most ∧ preO l (memsL val gk r) = X ∧ r.length < gk ∧ l.length + r.length ≤ s.length)
    case atStart => exact ⟨[], [], sp s, HT4.out, HX.out, by omega, by simp; omega⟩
    case round =>
      obtain ⟨l, vs, r, ht, hx, hgk, hls⟩ := hrel
      obtain ⟨k, rfl⟩ : ∃ k, gk = k + 1 := ⟨gk - 1, by omega⟩
      obtain ⟨va, vc, rfl⟩ := owns_slice ht.own
      obtain ⟨N, hN⟩ : ∃ N, l.length = N := ⟨_, rfl⟩
      have C6 := js_space p wr r deep _ ht.js
      have HT := Lib.hid ht
      have HN := Lib.hid hN
      rw [hN] at HT hls ⊢
      simp only [memsL] at hx
      have hspr := sp_len r
      clear ht hN HT4 HX
      have hx' : ∀ y, memP' val r = y → (match y with
          | none => (none : Option (J × Bs))
          | some (m, r') => preO l (moreP 125 m (memsL val k) r')) = X := fun y hy => by
        rw [← hx, hy]
        cases y with
        | none => rfl
        | some y => rfl
      have HXM := Lib.hid hx'
      clear hx hx'
      go_upto_region 7 with (go_at_call 75; refine C6.mono ?_; rintro e w6 ⟨rfl, hj6, hg6⟩; have HT6 := Lib.hid (HT.out.to hj6 hg6); clear hj6 hg6)
      have CT := js_text p w6 (sp r) deep _ HT6.out.js (by omega)
      cases htx : textP (sp r) with
      | none =>
        rw [htx] at CT
        have hX : X = none := by
          rw [← HXM.out none (by unfold memP'; rw [htx])]
        subst hX
        clear htx
        go_wp2_with (go_at_call 78; refine CT.mono ?_; rintro e w7 ⟨rfl, hg7⟩)
        exact ⟨rfl, rfl, HT6.out.gr.trans hg7⟩
      | some y =>
        obtain ⟨nm, r1⟩ := y
        rw [htx] at CT
        obtain ⟨hr1, -, -⟩ := text_rdg htx
        have hsp1 := sp_len r1
        go_upto_region 8 with (go_at_call 78; refine CT.mono ?_; rintro e w7 ⟨rfl, hj7, hg7⟩; have HT7 := Lib.hid (HT6.out.to hj7 hg7); clear hj7 hg7)
        have C8 := js_space p w7 r1 deep _ HT7.out.js
        go_upto_region 9 with (go_at_call 75; refine C8.mono ?_; rintro e w8 ⟨rfl, hj8, hg8⟩; have HT8 := Lib.hid (HT7.out.to hj8 hg8); clear hj8 hg8)
        clear C6 CT C8
        cases hn58 : nextB 58 (sp r1) with
        | none =>
          have hX : X = none := by
            rw [← HXM.out none (by unfold memP'; rw [htx]; simp only [hn58])]
          subst hX
          have C58 := js_next_no p w8 (sp r1) deep _ 58 HT8.out.js hn58
          clear htx hn58
          go_wp2_with (first | (go_at_call 109; refine C58.mono ?_; rintro e w10 ⟨rfl, rfl⟩) | (go_at_call 44; refine (js_mustnt p _).mono ?_; rintro e w11 ⟨rfl, rfl⟩))
          exact ⟨rfl, rfl, HT8.out.gr⟩
        | some r2 =>
          have C58 := js_next_yes p w8 r2 deep _ 58 (next_inv hn58 ▸ HT8.out.js)
          have hl58 := congrArg List.length (next_inv hn58)
          rw [List.length_cons] at hl58
          go_upto_region 10 with (first | (go_at_call 109; refine C58.mono ?_; rintro e wx ⟨rfl, hj9, hg9⟩; have HTx := Lib.hid (HT8.out.to hj9 hg9); clear hj9 hg9) | (go_at_call 44; refine (js_must p _).mono ?_; rintro e w11 ⟨rfl, rfl⟩))
          have CV := HIH.out p wx r2 deep (max most (deep + deepM l)) (by omega) (by omega) HTx.out.js (by omega) (by omega)
          clear C58 HIH
          cases hv : val r2 with
          | none =>
            rw [hv] at CV
            have hX : X = none := by
              rw [← HXM.out none (by unfold memP'; rw [htx]; simp only [hn58, hv])]
            subst hX
            clear htx hn58 hv
            go_wp2_with (go_at_call 43; refine CV.mono ?_; rintro e w5 ⟨rfl, hg5⟩)
            exact ⟨rfl, rfl, HTx.out.gr.trans hg5⟩
          | some y =>
            obtain ⟨j, r3⟩ := y
            obtain ⟨hr3, -, -⟩ := HOK.out r2 j r3 hv
            have hx := HXM.out (some ((nm, j), r3)) (by unfold memP'; rw [htx]; simp only [hn58, hv])
            simp only at hx
            rw [hv] at CV
            have HXX := Lib.hid hx
            have HGK := Lib.hid hgk
            have HLS := Lib.hid hls
            have HR1 := Lib.hid (And.intro hspr (And.intro hr1 (And.intro hsp1 (And.intro hl58 hr3))))
            have hsz := HTx.out.gr.size
            have hNl : N ≤ 1099511627776 := by omega
            clear hx hv hgk hls hr1 htx hn58 HXM hspr hsp1 hl58 hr3
            have hOWN := Lib.hid HTx.out.own
            rw [HN.out] at hOWN
            clear HT HT6 HT7 HT8
            rcases val_kind CV with CW | CW
            all_goals
              clear CV
              go_upto_region 11 with (first | (go_at_call 43; refine CW.mono ?_; rintro e w5 ⟨T, x, rfl, hj5, hg5, hu5⟩; have hsz5 := hg5.size; have hOW := fun o => (own_keptJ hOWN.out hg5 (fun k hk => by cases hk; exact hpw)).alloc o; have H5 := Lib.hid (And.intro hj5 (And.intro hg5 hu5)); clear hj5 hg5 hu5) | (at_builtin; go_loud (refine wpList_append_src rfl _ _ _ _ rfl w.heap.size EI _ N vs rfl (hOW _) _ 1 [.string ⟨nm.toArray⟩, _] rfl (by exact src_last (cs := #[.string ⟨nm.toArray⟩, _]) Tryz.underlying79 1 1 2 (by simp) rfl (by simp [Value.oneCell'])) (by unfold maxLen; omega) (by omega) (by simp; omega) ?_); intro v9 w9 hown9 hgr9 _ hloc9; have H9 := Lib.hid (And.intro hown9 (And.intro hgr9 hloc9)); clear hown9 hgr9 hloc9))
              have T9 := HTx.out.more H5.out.1 H5.out.2.1 H5.out.2.2 H9.out.1 H9.out.2.1 H9.out.2.2 (by rw [HN.out]) rfl
              have HT9 := Lib.hid T9
              obtain ⟨va9, vc9, rfl⟩ := owns_slice H9.out.1
              clear T9 H9 H5 hOW CW hOWN
              cases hn93 : nextB 125 r3 with
              | some r4 =>
                have hX : X = some (.obj (l ++ [(nm, j)]), r4) := by
                  rw [← HXX.out]
                  unfold moreP
                  rw [hn93]
                  rfl
                have C93 := js_next_yes p w9 r4 deep _ 125 (next_inv hn93 ▸ HT9.out.js)
                subst hX
                clear hn93
                go_wp2_with (go_at_call 109; refine C93.mono ?_; rintro e w10 ⟨rfl, hj10, hg10⟩; have H10 := Lib.hid (And.intro hj10 hg10); clear hj10 hg10)
                go_ret
                exact (HT9.out.to H10.out.1 H10.out.2).done
              | none =>
                have C93 := js_next_no p w9 r3 deep _ 125 HT9.out.js hn93
                go_upto_region 13 with (go_at_call 109; refine C93.mono ?_; rintro e w10 ⟨rfl, rfl⟩)
                cases hn44 : nextB 44 r3 with
                | none =>
                  have hX : X = none := by
                    rw [← HXX.out]
                    unfold moreP
                    rw [hn93, hn44]
                    rfl
                  subst hX
                  have C44 := js_next_no p w9 r3 deep _ 44 HT9.out.js hn44
                  clear hn93 hn44 C93
                  go_wp2_with (first | (go_at_call 109; refine C44.mono ?_; rintro e w10 ⟨rfl, rfl⟩) | (go_at_call 44; refine (js_mustnt p _).mono ?_; rintro e w11 ⟨rfl, rfl⟩))
                  exact ⟨rfl, rfl, HT9.out.gr⟩
                | some r4 =>
                  have hX : preO (l ++ [(nm, j)]) (memsL val k r4) = X := by
                    rw [← HXX.out]
                    unfold moreP
                    rw [hn93, hn44]
                    exact (preO_add _ _ _).symm
                  have HX2 := Lib.hid hX
                  have C44 := js_next_yes p w9 r4 deep _ 44 (next_inv hn44 ▸ HT9.out.js)
                  have hl44 := congrArg List.length (next_inv hn44)
                  rw [List.length_cons] at hl44
                  have HL := Lib.hid hl44
                  clear hn93 hn44 C93 hX hl44
                  go_wp2_with (first | (go_at_call 109; refine C44.mono ?_; rintro e w10 ⟨rfl, hj10, hg10⟩; have H10 := Lib.hid (And.intro hj10 hg10); clear hj10 hg10) | (go_at_call 44; refine (js_must p _).mono ?_; rintro e w11 ⟨rfl, rfl⟩))
                  go_roundg k
                  case measure => omega
                  case rel =>
                    have g1 := HL.out
                    obtain ⟨g2, g5, g6, g7, g8⟩ := HR1.out
                    have g3 := HGK.out
                    have g4 := HLS.out
                    exact ⟨l ++ [(nm, j)], _, r4, HT9.out.to H10.out.1 H10.out.2, HX2.out, by omega, by rw [List.length_append, List.length_singleton, HN.out]; omega⟩
end Go.Proofs.YtljnbbdhmlfhjaaGreatDoor
/-
  The program's JSON parser: value.
-/
namespace Go.Proofs.YtljnbbdhmlfhjaaGreatDoor
open Go.RowKit
theorem headN_beq (S : Bs) (c : UInt8) (z : Int) (hz : z = c.toNat) (hc : 0 < c.toNat) : ((headN S : Int) == z) = decide (S.head? = some c) := by
  subst hz
  cases S with
  | nil =>
    have : ((0 : Nat) : Int) ≠ (c.toNat : Int) := by omega
    simp [headN, this]
    omega
  | cons d S =>
    rw [Bool.eq_iff_iff]
    simp only [headN, beq_iff_eq, List.head?_cons, Option.some.injEq, decide_eq_true_eq]
    exact ⟨fun h => UInt8.toNat_inj.1 (by omega), fun h => by rw [h]⟩
theorem JS.setDeep {w : World} {p : Nat} {s : Bs} {deep most : Nat} (h : JS w p s deep most) (d : Nat) (z : Int) (hz : z = (d : Int)) : JS (w.setCell ⟨p, 1, none⟩ (.int .i64 z)) p s d most ∧ w.grownBy (w.setCell ⟨p, 1, none⟩ (.int .i64 z)) (some p) := by
  subst hz
  obtain ⟨sv, h⟩ := h
  have hg := gset w p 1 (.int .i64 (d : Int))
  refine ⟨⟨sv, ?_, fun W hW => h.row W (Below.trans (grown_low hg (Nat.le_of_lt h.lt)) hW)⟩, hg⟩
  rw [heap_setCell_same _ _ _ _ _ _ h.own]
  rfl
theorem JS.setMost {w : World} {p : Nat} {s : Bs} {deep most : Nat} (h : JS w p s deep most) (d : Nat) (z : Int) (hz : z = (d : Int)) : JS (w.setCell ⟨p, 2, none⟩ (.int .i64 z)) p s deep d ∧ w.grownBy (w.setCell ⟨p, 2, none⟩ (.int .i64 z)) (some p) := by
  subst hz
  obtain ⟨sv, h⟩ := h
  have hg := gset w p 2 (.int .i64 (d : Int))
  refine ⟨⟨sv, ?_, fun W hW => h.row W (Below.trans (grown_low hg (Nat.le_of_lt h.lt)) hW)⟩, hg⟩
  rw [heap_setCell_same _ _ _ _ _ _ h.own]
  rfl
theorem val_fin {p : Nat} {w W W' : World} {j : J} {r' : Bs} {deep most m : Nat} {v : Value} (hpw : p < w.heap.size) (hg : w.grownBy W (some p)) (hrep : RepJ W (Nw w.heap.size W) j v) (hj' : JS W' p r' deep m) (hg' : W.grownBy W' (some p)) (hm : m = max most (deep + deepJ j)) :
    ValR p w deep most (some (j, r')) (.returned v) W' := by
  subst hm
  refine ⟨v, rfl, hj', hg.trans hg', RepJ.to (fun k hk => ?_) j v hrep⟩
  obtain ⟨h1, h2⟩ := hk
  have := hg'.size
  exact ⟨⟨h1, by omega⟩, fun _ => hg'.block k h2 (fun e => by cases e; omega)⟩
theorem arr_deep (val : Bs → Option (J × Bs)) (s : Bs) (j : J) (r : Bs) (h : arrP val s = some (j, r)) : 1 ≤ deepJ j := by
  unfold arrP at h
  split at h
  · cases h; simp only [deepJ]; omega
  · split at h
    · cases h
    · cases h; simp only [deepJ]; omega
theorem obj_deep (val : Bs → Option (J × Bs)) (s : Bs) (j : J) (r : Bs) (h : objP val s = some (j, r)) : 1 ≤ deepJ j := by
  unfold objP at h
  split at h
  · cases h; simp only [deepJ]; omega
  · split at h
    · cases h
    · cases h; simp only [deepJ]; omega
set_option maxRecDepth 100000 in
set_option maxHeartbeats 40000000 in
theorem js_value (k : Nat) (hIH : ∀ k', k = k' + 1 → ReadsJ (valP k) k') : ReadsJ (valP (k + 1)) k := by
  intro p w s deep most hsk hs2 h hdm hd
  have hpw := h.lt
  have C1 := js_space p w s deep most h
  have hsl := sp_len s
  obtain ⟨S, hS⟩ : ∃ S, sp s = S := ⟨_, rfl⟩
  have hv : valP (k + 1) s = spR (barP (valP k) S) := by rw [valP, hS]
  rw [hv]
  rw [hS] at C1 hsl
  have CSP := Lib.hid (fun W s' m' (hW : JS W p s' deep m') => js_space p W s' deep m' hW)
  have CPK := Lib.hid (fun W (hW : JS W p S deep most) => js_peek p W S deep most hW)
  have e110 := headN_beq S 110 110 rfl (by decide)
  have e116 := headN_beq S 116 116 rfl (by decide)
  have e102 := headN_beq S 102 102 rfl (by decide)
  have e34 := headN_beq S 34 34 rfl (by decide)
  have e91 := headN_beq S 91 91 rfl (by decide)
  have e123 := headN_beq S 123 123 rfl (by decide)
  clear h hS hv
  by_cases h1 : S.head? = some 110
  · have hb : barP (valP k) S = wordP nullB .nul S := by unfold barP; rw [if_pos h1]
    rw [hb]
    rw [decide_eq_true h1] at e110
    have CW := Lib.hid (fun W (hW : JS W p S deep most) => js_word p W S deep most ⟨#[110, 117, 108, 108]⟩ .nilIface .nul (by decide) (by decide) hW)
    rw [show (⟨#[110, 117, 108, 108]⟩ : ByteArray).data.toList = nullB from rfl] at CW
    clear e116 e102 e34 e91 e123 hb h1
    generalize (headN S : Int) = x at *
    cases hr : wordP nullB .nul S with
    | none =>
      rw [hr] at CW
      go_enter Tryz.func43, Tryz.ntmps43
      go_wp2_with (first | (go_at_call 75; refine C1.mono ?_; rintro e w2 ⟨rfl, hj2, hg2⟩; have H2 := Lib.hid (And.intro hj2 hg2); clear hj2 hg2) | (go_at_call 76; refine (CPK.out _ H2.out.1).mono ?_; rintro e w3 ⟨rfl, rfl⟩) | (go_at_call 77; refine (CW.out _ H2.out.1).mono ?_; rintro e w4 ⟨rfl, hg4⟩))
      exact ⟨rfl, rfl, H2.out.2.trans hg4⟩
    | some y =>
      obtain ⟨j, r⟩ := y
      obtain ⟨-, rfl⟩ := word_inv _ _ _ _ _ hr
      rw [hr] at CW
      go_enter Tryz.func43, Tryz.ntmps43
      go_upto_region 25 with (first | (go_at_call 75; refine C1.mono ?_; rintro e w2 ⟨rfl, hj2, hg2⟩; have H2 := Lib.hid (And.intro hj2 hg2); clear hj2 hg2) | (go_at_call 76; refine (CPK.out _ H2.out.1).mono ?_; rintro e w3 ⟨rfl, rfl⟩) | (go_at_call 77; refine (CW.out _ H2.out.1).mono ?_; rintro e w4 ⟨rfl, hj4, hg4⟩; have H4 := Lib.hid (And.intro hj4 hg4); clear hj4 hg4))
      have C2 := CSP.out w4 _ _ H4.out.1
      go_wp2_with (go_at_call 75; refine C2.mono ?_; rintro e w5 ⟨rfl, hj5, hg5⟩; have H5 := Lib.hid (And.intro hj5 hg5); clear hj5 hg5)
      go_ret
      exact val_fin hpw (H2.out.2.trans H4.out.2) rfl H5.out.1 H5.out.2 (by simp only [deepJ]; omega)
  by_cases h2 : S.head? = some 116
  · have hb : barP (valP k) S = wordP trueB (.bool true) S := by unfold barP; rw [if_neg h1, if_pos h2]
    rw [hb]
    rw [decide_eq_true h2] at e116
    rw [decide_eq_false h1] at e110
    have CW := Lib.hid (fun W (hW : JS W p S deep most) => js_word p W S deep most ⟨#[116, 114, 117, 101]⟩ (.iface 4 (.bool true)) (.bool true) (by decide) (by decide) hW)
    rw [show (⟨#[116, 114, 117, 101]⟩ : ByteArray).data.toList = trueB from rfl] at CW
    clear e102 e34 e91 e123 hb h1 h2
    generalize (headN S : Int) = x at *
    cases hr : wordP trueB (.bool true) S with
    | none =>
      rw [hr] at CW
      go_enter Tryz.func43, Tryz.ntmps43
      go_wp2_with (first | (go_at_call 75; refine C1.mono ?_; rintro e w2 ⟨rfl, hj2, hg2⟩; have H2 := Lib.hid (And.intro hj2 hg2); clear hj2 hg2) | (go_at_call 76; refine (CPK.out _ H2.out.1).mono ?_; rintro e w3 ⟨rfl, rfl⟩) | (go_at_call 77; refine (CW.out _ H2.out.1).mono ?_; rintro e w4 ⟨rfl, hg4⟩))
      exact ⟨rfl, rfl, H2.out.2.trans hg4⟩
    | some y =>
      obtain ⟨j, r⟩ := y
      obtain ⟨-, rfl⟩ := word_inv _ _ _ _ _ hr
      rw [hr] at CW
      go_enter Tryz.func43, Tryz.ntmps43
      go_upto_region 25 with (first | (go_at_call 75; refine C1.mono ?_; rintro e w2 ⟨rfl, hj2, hg2⟩; have H2 := Lib.hid (And.intro hj2 hg2); clear hj2 hg2) | (go_at_call 76; refine (CPK.out _ H2.out.1).mono ?_; rintro e w3 ⟨rfl, rfl⟩) | (go_at_call 77; refine (CW.out _ H2.out.1).mono ?_; rintro e w4 ⟨rfl, hj4, hg4⟩; have H4 := Lib.hid (And.intro hj4 hg4); clear hj4 hg4))
      have C2 := CSP.out w4 _ _ H4.out.1
      go_wp2_with (go_at_call 75; refine C2.mono ?_; rintro e w5 ⟨rfl, hj5, hg5⟩; have H5 := Lib.hid (And.intro hj5 hg5); clear hj5 hg5)
      go_ret
      exact val_fin hpw (H2.out.2.trans H4.out.2) rfl H5.out.1 H5.out.2 (by simp only [deepJ]; omega)
  by_cases h3 : S.head? = some 102
  · have hb : barP (valP k) S = wordP falseB (.bool false) S := by unfold barP; rw [if_neg h1, if_neg h2, if_pos h3]
    rw [hb]
    rw [decide_eq_true h3] at e102
    rw [decide_eq_false h1] at e110
    rw [decide_eq_false h2] at e116
    have CW := Lib.hid (fun W (hW : JS W p S deep most) => js_word p W S deep most ⟨#[102, 97, 108, 115, 101]⟩ (.iface 4 (.bool false)) (.bool false) (by decide) (by decide) hW)
    rw [show (⟨#[102, 97, 108, 115, 101]⟩ : ByteArray).data.toList = falseB from rfl] at CW
    clear e34 e91 e123 hb h1 h2 h3
    generalize (headN S : Int) = x at *
    cases hr : wordP falseB (.bool false) S with
    | none =>
      rw [hr] at CW
      go_enter Tryz.func43, Tryz.ntmps43
      go_wp2_with (first | (go_at_call 75; refine C1.mono ?_; rintro e w2 ⟨rfl, hj2, hg2⟩; have H2 := Lib.hid (And.intro hj2 hg2); clear hj2 hg2) | (go_at_call 76; refine (CPK.out _ H2.out.1).mono ?_; rintro e w3 ⟨rfl, rfl⟩) | (go_at_call 77; refine (CW.out _ H2.out.1).mono ?_; rintro e w4 ⟨rfl, hg4⟩))
      exact ⟨rfl, rfl, H2.out.2.trans hg4⟩
    | some y =>
      obtain ⟨j, r⟩ := y
      obtain ⟨-, rfl⟩ := word_inv _ _ _ _ _ hr
      rw [hr] at CW
      go_enter Tryz.func43, Tryz.ntmps43
      go_upto_region 25 with (first | (go_at_call 75; refine C1.mono ?_; rintro e w2 ⟨rfl, hj2, hg2⟩; have H2 := Lib.hid (And.intro hj2 hg2); clear hj2 hg2) | (go_at_call 76; refine (CPK.out _ H2.out.1).mono ?_; rintro e w3 ⟨rfl, rfl⟩) | (go_at_call 77; refine (CW.out _ H2.out.1).mono ?_; rintro e w4 ⟨rfl, hj4, hg4⟩; have H4 := Lib.hid (And.intro hj4 hg4); clear hj4 hg4))
      have C2 := CSP.out w4 _ _ H4.out.1
      go_wp2_with (go_at_call 75; refine C2.mono ?_; rintro e w5 ⟨rfl, hj5, hg5⟩; have H5 := Lib.hid (And.intro hj5 hg5); clear hj5 hg5)
      go_ret
      exact val_fin hpw (H2.out.2.trans H4.out.2) rfl H5.out.1 H5.out.2 (by simp only [deepJ]; omega)
  by_cases h4 : S.head? = some 34
  · have hb : barP (valP k) S = strPJ S := by unfold barP; rw [if_neg h1, if_neg h2, if_neg h3, if_pos h4]
    rw [hb]
    rw [decide_eq_true h4] at e34
    rw [decide_eq_false h1] at e110
    rw [decide_eq_false h2] at e116
    rw [decide_eq_false h3] at e102
    have CW := Lib.hid (fun W (hW : JS W p S deep most) => js_text p W S deep most hW (by omega))
    clear e91 e123 hb h1 h2 h3 h4
    generalize (headN S : Int) = x at *
    cases hr : textP S with
    | none =>
      have hsp : strPJ S = none := by unfold strPJ; rw [hr]
      rw [hsp]
      rw [hr] at CW
      go_enter Tryz.func43, Tryz.ntmps43
      go_wp2_with (first | (go_at_call 75; refine C1.mono ?_; rintro e w2 ⟨rfl, hj2, hg2⟩; have H2 := Lib.hid (And.intro hj2 hg2); clear hj2 hg2) | (go_at_call 76; refine (CPK.out _ H2.out.1).mono ?_; rintro e w3 ⟨rfl, rfl⟩) | (go_at_call 78; refine (CW.out _ H2.out.1).mono ?_; rintro e w4 ⟨rfl, hg4⟩))
      exact ⟨rfl, rfl, H2.out.2.trans hg4⟩
    | some y =>
      obtain ⟨t, r⟩ := y
      have hsp : strPJ S = some (.str t, r) := by unfold strPJ; rw [hr]
      rw [hsp]
      rw [hr] at CW
      go_enter Tryz.func43, Tryz.ntmps43
      go_upto_region 25 with (first | (go_at_call 75; refine C1.mono ?_; rintro e w2 ⟨rfl, hj2, hg2⟩; have H2 := Lib.hid (And.intro hj2 hg2); clear hj2 hg2) | (go_at_call 76; refine (CPK.out _ H2.out.1).mono ?_; rintro e w3 ⟨rfl, rfl⟩) | (go_at_call 78; refine (CW.out _ H2.out.1).mono ?_; rintro e w4 ⟨rfl, hj4, hg4⟩; have H4 := Lib.hid (And.intro hj4 hg4); clear hj4 hg4))
      have C2 := CSP.out w4 _ _ H4.out.1
      go_wp2_with (go_at_call 75; refine C2.mono ?_; rintro e w5 ⟨rfl, hj5, hg5⟩; have H5 := Lib.hid (And.intro hj5 hg5); clear hj5 hg5)
      go_ret
      exact val_fin (j := .str t) hpw (H2.out.2.trans H4.out.2) rfl H5.out.1 H5.out.2 (by simp only [deepJ]; omega)
  by_cases h5 : S.head? = some 91
  · have hb : barP (valP k) S = arrP (valP k) (S.drop 1) := by unfold barP; rw [if_neg h1, if_neg h2, if_neg h3, if_neg h4, if_pos h5]
    rw [hb]
    rw [decide_eq_true h5] at e91
    rw [decide_eq_false h1] at e110
    rw [decide_eq_false h2] at e116
    rw [decide_eq_false h3] at e102
    rw [decide_eq_false h4] at e34
    obtain ⟨S', hS'⟩ : ∃ S', S = 91 :: S' := ⟨_, head_cons h5⟩
    have hdr : S.drop 1 = S' := by rw [hS']; rfl
    rw [hdr]
    have hlS := congrArg List.length hS'
    rw [List.length_cons] at hlS
    obtain ⟨k', rfl⟩ : ∃ k', k = k' + 1 := ⟨k - 1, by omega⟩
    have IH := hIH k' rfl
    have CW := Lib.hid (fun W m (hm : deep + 1 ≤ m) (hW : JS W p S (deep + 1) m) => js_array (valP (k' + 1)) k' (val_rdg _) IH p W S' (deep + 1) m (by omega) (by omega) (hS' ▸ hW) hm (by omega))
    have hdp : ∀ j r, arrP (valP (k' + 1)) S' = some (j, r) → 1 ≤ deepJ j := arr_deep _ _
    obtain ⟨Y, hY⟩ : ∃ Y, arrP (valP (k' + 1)) S' = Y := ⟨_, rfl⟩
    rw [hY] at CW hdp ⊢
    have HDP := Lib.hid hdp
    clear e123 hb h1 h2 h3 h4 h5 hS' hdr hlS IH hIH hY hdp
    generalize (headN S : Int) = x at *
    go_enter Tryz.func43, Tryz.ntmps43
    go_upto_region 19 with (first | (go_at_call 75; refine C1.mono ?_; rintro e w2 ⟨rfl, hj2, hg2⟩; have H2 := Lib.hid (And.intro hj2 hg2); clear hj2 hg2) | (go_at_call 76; refine (CPK.out _ H2.out.1).mono ?_; rintro e w3 ⟨rfl, rfl⟩))
    obtain ⟨sv, hst⟩ := H2.out.1
    obtain ⟨⟨-, c1, c2⟩, -, f1, f2⟩ := hst.cells
    clear hst
    go_cut [] from 59 to 65 (fun wx => JS wx p S (deep + 1) most ∧ w2.grownBy wx (some p))
    case first =>
      clear CW HDP CSP CPK C1
      go_wp2
      go_meet
      exact H2.out.1.setDeep (deep + 1) _ (by omega)
    case rest =>
      have H3 := Lib.hid hcut
      obtain ⟨w3, hw3⟩ : ∃ w3 : World, w3 = wc := ⟨_, rfl⟩
      subst hw3
      clear c1 c2 f1 f2 hcut
      obtain ⟨sv, hst⟩ := H3.out.1
      obtain ⟨⟨-, c1, c2⟩, -, f1, f2⟩ := hst.cells
      clear hst
      go_upto_region 20 with fail
      go_cut [] from 66 to 77 (fun wx => JS wx p S (deep + 1) (max most (deep + 1)) ∧ w3.grownBy wx (some p))
      case first =>
        clear CW HDP CSP CPK C1
        have hdr := (Below.refl w3.heap.size w3).drew
        have hm := (H3.out.1.keptB hdr).setMost (max most (deep + 1)) (max (most : Int) ((deep + 1 : Nat) : Int)) (by omega)
        have HM := Lib.hid (And.intro hm.1 ((grown_of_below hdr (some p)).trans hm.2))
        clear hm hdr
        go_region_law (fail)
        all_goals
          go_wp2_with fail
          go_meet
          exact HM.out
      case rest =>
        have H4 := Lib.hid hcut
        obtain ⟨w4, hw4⟩ : ∃ w4 : World, w4 = wc := ⟨_, rfl⟩
        subst hw4
        clear c1 c2 f1 f2 hcut
        have CA := CW.out w4 _ (by omega) H4.out.1
        clear CW
        cases Y with
        | none =>
          go_wp2_with (go_at_call 79; refine CA.mono ?_; rintro e w5 ⟨rfl, hg5⟩)
          exact ⟨rfl, rfl, H2.out.2.trans (H3.out.2.trans (H4.out.2.trans hg5))⟩
        | some y =>
          obtain ⟨j, r⟩ := y
          go_upto_region 24 with (go_at_call 79; refine CA.mono ?_; rintro e w5 ⟨v5, rfl, hj5, hg5, hu5⟩; have H5 := Lib.hid (And.intro hj5 (And.intro hg5 hu5)); clear hj5 hg5 hu5)
          obtain ⟨sv, hst⟩ := H5.out.1
          obtain ⟨⟨-, c1, c2⟩, -, f1, f2⟩ := hst.cells
          clear hst CA
          have hd1 := HDP.out j r rfl
          have hh := H5.out.1
          rw [show max (max most (deep + 1)) (deep + 1 + (deepJ j - 1)) = max most (deep + deepJ j) by omega] at hh
          have H6 := Lib.hid (hh.setDeep deep (deep : Int) rfl)
          have C2 := Lib.hid (CSP.out _ _ _ H6.out.1)
          clear hh hd1
          go_wp2_with (go_at_call 75; refine C2.out.mono ?_; rintro e w7 ⟨rfl, hj7, hg7⟩; have H7 := Lib.hid (And.intro hj7 hg7); clear hj7 hg7)
          go_ret
          have g4 : w.grownBy w4 (some p) := H2.out.2.trans (H3.out.2.trans H4.out.2)
          exact val_fin hpw (g4.trans H5.out.2.1) (RepJ.to (fun k hk => ⟨⟨Nat.le_trans g4.size hk.1, hk.2⟩, fun _ => rfl⟩) j v5 H5.out.2.2) H7.out.1 (H6.out.2.trans H7.out.2) rfl
  by_cases h6 : S.head? = some 123
  · have hb : barP (valP k) S = objP (valP k) (S.drop 1) := by unfold barP; rw [if_neg h1, if_neg h2, if_neg h3, if_neg h4, if_neg h5, if_pos h6]
    rw [hb]
    rw [decide_eq_true h6] at e123
    rw [decide_eq_false h1] at e110
    rw [decide_eq_false h2] at e116
    rw [decide_eq_false h3] at e102
    rw [decide_eq_false h4] at e34
    rw [decide_eq_false h5] at e91
    obtain ⟨S', hS'⟩ : ∃ S', S = 123 :: S' := ⟨_, head_cons h6⟩
    have hdr : S.drop 1 = S' := by rw [hS']; rfl
    rw [hdr]
    have hlS := congrArg List.length hS'
    rw [List.length_cons] at hlS
    obtain ⟨k', rfl⟩ : ∃ k', k = k' + 1 := ⟨k - 1, by omega⟩
    have IH := hIH k' rfl
    have CW := Lib.hid (fun W m (hm : deep + 1 ≤ m) (hW : JS W p S (deep + 1) m) => js_object (valP (k' + 1)) k' (val_rdg _) IH p W S' (deep + 1) m (by omega) (by omega) (hS' ▸ hW) hm (by omega))
    have hdp : ∀ j r, objP (valP (k' + 1)) S' = some (j, r) → 1 ≤ deepJ j := obj_deep _ _
    obtain ⟨Y, hY⟩ : ∃ Y, objP (valP (k' + 1)) S' = Y := ⟨_, rfl⟩
    rw [hY] at CW hdp ⊢
    have HDP := Lib.hid hdp
    clear  hb h1 h2 h3 h4 h5 h6 hS' hdr hlS IH hIH hY hdp
    generalize (headN S : Int) = x at *
    go_enter Tryz.func43, Tryz.ntmps43
    go_upto_region 19 with (first | (go_at_call 75; refine C1.mono ?_; rintro e w2 ⟨rfl, hj2, hg2⟩; have H2 := Lib.hid (And.intro hj2 hg2); clear hj2 hg2) | (go_at_call 76; refine (CPK.out _ H2.out.1).mono ?_; rintro e w3 ⟨rfl, rfl⟩))
    obtain ⟨sv, hst⟩ := H2.out.1
    obtain ⟨⟨-, c1, c2⟩, -, f1, f2⟩ := hst.cells
    clear hst
    go_cut [] from 59 to 65 (fun wx => JS wx p S (deep + 1) most ∧ w2.grownBy wx (some p))
    case first =>
      clear CW HDP CSP CPK C1
      go_wp2
      go_meet
      exact H2.out.1.setDeep (deep + 1) _ (by omega)
    case rest =>
      have H3 := Lib.hid hcut
      obtain ⟨w3, hw3⟩ : ∃ w3 : World, w3 = wc := ⟨_, rfl⟩
      subst hw3
      clear c1 c2 f1 f2 hcut
      obtain ⟨sv, hst⟩ := H3.out.1
      obtain ⟨⟨-, c1, c2⟩, -, f1, f2⟩ := hst.cells
      clear hst
      go_upto_region 20 with fail
      go_cut [] from 66 to 77 (fun wx => JS wx p S (deep + 1) (max most (deep + 1)) ∧ w3.grownBy wx (some p))
      case first =>
        clear CW HDP CSP CPK C1
        have hdr := (Below.refl w3.heap.size w3).drew
        have hm := (H3.out.1.keptB hdr).setMost (max most (deep + 1)) (max (most : Int) ((deep + 1 : Nat) : Int)) (by omega)
        have HM := Lib.hid (And.intro hm.1 ((grown_of_below hdr (some p)).trans hm.2))
        clear hm hdr
        go_region_law (fail)
        all_goals
          go_wp2_with fail
          go_meet
          exact HM.out
      case rest =>
        have H4 := Lib.hid hcut
        obtain ⟨w4, hw4⟩ : ∃ w4 : World, w4 = wc := ⟨_, rfl⟩
        subst hw4
        clear c1 c2 f1 f2 hcut
        have CA := CW.out w4 _ (by omega) H4.out.1
        clear CW
        cases Y with
        | none =>
          go_wp2_with (go_at_call 80; refine CA.mono ?_; rintro e w5 ⟨rfl, hg5⟩)
          exact ⟨rfl, rfl, H2.out.2.trans (H3.out.2.trans (H4.out.2.trans hg5))⟩
        | some y =>
          obtain ⟨j, r⟩ := y
          go_upto_region 24 with (go_at_call 80; refine CA.mono ?_; rintro e w5 ⟨v5, rfl, hj5, hg5, hu5⟩; have H5 := Lib.hid (And.intro hj5 (And.intro hg5 hu5)); clear hj5 hg5 hu5)
          obtain ⟨sv, hst⟩ := H5.out.1
          obtain ⟨⟨-, c1, c2⟩, -, f1, f2⟩ := hst.cells
          clear hst CA
          have hd1 := HDP.out j r rfl
          have hh := H5.out.1
          rw [show max (max most (deep + 1)) (deep + 1 + (deepJ j - 1)) = max most (deep + deepJ j) by omega] at hh
          have H6 := Lib.hid (hh.setDeep deep (deep : Int) rfl)
          have C2 := Lib.hid (CSP.out _ _ _ H6.out.1)
          clear hh hd1
          go_wp2_with (go_at_call 75; refine C2.out.mono ?_; rintro e w7 ⟨rfl, hj7, hg7⟩; have H7 := Lib.hid (And.intro hj7 hg7); clear hj7 hg7)
          go_ret
          have g4 : w.grownBy w4 (some p) := H2.out.2.trans (H3.out.2.trans H4.out.2)
          exact val_fin hpw (g4.trans H5.out.2.1) (RepJ.to (fun k hk => ⟨⟨Nat.le_trans g4.size hk.1, hk.2⟩, fun _ => rfl⟩) j v5 H5.out.2.2) H7.out.1 (H6.out.2.trans H7.out.2) rfl
  have hb : barP (valP k) S = numP S := by unfold barP; rw [if_neg h1, if_neg h2, if_neg h3, if_neg h4, if_neg h5, if_neg h6]
  rw [hb]
  rw [decide_eq_false h1] at e110
  rw [decide_eq_false h2] at e116
  rw [decide_eq_false h3] at e102
  rw [decide_eq_false h4] at e34
  rw [decide_eq_false h5] at e91
  rw [decide_eq_false h6] at e123
  clear hb h1 h2 h3 h4 h5 h6 hIH
  generalize (headN S : Int) = x at *
  obtain ⟨n, hn⟩ : ∃ n, numN S = n := ⟨_, rfl⟩
  by_cases hn0 : n = 0
  · have hp : numP S = none := by unfold numP; rw [hn, if_pos hn0]
    rw [hp]
    go_enter Tryz.func43, Tryz.ntmps43
    go_upto_region 5 with (first | (go_at_call 75; refine C1.mono ?_; rintro e w2 ⟨rfl, hj2, hg2⟩; have H2 := Lib.hid (And.intro hj2 hg2); clear hj2 hg2) | (go_at_call 76; refine (CPK.out _ H2.out.1).mono ?_; rintro e w3 ⟨rfl, rfl⟩))
    clear C1 CPK e110 e116 e102 e34 e91 e123
    obtain ⟨sv, hst⟩ := H2.out.1
    obtain ⟨⟨c0, -, -⟩, -, -, -⟩ := hst.cells
    obtain ⟨a, cap, rfl, g1, g2⟩ := hst.shape
    have CN := js_number _ S w2 (hst.row w2 (Below.refl _ _)) (by omega)
    rw [hn, hn0] at CN
    clear hst hp hn hn0
    go_wp2_with (first | (go_at_call 46; refine CN.mono ?_; rintro e w3 ⟨rfl, hb3⟩) | (go_at_call 44; refine (js_mustnt p _).mono ?_; rintro e w4 ⟨rfl, rfl⟩))
    exact ⟨rfl, rfl, H2.out.2.trans (grown_of_below hb3 _)⟩
  · have hp : numP S = some (.num (S.take n), S.drop n) := by unfold numP; rw [hn, if_neg hn0]
    rw [hp]
    go_enter Tryz.func43, Tryz.ntmps43
    go_upto_region 5 with (first | (go_at_call 75; refine C1.mono ?_; rintro e w2 ⟨rfl, hj2, hg2⟩; have H2 := Lib.hid (And.intro hj2 hg2); clear hj2 hg2) | (go_at_call 76; refine (CPK.out _ H2.out.1).mono ?_; rintro e w3 ⟨rfl, rfl⟩))
    clear C1 CPK e110 e116 e102 e34 e91 e123
    obtain ⟨hnl, -⟩ := num_inv (s := S) (by rw [hn]; exact hn0)
    rw [hn] at hnl
    obtain ⟨sv, hst⟩ := H2.out.1
    obtain ⟨b, off, cap, rfl, g1, g2, gc, gd⟩ := hst.frontK n hnl (by omega)
    obtain ⟨⟨c0, -, -⟩, -, -, -⟩ := hst.cells
    have CN := js_number _ S w2 (hst.row w2 (Below.refl _ _)) (by omega)
    rw [hn] at CN
    have HST := Lib.hid hst
    have HGD := Lib.hid gd
    have HGC := Lib.hid gc
    have hpos : decide ((0 : Int) < (n : Int)) = true := decide_eq_true (by omega)
    have hpos2 : decide (0 < n) = true := decide_eq_true (by omega)
    have hpos3 : 0 < n := by omega
    clear hst hp hn gd gc
    go_upto_region 7 with (first | (go_at_call 46; refine CN.mono ?_; rintro e w3 ⟨rfl, hb3⟩) | (go_at_call 44; refine (js_must p _).mono ?_; rintro e w4 ⟨rfl, rfl⟩))
    have hlt2 := HST.out.lt
    have h3 := HST.out.keptB hb3
    obtain ⟨⟨d0, -, -⟩, e0, -, -⟩ := h3.cells
    have hlb : Below p w2 w3 := hb3.mono (Nat.le_of_lt hlt2)
    have hcv : (convert 22 95 (.slice (some ⟨b, off, none⟩) n cap)).run Tryz.prog w3 = .ok (.string ⟨(S.take n).toArray⟩) w3 := by
      obtain ⟨b', off', cap', hE, -, -, gc3, -⟩ := h3.frontK n hnl (by omega)
      cases hE
      have := conv_cells (P := Tryz.prog) (w := w3) (cap := cap) (src := 22) (dst := 95) (g := b) (off := off) (l := S.take n) Tryz.underlying22 Tryz.underlying5 Tryz.underlying95 (fun j hj => by
        rw [gc3 j (by simp only [List.length_take] at hj; omega)]; simp)
      rwa [List.length_take, Nat.min_eq_left hnl] at this
    have CS8 := Lib.hid (fun (a' : Option Addr) (c' : Nat) (k1 : S.length - n ≤ c') (k2 : c' ≤ cap) (k3 : n < S.length → a' = some ⟨b, off + n, none⟩) =>
      (have hh := h3.nextK (k := n) (sv' := .slice a' (S.length - n) c') (fun W hW => HGD.out a' c' k1 k2 k3 W (hlb.trans hW)) rfl
       (CSP.out _ _ _ hh.1).mono (fun e w' hm => (⟨hm.1, hm.2.1, hh.2.trans hm.2.2⟩ : e = .returned (.tuple #[]) ∧ JS w' p (sp (S.drop n)) deep most ∧ w3.grownBy w' (some p)))))
    have HB3 := Lib.hid hb3
    unfold maxLen at g2
    have hcn : n ≤ cap := by omega
    clear h3 hlb hb3 CN c0 CSP hpos hpos2
    obtain ⟨L, hL⟩ : ∃ L, S.length = L := ⟨_, rfl⟩
    rw [hL] at CS8 d0 g1 hnl
    clear hL
    by_cases hcap : cap = n
    · subst hcap
      obtain rfl : L = cap := by omega
      have hz : L - L = 0 := by omega
      rw [hz] at CS8
      have C8 := CS8.out (some ⟨b, off, none⟩) 0 (by omega) (by omega) (by omega)
      clear CS8
      go_wp2_with (go_at_call 75; refine C8.mono ?_; rintro e w7 ⟨rfl, hj7, hg7⟩; have H7 := Lib.hid (And.intro hj7 hg7); clear hj7 hg7)
      go_ret
      exact val_fin (j := .num (S.take L)) hpw (H2.out.2.trans (grown_of_below HB3.out _)) rfl H7.out.1 H7.out.2 (by simp only [deepJ]; omega)
    · have hcap2 : n < cap := by omega
      have C8 := CS8.out (some ⟨b, off + n, none⟩) (cap - n) (by omega) (by omega) (fun _ => rfl)
      clear CS8
      go_wp2_with (go_at_call 75; refine C8.mono ?_; rintro e w7 ⟨rfl, hj7, hg7⟩; have H7 := Lib.hid (And.intro hj7 hg7); clear hj7 hg7)
      go_ret
      exact val_fin (j := .num (S.take n)) hpw (H2.out.2.trans (grown_of_below HB3.out _)) rfl H7.out.1 H7.out.2 (by simp only [deepJ]; omega)
/-- The program's reader of values is the plain one. -/
theorem js_values : ∀ k, ReadsJ (valP (k + 1)) k
  | 0 => js_value 0 (fun k' h => by cases h)
  | k + 1 => js_value (k + 1) (fun k' h => by cases h; exact js_values k)
end Go.Proofs.YtljnbbdhmlfhjaaGreatDoor
/-
  json.Parse: the deferred call that catches a fault; a text that is too long, or not valid.
-/
namespace Go.Proofs.YtljnbbdhmlfhjaaGreatDoor
open Go.RowKit
theorem assert_noneJ (w : World) : (Instr.typeAssert .nilIface 20 87 true).run Tryz.prog w = .ok (.tuple #[.agg #[], .bool false]) w := by kernel_rfl
theorem assert_faultJ (w : World) : (Instr.typeAssert (.iface 87 (.agg #[])) 20 87 true).run Tryz.prog w = .ok (.tuple #[.agg #[], .bool true]) w := by kernel_rfl
set_option maxRecDepth 100000 in
set_option maxHeartbeats 4000000 in
/-- Nothing to catch. -/
theorem catch_idleJ (p q : Addr) (w : World) :
    CallsD Tryz.prog 42 #[.pointer (some p), .pointer (some q)] .returning w fun e u' w' => e = .returned (.tuple #[]) ∧ u' = .returning ∧ Below w.heap.size w w' := by
  refine callsD_of_wpS Tryz.func42 rfl fun c₀ cs hu => ?_
  apply wpS_seq
  apply wpS_region
  simp [wpOpsS, go_sem, recoverD, hu, Tryz.ntmps42, Exit.thenS, assert_noneJ]
  refine wpS_of_wp ?_
  change Code.wp _ _ _ { tmps := #[.pointer (some p), .pointer (some q), .pointer (some ⟨w.heap.size, 0, none⟩), .bool false, .tuple #[.agg #[], .bool false], .nilIface, .tuple #[.agg #[], .bool false], .agg #[], .bool false, undef], defers := [] } _
  go_wp2
  cases c₀
  simp_all [bodyPostS, results, Tryz.results42]
  exact belowAJ (Below.refl _ _) (Nat.le_refl _)
set_option maxRecDepth 100000 in
set_option maxHeartbeats 4000000 in
/-- A fault is caught. -/
theorem catch_faultJ (b : Nat) (w : World) (older : List PanicEntry) (x y : Value) (hb : b + 1 < w.heap.size) (hp : w.cell? ⟨b, 0, none⟩ = some x) (hq : w.cell? ⟨b + 1, 0, none⟩ = some y) (hfp : w.frozen? ⟨b, 0, none⟩ = false) (hfq : w.frozen? ⟨b + 1, 0, none⟩ = false) :
    CallsD Tryz.prog 42 #[.pointer (some ⟨b, 0, none⟩), .pointer (some ⟨b + 1, 0, none⟩)] (.panicking ({ v := faultV, recovered := false } :: older)) w fun e u' w' => e = .returned (.tuple #[]) ∧ u' = .panicking ({ v := faultV, recovered := true } :: older) ∧
      w'.cell? ⟨b, 0, none⟩ = some .nilIface ∧ w'.cell? ⟨b + 1, 0, none⟩ = some (.int .i64 6) ∧ Below b w w' := by
  refine callsD_of_wpS Tryz.func42 rfl fun c₀ cs hu => ?_
  apply wpS_seq
  apply wpS_region
  simp [wpOpsS, go_sem, recoverD, hu, Tryz.ntmps42, Exit.thenS, faultV, assert_faultJ]
  refine wpS_of_wp ?_
  change Code.wp _ _ _ { tmps := #[.pointer (some ⟨b, 0, none⟩), .pointer (some ⟨b + 1, 0, none⟩), .pointer (some ⟨w.heap.size, 0, none⟩), .bool true, .tuple #[.agg #[], .bool true], .iface 87 (.agg #[]), .tuple #[.agg #[], .bool true], .agg #[], .bool true, undef], defers := [] } _
  have hbx := belowAJ (o := .cells #[] 87) (Below.refl w.heap.size w) (Nat.le_refl _)
  have h1 := (hbx.cell (p := ⟨b, 0, none⟩) (by show b < w.heap.size; omega)).trans hp
  have h2 := (hbx.cell (p := ⟨b + 1, 0, none⟩) hb).trans hq
  have h3 := (hbx.frozen (p := ⟨b, 0, none⟩) (by show b < w.heap.size; omega)).trans hfp
  have h4 := (hbx.frozen (p := ⟨b + 1, 0, none⟩) hb).trans hfq
  have hne1 : ¬ b = w.heap.size := by omega
  have hne2 : ¬ b + 1 = w.heap.size := by omega
  go_wp2_with fail
  refine ⟨rfl, _, rfl, .tuple #[], by simp [results, Tryz.results42], rfl, rfl, ?_, ?_, ?_⟩
  · simp [go_sem, h1]
  · simp [go_sem, h2]
  · exact (((hbx.mono (show b ≤ w.heap.size by omega)).setCell (p := ⟨b, 0, none⟩) (Nat.le_refl _) _).setCell (p := ⟨b + 1, 0, none⟩) (Nat.le_succ _) _)
end Go.Proofs.YtljnbbdhmlfhjaaGreatDoor
/-
  json.Parse.
-/
namespace Go.Proofs.YtljnbbdhmlfhjaaGreatDoor
open Go.RowKit
def ParsedJ (w : World) (b : Bs) (e : Ending) (w' : World) : Prop := ∃ v, e = .returned (.tuple #[v, .int .i64 (parseE b)]) ∧ RepJ w' (Nw w.heap.size w') (parseJ b) v ∧ Below w.heap.size w w'
theorem parseJ_bad {b : Bs} (h : parseE b ≠ 0) : parseJ b = .nul := by
  unfold parseE at h
  unfold parseJ
  by_cases h1 : 16384 < b.length
  · rw [if_pos (.inl h1)]
  · by_cases h2 : Lib.validD b = false
    · rw [if_pos (.inr h2)]
    · rw [if_neg h1, if_neg h2] at h
      rw [if_neg (fun hh => hh.elim h1 h2)]
      cases hd : docJ b with
      | none => rfl
      | some j =>
        rw [hd] at h
        simp only at h ⊢
        split at h
        · rename_i h3; rw [if_pos h3]
        · exact absurd rfl h
theorem ParsedJ.bad {w w' : World} {b : Bs} (E : Int) (hE : parseE b = E) (h0 : E ≠ 0) (hb : Below w.heap.size w w') : ParsedJ w b (.returned (.tuple #[.nilIface, .int .i64 E])) w' := by
  refine ⟨_, by rw [hE], ?_, hb⟩
  rw [parseJ_bad (by rw [hE]; exact h0)]
  rfl
theorem conv_arg {w : World} {v : Value} {b : Bs} (h : argRow w v b.length 1 (b.map bCell)) : (convert 22 9 v).run Tryz.prog w = .ok (.string ⟨b.toArray⟩) w := by
  obtain ⟨hl, a, cap, rfl, h1, h2, hc⟩ := h
  cases b with
  | nil => exact conv_nil Tryz.underlying22 Tryz.underlying5 Tryz.underlying9
  | cons c b =>
    obtain ⟨g, off, rfl, hb, hcs⟩ := hc (by simp)
    exact conv_cells (P := Tryz.prog) (src := 22) (dst := 9) Tryz.underlying22 Tryz.underlying5 Tryz.underlying9 (fun j hj => by
      rw [hcs j (by simpa using hj), List.getElem_map]
      rfl)
set_option maxRecDepth 100000 in
set_option maxHeartbeats 10000000 in
theorem js_Parse_long (v : Value) (b : Bs) (w : World) (hv : argRow w v b.length 1 (b.map bCell)) (h : 16384 < b.length) : Calls Tryz.prog 15 #[v] w (ParsedJ w b) := by
  have hd : decide ((16384 : Int) < (b.length : Int)) = true := decide_eq_true (by omega)
  have hE : parseE b = 4 := by unfold parseE; rw [if_pos h]
  have HE := Lib.hid hE
  obtain ⟨-, a, cap, rfl, -⟩ := hv
  clear hE h
  generalize b.length = n at *
  go_enter_defers Tryz.func15, Tryz.ntmps15
  go_wp2
  exact ⟨_, by simp [results, Tryz.results15, go_sem], ParsedJ.bad 4 HE.out (by decide) (belowAJ (belowAJ (Below.refl _ _) (Nat.le_refl _)) (by simp))⟩
set_option maxRecDepth 100000 in
set_option maxHeartbeats 10000000 in
theorem js_Parse_bad (v : Value) (b : Bs) (w : World) (hT : Tabs w) (hv : argRow w v b.length 1 (b.map bCell)) (h : b.length ≤ 16384) (hval : Lib.validD b = false) : Calls Tryz.prog 15 #[v] w (ParsedJ w b) := by
  have hd : decide ((16384 : Int) < (b.length : Int)) = false := decide_eq_false (by omega)
  have hE : parseE b = 8 := by unfold parseE; rw [if_neg (by omega), if_pos hval]
  have HE := Lib.hid hE
  have CV := Lib.hid (fun W (hW : Below w.heap.size w W) => utf_Valid ⟨b.toArray⟩ W (by show b.length ≤ maxLen; unfold maxLen; omega) (Utf8Tabs_below hT hW))
  have HCV := Lib.hid (fun W (hW : Below w.heap.size w W) => conv_arg (argRow_below hv hW))
  rw [show (⟨b.toArray⟩ : ByteArray).data.toList = b from by simp, hval] at CV
  obtain ⟨T, hT'⟩ : ∃ T : ByteArray, (⟨b.toArray⟩ : ByteArray) = T := ⟨_, rfl⟩
  rw [hT'] at CV HCV
  obtain ⟨-, a, cap, rfl, -⟩ := hv
  clear hE hT hval h hT'
  generalize b.length = n at *
  go_enter_defers Tryz.func15, Tryz.ntmps15
  go_upto_region 3 with fail
  have hb2 : Below w.heap.size w ((w.alloc (.cells #[.nilIface] 20)).alloc (.cells #[.int .i64 0] 25)) := belowAJ (belowAJ (Below.refl _ _) (Nat.le_refl _)) (by simp)
  have c0 : ((w.alloc (.cells #[.nilIface] 20)).alloc (.cells #[.int .i64 0] 25)).cell? ⟨w.heap.size, 0, none⟩ = some .nilIface := by simp [go_sem]
  have c1 : ((w.alloc (.cells #[.nilIface] 20)).alloc (.cells #[.int .i64 0] 25)).cell? ⟨w.heap.size + 1, 0, none⟩ = some (.int .i64 0) := by simp [go_sem]
  have f0 : ((w.alloc (.cells #[.nilIface] 20)).alloc (.cells #[.int .i64 0] 25)).frozen? ⟨w.heap.size, 0, none⟩ = false := by simp [go_sem]
  have f1 : ((w.alloc (.cells #[.nilIface] 20)).alloc (.cells #[.int .i64 0] 25)).frozen? ⟨w.heap.size + 1, 0, none⟩ = false := by simp [go_sem]
  have hsz : ((w.alloc (.cells #[.nilIface] 20)).alloc (.cells #[.int .i64 0] 25)).heap.size = w.heap.size + 2 := by simp
  generalize (w.alloc (.cells #[.nilIface] 20)).alloc (.cells #[.int .i64 0] 25) = w2 at *
  have CV2 := CV.out w2 hb2
  have hcv2 := HCV.out w2 hb2
  clear CV HCV
  go_upto_region 4 with (go_at_call 41; refine CV2.mono ?_; rintro e w3 ⟨rfl, hb3⟩)
  have d0 := (hb3.cell (p := ⟨w.heap.size, 0, none⟩) (by rw [hsz]; show w.heap.size < w.heap.size + 2; omega)).trans c0
  have d1 := (hb3.cell (p := ⟨w.heap.size + 1, 0, none⟩) (by rw [hsz]; show w.heap.size + 1 < w.heap.size + 2; omega)).trans c1
  have e0 := (hb3.frozen (p := ⟨w.heap.size, 0, none⟩) (by rw [hsz]; show w.heap.size < w.heap.size + 2; omega)).trans f0
  have e1 := (hb3.frozen (p := ⟨w.heap.size + 1, 0, none⟩) (by rw [hsz]; show w.heap.size + 1 < w.heap.size + 2; omega)).trans f1
  clear c0 c1 f0 f1
  go_wp2
  exact ⟨_, by simp [results, Tryz.results15, go_sem, d0, d1], ParsedJ.bad 8 HE.out (by decide) (((hb2.trans (hb3.mono (by omega))).setCell (p := ⟨w.heap.size, 0, none⟩) (Nat.le_refl _) _).setCell (p := ⟨w.heap.size + 1, 0, none⟩) (Nat.le_succ _) _)⟩
end Go.Proofs.YtljnbbdhmlfhjaaGreatDoor
