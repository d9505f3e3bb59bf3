/-
  The program's JSON parser: array.
-/
import Derived.Test.YtljnbbdhmlfhjaaDoorJsG
namespace Go.Proofs.YtljnbbdhmlfhjaaDoor
open Go.RowKit
theorem nb_old {lo p n size : Nat} {wr w2 w9 : World} {e : TypeId} {v v9 : Value} {xs : List Value} {o : Obj} (hl : lo ≤ wr.heap.size) (hg2 : wr.grownBy w2 (some p)) (hp : p < lo) (hgr9 : (w2.alloc o).grownBy w9 v.ownBlock)
    (hloc : v9.ownBlock = v.ownBlock ∨ v9.ownBlock = some (w2.alloc o).heap.size) (_own : wr.ownsRow lo e size v n xs) : ∀ k, Nb lo wr v k → Nb lo w9 v9 k ∧ (k < wr.heap.size → w9.heap[k]? = wr.heap[k]?) := by
  rintro k ⟨h1, h2, h3⟩
  have hs2 := hg2.size
  have hs9 := hgr9.size
  have hsa : (w2.alloc o).heap.size = w2.heap.size + 1 := by simp
  refine ⟨⟨h1, by omega, fun e => ?_⟩, fun _ => ?_⟩
  · rcases hloc with h | h
    · exact h3 (h ▸ e)
    · rw [h] at e
      cases e
      omega
  · rw [hgr9.block k (by omega) (fun e => h3 e.symm), heap_alloc_old _ _ (by omega), hg2.block k h2 (fun e => by cases e; omega)]
theorem nb_new {lo p n size : Nat} {wr w2 w9 : World} {e : TypeId} {v v9 : Value} {xs : List Value} {o : Obj} (hl : lo ≤ wr.heap.size) (hg2 : wr.grownBy w2 (some p)) (hgr9 : (w2.alloc o).grownBy w9 v.ownBlock)
    (hloc : v9.ownBlock = v.ownBlock ∨ v9.ownBlock = some (w2.alloc o).heap.size) (own : wr.ownsRow lo e size v n xs) : ∀ k, Nw wr.heap.size w2 k → Nb lo w9 v9 k ∧ (k < w2.heap.size → w9.heap[k]? = w2.heap[k]?) := by
  rintro k ⟨h1, h2⟩
  have hs2 := hg2.size
  have hs9 := hgr9.size
  have hsa : (w2.alloc o).heap.size = w2.heap.size + 1 := by simp
  have h3 : v.ownBlock ≠ some k := fun e => by have := (own.lt k e).2; omega
  refine ⟨⟨by omega, by omega, fun e => ?_⟩, fun _ => ?_⟩
  · rcases hloc with h | h
    · exact h3 (h ▸ e)
    · rw [h] at e
      cases e
      omega
  · rw [hgr9.block k (by omega) (fun e => h3 e.symm), heap_alloc_old _ _ (by omega)]
theorem nb_turn {lo p : Nat} {wr w2 : World} {v : Value} (hg2 : wr.grownBy w2 (some p)) (hp : p < lo) : ∀ k, Nb lo wr v k → Nb lo w2 v k ∧ (k < wr.heap.size → w2.heap[k]? = wr.heap[k]?) := by
  rintro k ⟨h1, h2, h3⟩
  have hs2 := hg2.size
  exact ⟨⟨h1, by omega, h3⟩, fun _ => hg2.block k h2 (fun e => by cases e; omega)⟩
theorem rowS_own {lo n size : Nat} {w : World} {e : TypeId} {v : Value} {xs : List Value} (h : w.ownsRow lo e size v n xs) : RowS w (Nw lo w) v n size xs := by
  refine ⟨argRow_owns h, fun h0 a n' c ev => ?_⟩
  obtain ⟨hl, hr⟩ := h
  rcases hr with ⟨hv, hn, -⟩ | ⟨g, cap, cs, hv, hlo, hg, -⟩
  · omega
  · rw [hv] at ev
    cases ev
    exact ⟨hlo, (Array.getElem?_eq_some_iff.1 hg).1⟩
/-- An array under way. -/
structure AIt (w : World) (p : Nat) (wr : World) (v : Value) (l : List J) (vs : List Value) (r : Bs) (deep most : Nat) : Prop where
  plt : p < w.heap.size
  own : wr.ownsRow w.heap.size 20 1 v l.length vs
  rep : RepL wr (Nb w.heap.size wr v) l vs
  js : JS wr p r deep (max most (deep + deepL l))
  gr : w.grownBy wr (some p)
theorem AIt.to {w wr w2 : World} {p : Nat} {v : Value} {l : List J} {vs : List Value} {r r2 : Bs} {deep most : Nat} (h : AIt w p wr v l vs r deep most) (hj : JS w2 p r2 deep (max most (deep + deepL l))) (hg : wr.grownBy w2 (some p)) : AIt w p w2 v l vs r2 deep most :=
  ⟨h.plt, own_keptJ h.own hg (fun k hk => by cases hk; exact h.plt), RepL.to (nb_turn hg h.plt) l vs h.rep, hj, h.gr.trans hg⟩
theorem AIt.more {w wr w2 w9 : World} {p : Nat} {v v9 u : Value} {l : List J} {j : J} {vs : List Value} {r r1 : Bs} {deep most : Nat} {o : Obj} {n9 : Nat} {xs9 : List Value} (h : AIt w p wr v l vs r deep most)
    (hj : JS w2 p r1 deep (max (max most (deep + deepL l)) (deep + deepJ j))) (hg2 : wr.grownBy w2 (some p)) (hu : RepJ w2 (Nw wr.heap.size w2) j u)
    (hown : w9.ownsRow w.heap.size 20 1 v9 n9 xs9) (hgr9 : (w2.alloc o).grownBy w9 v.ownBlock) (hloc : v9.ownBlock = v.ownBlock ∨ v9.ownBlock = some (w2.alloc o).heap.size) (hn : n9 = l.length + 1) (hx : xs9 = vs ++ [u]) :
    AIt w p w9 v9 (l ++ [j]) (vs ++ [u]) r1 deep most := by
  subst hn hx
  have hb := belowAJ (o := o) (Below.refl w2.heap.size w2) (Nat.le_refl _)
  refine ⟨h.plt, by rw [List.length_append]; exact hown, repL_snoc (RepJ.to (nb_new h.gr.size hg2 hgr9 hloc h.own) j u hu) (RepL.to (nb_old h.gr.size hg2 h.plt hgr9 hloc h.own) l vs h.rep), ?_, ?_⟩
  · rw [deepL_snoc, show max most (deep + max (deepL l) (deepJ j)) = max (max most (deep + deepL l)) (deep + deepJ j) by omega]
    exact (hj.keptB hb).kept hgr9 (fun k hk => by have := (h.own.lt k hk).1; have := h.plt; omega)
  · exact grown_off ((h.gr.trans hg2).trans (grown_of_below hb (some p))) hgr9 (fun k hk => (h.own.lt k hk).1)
theorem AIt.done {w wr : World} {p : Nat} {v : Value} {l : List J} {vs : List Value} {r : Bs} {deep most : Nat} (h : AIt w p wr v l vs r deep most) : ArrR p w deep most (some (.arr l, r)) (.returned (.iface 35 v)) wr :=
  ⟨_, rfl, h.js, h.gr, _, vs, rfl, rowS_own h.own, RepL.to (fun k hk => ⟨⟨hk.1, hk.2.1⟩, fun _ => rfl⟩) l vs h.rep⟩
def preA (l : List J) : Option (List J × Bs) → Option (J × Bs)
  | none => none
  | some (l', r) => some (.arr (l ++ l'), r)
theorem preA_add (l : List J) (j : J) (o : Option (List J × Bs)) : preA l (addL j o) = preA (l ++ [j]) o := by
  cases o with
  | none => rfl
  | some x => simp [preA, addL]
theorem arr_pre (val : Bs → Option (J × Bs)) (s : Bs) (h : nextB 93 (sp s) = none) : arrP val s = preA [] (itemsL val (s.length + 1) (sp s)) := by
  unfold arrP
  rw [h]
  simp only []
  cases itemsL val (s.length + 1) (sp s) <;> rfl
set_option maxRecDepth 100000 in
set_option maxHeartbeats 20000000 in
theorem js_array (val : Bs → Option (J × Bs)) (n : Nat) (hok : ValOk val) (IH : Reads val n) (p : Nat) (w : World) (s : Bs) (deep most : Nat) (hs : s.length ≤ n) (hs2 : s.length ≤ 1099511627776) (h : JS w p (91 :: s) deep most) (hdm : deep ≤ most) (hd : deep + s.length ≤ 1099511627776) :
    Calls Tryd.prog 42 #[.pointer (some ⟨p, 0, none⟩)] w (ArrR p w deep most (arrP val s)) := by
  have EI : ElemT Tryd.prog 35 20 .nilIface 1 16 := ⟨Tryd.underlying35, by kernel_rfl, rfl, by decide⟩
  have hpw := h.lt
  have C1 := js_next_yes p w s deep most 91 h
  have C2 := Lib.hid (fun W (hW : JS W p s deep most) => js_space p W s deep most hW)
  have hsl := sp_len s
  clear h
  cases hnx : nextB 93 (sp s) with
  | some r =>
    have e : arrP val s = some (.arr [], r) := by unfold arrP; rw [hnx]
    rw [e]
    have hsp := next_inv hnx
    have C3 := Lib.hid (fun W (hW : JS W p (sp s) deep most) => js_next_yes p W r deep most 93 (hsp ▸ hW))
    clear hnx e hsp
    go_enter Tryd.func42, Tryd.ntmps42
    go_upto_region 3 with (go_at_call 60; refine C1.mono ?_; rintro e w2 ⟨rfl, hj2, hg2⟩; have H2 := Lib.hid (And.intro hj2 hg2); clear hj2 hg2)
    have hb3 := belowAJ (o := .cells #[] 20) (Below.refl w2.heap.size w2) (Nat.le_refl _)
    have hj3 := H2.out.1.keptB hb3
    have ho3 := World.ownsRow_lit (base := w.heap.size) (e := 20) (size := 1) w2 #[] 0 H2.out.2.size (by decide) rfl
    have HT := Lib.hid (⟨hpw, ho3, rfl, by rw [show max most (deep + deepL []) = most by simp only [deepL]; omega]; exact hj3, H2.out.2.trans (grown_of_below hb3 _)⟩ : AIt w p (w2.alloc (.cells #[] 20)) (.slice (some ⟨w2.heap.size, 0, none⟩) 0 0) [] [] s deep most)
    clear hb3 ho3
    have C2' := C2.out _ hj3
    clear C2 hj3 C1
    go_upto_region 4 with (go_at_call 38; refine C2'.mono ?_; rintro e w4 ⟨rfl, hj4, hg4⟩; have H4 := Lib.hid (And.intro hj4 hg4); clear hj4 hg4)
    have C3' := C3.out w4 H4.out.1
    go_wp2_with (go_at_call 60; refine C3'.mono ?_; rintro e w5 ⟨rfl, hj5, hg5⟩; have H5 := Lib.hid (And.intro hj5 hg5); clear hj5 hg5)
    go_ret
    refine (HT.out.to (w2 := w5) (r2 := r) ?_ (H4.out.2.trans H5.out.2)).done
    rw [show max most (deep + deepL []) = most by simp only [deepL]; omega]
    exact H5.out.1
  | none =>
    obtain ⟨X, hX⟩ : ∃ X, arrP val s = X := ⟨_, rfl⟩
    rw [hX]
    have HX := Lib.hid ((arr_pre val s hnx).symm.trans hX)
    have C3 := Lib.hid (fun W (hW : JS W p (sp s) deep most) => js_next_no p W (sp s) deep most 93 hW hnx)
    have HIH := Lib.hid IH
    have HOK := Lib.hid hok
    clear hnx hX IH hok
    go_enter Tryd.func42, Tryd.ntmps42
    go_upto_region 3 with (go_at_call 60; refine C1.mono ?_; rintro e w2 ⟨rfl, hj2, hg2⟩; have H2 := Lib.hid (And.intro hj2 hg2); clear hj2 hg2)
    have hb3 := belowAJ (o := .cells #[] 20) (Below.refl w2.heap.size w2) (Nat.le_refl _)
    have hj3 := H2.out.1.keptB hb3
    have ho3 := World.ownsRow_lit (base := w.heap.size) (e := 20) (size := 1) w2 #[] 0 H2.out.2.size (by decide) rfl
    have HT := Lib.hid (⟨hpw, ho3, rfl, by rw [show max most (deep + deepL []) = most by simp only [deepL]; omega]; exact hj3, H2.out.2.trans (grown_of_below hb3 _)⟩ : AIt w p (w2.alloc (.cells #[] 20)) (.slice (some ⟨w2.heap.size, 0, none⟩) 0 0) [] [] s deep most)
    clear hb3 ho3
    have C2' := C2.out _ hj3
    clear C2 hj3 C1
    go_upto_region 4 with (go_at_call 38; refine C2'.mono ?_; rintro e w4 ⟨rfl, hj4, hg4⟩; have H4 := Lib.hid (And.intro hj4 hg4); clear hj4 hg4)
    have C3' := C3.out w4 H4.out.1
    have hT4 := HT.out.to (w2 := w4) (r2 := sp s) (by rw [show max most (deep + deepL []) = most by simp only [deepL]; omega]; exact H4.out.1) H4.out.2
    have HT4 := Lib.hid hT4
    clear hT4 HT C3
    go_upto_region 5 with (go_at_call 60; refine C3'.mono ?_; rintro e w5 ⟨rfl, rfl⟩)
    clear C3' H4
    go_loopg [3] (s.length + 1) (fun gk v wr => ∃ l vs r, AIt w p wr v l vs r deep most ∧ preA l (itemsL val gk r) = X ∧ r.length < gk ∧ l.length + r.length ≤ s.length)
    case atStart => exact ⟨[], [], sp s, HT4.out, HX.out, by omega, by simp; omega⟩
    case round =>
      obtain ⟨l, vs, r, ht, hx, hgk, hls⟩ := hrel
      obtain ⟨k, rfl⟩ : ∃ k, gk = k + 1 := ⟨gk - 1, by omega⟩
      obtain ⟨va, vc, rfl⟩ := owns_slice ht.own
      obtain ⟨N, hN⟩ : ∃ N, l.length = N := ⟨_, rfl⟩
      have CV := HIH.out p wr r deep (max most (deep + deepL l)) (by omega) (by omega) ht.js (by omega) (by omega)
      have HT := Lib.hid ht
      have HN := Lib.hid hN
      rw [hN] at HT hls ⊢
      simp only [itemsL] at hx
      clear ht hN HT4 HX HIH
      cases hv : val r with
      | none =>
        rw [hv] at hx CV
        obtain rfl : X = none := hx.symm
        clear hx hv
        go_wp2_with (go_at_call 23; refine CV.mono ?_; rintro e w5 ⟨rfl, hg5⟩)
        exact ⟨rfl, rfl, HT.out.gr.trans hg5⟩
      | some y =>
        obtain ⟨j, r1⟩ := y
        obtain ⟨hr1, -, -⟩ := HOK.out r j r1 hv
        rw [hv] at hx CV
        simp only at hx
        have HXX := Lib.hid hx
        have HGK := Lib.hid hgk
        have HLS := Lib.hid hls
        have HR1 := Lib.hid hr1
        have hsz := HT.out.gr.size
        have hNl : N ≤ 1099511627776 := by omega
        clear hx hv hgk hls hr1
        have hOWN := Lib.hid HT.out.own
        rw [HN.out] at hOWN
        rcases val_kind CV with CW | CW
        all_goals
          clear CV
          go_upto_region 7 with (first | (go_at_call 23; refine CW.mono ?_; rintro e w5 ⟨T, x, rfl, hj5, hg5, hu5⟩; have hsz5 := hg5.size; have hOW := fun o => (own_keptJ hOWN.out hg5 (fun k hk => by cases hk; exact hpw)).alloc o; have H5 := Lib.hid (And.intro hj5 (And.intro hg5 hu5)); clear hj5 hg5 hu5) | (at_builtin; go_loud (refine wpList_append_src rfl _ _ _ _ rfl w.heap.size EI _ N vs rfl (hOW _) _ 1 [_] rfl (by exact src_last (cs := #[_]) Tryd.underlying35 1 1 1 (by simp) rfl (by simp [Value.oneCell'])) (by unfold maxLen; omega) (by omega) (by simp; omega) ?_); intro v9 w9 hown9 hgr9 _ hloc9; have H9 := Lib.hid (And.intro hown9 (And.intro hgr9 hloc9)); clear hown9 hgr9 hloc9))
          have T9 := HT.out.more H5.out.1 H5.out.2.1 H5.out.2.2 H9.out.1 H9.out.2.1 H9.out.2.2 (by rw [HN.out]) rfl
          have HT9 := Lib.hid T9
          obtain ⟨va9, vc9, rfl⟩ := owns_slice H9.out.1
          clear T9 H9 H5 hOW CW hOWN
          cases hn93 : nextB 93 r1 with
          | some r2 =>
            have hX : X = some (.arr (l ++ [j]), r2) := by
              rw [← HXX.out]
              unfold moreP
              rw [hn93]
              rfl
            have C93 := js_next_yes p w9 r2 deep _ 93 (next_inv hn93 ▸ HT9.out.js)
            subst hX
            clear hn93
            go_wp2_with (go_at_call 60; refine C93.mono ?_; rintro e w10 ⟨rfl, hj10, hg10⟩; have H10 := Lib.hid (And.intro hj10 hg10); clear hj10 hg10)
            go_ret
            exact (HT9.out.to H10.out.1 H10.out.2).done
          | none =>
            have C93 := js_next_no p w9 r1 deep _ 93 HT9.out.js hn93
            go_upto_region 9 with (go_at_call 60; refine C93.mono ?_; rintro e w10 ⟨rfl, rfl⟩)
            cases hn44 : nextB 44 r1 with
            | none =>
              have hX : X = none := by
                rw [← HXX.out]
                unfold moreP
                rw [hn93, hn44]
                rfl
              subst hX
              have C44 := js_next_no p w9 r1 deep _ 44 HT9.out.js hn44
              clear hn93 hn44 C93
              go_wp2_with (first | (go_at_call 60; refine C44.mono ?_; rintro e w10 ⟨rfl, rfl⟩) | (go_at_call 24; refine (js_mustnt p _).mono ?_; rintro e w11 ⟨rfl, rfl⟩))
              exact ⟨rfl, rfl, HT9.out.gr⟩
            | some r2 =>
              have hX : preA (l ++ [j]) (itemsL val k r2) = X := by
                rw [← HXX.out]
                unfold moreP
                rw [hn93, hn44]
                exact (preA_add _ _ _).symm
              have HX2 := Lib.hid hX
              have C44 := js_next_yes p w9 r2 deep _ 44 (next_inv hn44 ▸ HT9.out.js)
              have hl44 := congrArg List.length (next_inv hn44)
              rw [List.length_cons] at hl44
              have HL := Lib.hid hl44
              clear hn93 hn44 C93 hX hl44
              go_wp2_with (first | (go_at_call 60; refine C44.mono ?_; rintro e w10 ⟨rfl, hj10, hg10⟩; have H10 := Lib.hid (And.intro hj10 hg10); clear hj10 hg10) | (go_at_call 24; refine (js_must p _).mono ?_; rintro e w11 ⟨rfl, rfl⟩))
              go_roundg k
              case measure => omega
              case rel =>
                have g1 := HL.out
                have g2 := HR1.out
                have g3 := HGK.out
                have g4 := HLS.out
                exact ⟨l ++ [j], _, r2, HT9.out.to H10.out.1 H10.out.2, HX2.out, by omega, by rw [List.length_append, List.length_singleton, HN.out]; omega⟩
end Go.Proofs.YtljnbbdhmlfhjaaDoor
