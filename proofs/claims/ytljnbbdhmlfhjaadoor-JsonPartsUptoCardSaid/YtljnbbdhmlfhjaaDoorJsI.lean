/-
  The program's JSON parser: object.
-/
import Derived.Test.YtljnbbdhmlfhjaaDoorJsH
namespace Go.Proofs.YtljnbbdhmlfhjaaDoor
open Go.RowKit
/-- An object under way. -/
structure OIt (w : World) (p : Nat) (wr : World) (v : Value) (l : List (Bs × J)) (vs : List Value) (r : Bs) (deep most : Nat) : Prop where
  plt : p < w.heap.size
  own : wr.ownsRow w.heap.size 32 2 v l.length vs
  rep : RepM wr (Nb w.heap.size wr v) l vs
  js : JS wr p r deep (max most (deep + deepM l))
  gr : w.grownBy wr (some p)
theorem OIt.to {w wr w2 : World} {p : Nat} {v : Value} {l : List (Bs × J)} {vs : List Value} {r r2 : Bs} {deep most : Nat} (h : OIt w p wr v l vs r deep most) (hj : JS w2 p r2 deep (max most (deep + deepM l))) (hg : wr.grownBy w2 (some p)) : OIt w p w2 v l vs r2 deep most :=
  ⟨h.plt, own_keptJ h.own hg (fun k hk => by cases hk; exact h.plt), RepM.to (nb_turn hg h.plt) l vs h.rep, hj, h.gr.trans hg⟩
theorem OIt.more {w wr w2 w9 : World} {p : Nat} {v v9 u : Value} {l : List (Bs × J)} {nm : Bs} {j : J} {vs : List Value} {r r1 : Bs} {deep most : Nat} {o : Obj} {n9 : Nat} {xs9 : List Value} (h : OIt w p wr v l vs r deep most)
    (hj : JS w2 p r1 deep (max (max most (deep + deepM l)) (deep + deepJ j))) (hg2 : wr.grownBy w2 (some p)) (hu : RepJ w2 (Nw wr.heap.size w2) j u)
    (hown : w9.ownsRow w.heap.size 32 2 v9 n9 xs9) (hgr9 : (w2.alloc o).grownBy w9 v.ownBlock) (hloc : v9.ownBlock = v.ownBlock ∨ v9.ownBlock = some (w2.alloc o).heap.size) (hn : n9 = l.length + 1) (hx : xs9 = vs ++ [.string ⟨nm.toArray⟩, u]) :
    OIt w p w9 v9 (l ++ [(nm, j)]) (vs ++ [.string ⟨nm.toArray⟩, u]) r1 deep most := by
  subst hn hx
  have hb := belowAJ (o := o) (Below.refl w2.heap.size w2) (Nat.le_refl _)
  refine ⟨h.plt, by rw [List.length_append]; exact hown, repM_snoc (RepJ.to (nb_new h.gr.size hg2 hgr9 hloc h.own) j u hu) (RepM.to (nb_old h.gr.size hg2 h.plt hgr9 hloc h.own) l vs h.rep), ?_, ?_⟩
  · rw [deepM_snoc, show max most (deep + max (deepM l) (deepJ j)) = max (max most (deep + deepM l)) (deep + deepJ j) by omega]
    exact (hj.keptB hb).kept hgr9 (fun k hk => by have := (h.own.lt k hk).1; have := h.plt; omega)
  · exact grown_off ((h.gr.trans hg2).trans (grown_of_below hb (some p))) hgr9 (fun k hk => (h.own.lt k hk).1)
theorem OIt.done {w wr : World} {p : Nat} {v : Value} {l : List (Bs × J)} {vs : List Value} {r : Bs} {deep most : Nat} (h : OIt w p wr v l vs r deep most) : ArrR p w deep most (some (.obj l, r)) (.returned (.iface 34 v)) wr :=
  ⟨_, rfl, h.js, h.gr, _, vs, rfl, rowS_own h.own, RepM.to (fun k hk => ⟨⟨hk.1, hk.2.1⟩, fun _ => rfl⟩) l vs h.rep⟩
def preO (l : List (Bs × J)) : Option (List (Bs × J) × Bs) → Option (J × Bs)
  | none => none
  | some (l', r) => some (.obj (l ++ l'), r)
theorem preO_add (l : List (Bs × J)) (m : Bs × J) (o : Option (List (Bs × J) × Bs)) : preO l (addL m o) = preO (l ++ [m]) o := by
  cases o with
  | none => rfl
  | some x => simp [preO, addL]
theorem obj_pre (val : Bs → Option (J × Bs)) (s : Bs) (h : nextB 125 (sp s) = none) : objP val s = preO [] (memsL val (s.length + 1) (sp s)) := by
  unfold objP
  rw [h]
  simp only []
  cases memsL val (s.length + 1) (sp s) <;> rfl
set_option maxRecDepth 100000 in
set_option maxHeartbeats 40000000 in
theorem js_object (val : Bs → Option (J × Bs)) (n : Nat) (hok : ValOk val) (IH : Reads val n) (p : Nat) (w : World) (s : Bs) (deep most : Nat) (hs : s.length ≤ n) (hs2 : s.length ≤ 1099511627776) (h : JS w p (123 :: s) deep most) (hdm : deep ≤ most) (hd : deep + s.length ≤ 1099511627776) :
    Calls Tryd.prog 43 #[.pointer (some ⟨p, 0, none⟩)] w (ArrR p w deep most (objP val s)) := by
  have EI : ElemT Tryd.prog 34 32 (.agg #[.string ⟨#[]⟩, .nilIface]) 2 32 := ⟨Tryd.underlying34, by kernel_rfl, rfl, by decide⟩
  have hpw := h.lt
  have C1 := js_next_yes p w s deep most 123 h
  have C2 := Lib.hid (fun W (hW : JS W p s deep most) => js_space p W s deep most hW)
  have hsl := sp_len s
  clear h
  cases hnx : nextB 125 (sp s) with
  | some r =>
    have e : objP val s = some (.obj [], r) := by unfold objP; rw [hnx]
    rw [e]
    have hsp := next_inv hnx
    have C3 := Lib.hid (fun W (hW : JS W p (sp s) deep most) => js_next_yes p W r deep most 125 (hsp ▸ hW))
    clear hnx e hsp
    go_enter Tryd.func43, Tryd.ntmps43
    go_upto_region 3 with (go_at_call 60; refine C1.mono ?_; rintro e w2 ⟨rfl, hj2, hg2⟩; have H2 := Lib.hid (And.intro hj2 hg2); clear hj2 hg2)
    have hb3 := belowAJ (o := .cells #[] 32) (Below.refl w2.heap.size w2) (Nat.le_refl _)
    have hj3 := H2.out.1.keptB hb3
    have ho3 := World.ownsRow_lit (base := w.heap.size) (e := 32) (size := 2) w2 #[] 0 H2.out.2.size (by decide) rfl
    have HT := Lib.hid (⟨hpw, ho3, rfl, by rw [show max most (deep + deepM []) = most by simp only [deepM]; omega]; exact hj3, H2.out.2.trans (grown_of_below hb3 _)⟩ : OIt w p (w2.alloc (.cells #[] 32)) (.slice (some ⟨w2.heap.size, 0, none⟩) 0 0) [] [] s deep most)
    clear hb3 ho3
    have C2' := C2.out _ hj3
    clear C2 hj3 C1
    go_upto_region 4 with (go_at_call 38; refine C2'.mono ?_; rintro e w4 ⟨rfl, hj4, hg4⟩; have H4 := Lib.hid (And.intro hj4 hg4); clear hj4 hg4)
    have C3' := C3.out w4 H4.out.1
    go_wp2_with (go_at_call 60; refine C3'.mono ?_; rintro e w5 ⟨rfl, hj5, hg5⟩; have H5 := Lib.hid (And.intro hj5 hg5); clear hj5 hg5)
    go_ret
    refine (HT.out.to (w2 := w5) (r2 := r) ?_ (H4.out.2.trans H5.out.2)).done
    rw [show max most (deep + deepM []) = most by simp only [deepM]; omega]
    exact H5.out.1
  | none =>
    obtain ⟨X, hX⟩ : ∃ X, objP val s = X := ⟨_, rfl⟩
    rw [hX]
    have HX := Lib.hid ((obj_pre val s hnx).symm.trans hX)
    have C3 := Lib.hid (fun W (hW : JS W p (sp s) deep most) => js_next_no p W (sp s) deep most 125 hW hnx)
    have HIH := Lib.hid IH
    have HOK := Lib.hid hok
    clear hnx hX IH hok
    go_enter Tryd.func43, Tryd.ntmps43
    go_upto_region 3 with (go_at_call 60; refine C1.mono ?_; rintro e w2 ⟨rfl, hj2, hg2⟩; have H2 := Lib.hid (And.intro hj2 hg2); clear hj2 hg2)
    have hb3 := belowAJ (o := .cells #[] 32) (Below.refl w2.heap.size w2) (Nat.le_refl _)
    have hj3 := H2.out.1.keptB hb3
    have ho3 := World.ownsRow_lit (base := w.heap.size) (e := 32) (size := 2) w2 #[] 0 H2.out.2.size (by decide) rfl
    have HT := Lib.hid (⟨hpw, ho3, rfl, by rw [show max most (deep + deepM []) = most by simp only [deepM]; omega]; exact hj3, H2.out.2.trans (grown_of_below hb3 _)⟩ : OIt w p (w2.alloc (.cells #[] 32)) (.slice (some ⟨w2.heap.size, 0, none⟩) 0 0) [] [] s deep most)
    clear hb3 ho3
    have C2' := C2.out _ hj3
    clear C2 hj3 C1
    go_upto_region 4 with (go_at_call 38; refine C2'.mono ?_; rintro e w4 ⟨rfl, hj4, hg4⟩; have H4 := Lib.hid (And.intro hj4 hg4); clear hj4 hg4)
    have C3' := C3.out w4 H4.out.1
    have hT4 := HT.out.to (w2 := w4) (r2 := sp s) (by rw [show max most (deep + deepM []) = most by simp only [deepM]; omega]; exact H4.out.1) H4.out.2
    have HT4 := Lib.hid hT4
    clear hT4 HT C3
    go_upto_region 5 with (go_at_call 60; refine C3'.mono ?_; rintro e w5 ⟨rfl, rfl⟩)
    clear C3' H4
    go_loopg [3] (s.length + 1) (fun gk v wr => ∃ l vs r, OIt w p wr v l vs r deep most ∧ preO l (memsL val gk r) = X ∧ r.length < gk ∧ l.length + r.length ≤ s.length)
    case atStart => exact ⟨[], [], sp s, HT4.out, HX.out, by omega, by simp; omega⟩
    case round =>
      obtain ⟨l, vs, r, ht, hx, hgk, hls⟩ := hrel
      obtain ⟨k, rfl⟩ : ∃ k, gk = k + 1 := ⟨gk - 1, by omega⟩
      obtain ⟨va, vc, rfl⟩ := owns_slice ht.own
      obtain ⟨N, hN⟩ : ∃ N, l.length = N := ⟨_, rfl⟩
      have C6 := js_space p wr r deep _ ht.js
      have HT := Lib.hid ht
      have HN := Lib.hid hN
      rw [hN] at HT hls ⊢
      simp only [memsL] at hx
      have hspr := sp_len r
      clear ht hN HT4 HX
      have hx' : ∀ y, memP' val r = y → (match y with
          | none => (none : Option (J × Bs))
          | some (m, r') => preO l (moreP 125 m (memsL val k) r')) = X := fun y hy => by
        rw [← hx, hy]
        cases y with
        | none => rfl
        | some y => rfl
      have HXM := Lib.hid hx'
      clear hx hx'
      go_upto_region 7 with (go_at_call 38; refine C6.mono ?_; rintro e w6 ⟨rfl, hj6, hg6⟩; have HT6 := Lib.hid (HT.out.to hj6 hg6); clear hj6 hg6)
      have CT := js_text p w6 (sp r) deep _ HT6.out.js (by omega)
      cases htx : textP (sp r) with
      | none =>
        rw [htx] at CT
        have hX : X = none := by
          rw [← HXM.out none (by unfold memP'; rw [htx])]
        subst hX
        clear htx
        go_wp2_with (go_at_call 41; refine CT.mono ?_; rintro e w7 ⟨rfl, hg7⟩)
        exact ⟨rfl, rfl, HT6.out.gr.trans hg7⟩
      | some y =>
        obtain ⟨nm, r1⟩ := y
        rw [htx] at CT
        obtain ⟨hr1, -, -⟩ := text_rdg htx
        have hsp1 := sp_len r1
        go_upto_region 8 with (go_at_call 41; refine CT.mono ?_; rintro e w7 ⟨rfl, hj7, hg7⟩; have HT7 := Lib.hid (HT6.out.to hj7 hg7); clear hj7 hg7)
        have C8 := js_space p w7 r1 deep _ HT7.out.js
        go_upto_region 9 with (go_at_call 38; refine C8.mono ?_; rintro e w8 ⟨rfl, hj8, hg8⟩; have HT8 := Lib.hid (HT7.out.to hj8 hg8); clear hj8 hg8)
        clear C6 CT C8
        cases hn58 : nextB 58 (sp r1) with
        | none =>
          have hX : X = none := by
            rw [← HXM.out none (by unfold memP'; rw [htx]; simp only [hn58])]
          subst hX
          have C58 := js_next_no p w8 (sp r1) deep _ 58 HT8.out.js hn58
          clear htx hn58
          go_wp2_with (first | (go_at_call 60; refine C58.mono ?_; rintro e w10 ⟨rfl, rfl⟩) | (go_at_call 24; refine (js_mustnt p _).mono ?_; rintro e w11 ⟨rfl, rfl⟩))
          exact ⟨rfl, rfl, HT8.out.gr⟩
        | some r2 =>
          have C58 := js_next_yes p w8 r2 deep _ 58 (next_inv hn58 ▸ HT8.out.js)
          have hl58 := congrArg List.length (next_inv hn58)
          rw [List.length_cons] at hl58
          go_upto_region 10 with (first | (go_at_call 60; refine C58.mono ?_; rintro e wx ⟨rfl, hj9, hg9⟩; have HTx := Lib.hid (HT8.out.to hj9 hg9); clear hj9 hg9) | (go_at_call 24; refine (js_must p _).mono ?_; rintro e w11 ⟨rfl, rfl⟩))
          have CV := HIH.out p wx r2 deep (max most (deep + deepM l)) (by omega) (by omega) HTx.out.js (by omega) (by omega)
          clear C58 HIH
          cases hv : val r2 with
          | none =>
            rw [hv] at CV
            have hX : X = none := by
              rw [← HXM.out none (by unfold memP'; rw [htx]; simp only [hn58, hv])]
            subst hX
            clear htx hn58 hv
            go_wp2_with (go_at_call 23; refine CV.mono ?_; rintro e w5 ⟨rfl, hg5⟩)
            exact ⟨rfl, rfl, HTx.out.gr.trans hg5⟩
          | some y =>
            obtain ⟨j, r3⟩ := y
            obtain ⟨hr3, -, -⟩ := HOK.out r2 j r3 hv
            have hx := HXM.out (some ((nm, j), r3)) (by unfold memP'; rw [htx]; simp only [hn58, hv])
            simp only at hx
            rw [hv] at CV
            have HXX := Lib.hid hx
            have HGK := Lib.hid hgk
            have HLS := Lib.hid hls
            have HR1 := Lib.hid (And.intro hspr (And.intro hr1 (And.intro hsp1 (And.intro hl58 hr3))))
            have hsz := HTx.out.gr.size
            have hNl : N ≤ 1099511627776 := by omega
            clear hx hv hgk hls hr1 htx hn58 HXM hspr hsp1 hl58 hr3
            have hOWN := Lib.hid HTx.out.own
            rw [HN.out] at hOWN
            clear HT HT6 HT7 HT8
            rcases val_kind CV with CW | CW
            all_goals
              clear CV
              go_upto_region 11 with (first | (go_at_call 23; refine CW.mono ?_; rintro e w5 ⟨T, x, rfl, hj5, hg5, hu5⟩; have hsz5 := hg5.size; have hOW := fun o => (own_keptJ hOWN.out hg5 (fun k hk => by cases hk; exact hpw)).alloc o; have H5 := Lib.hid (And.intro hj5 (And.intro hg5 hu5)); clear hj5 hg5 hu5) | (at_builtin; go_loud (refine wpList_append_src rfl _ _ _ _ rfl w.heap.size EI _ N vs rfl (hOW _) _ 1 [.string ⟨nm.toArray⟩, _] rfl (by exact src_last (cs := #[.string ⟨nm.toArray⟩, _]) Tryd.underlying34 1 1 2 (by simp) rfl (by simp [Value.oneCell'])) (by unfold maxLen; omega) (by omega) (by simp; omega) ?_); intro v9 w9 hown9 hgr9 _ hloc9; have H9 := Lib.hid (And.intro hown9 (And.intro hgr9 hloc9)); clear hown9 hgr9 hloc9))
              have T9 := HTx.out.more H5.out.1 H5.out.2.1 H5.out.2.2 H9.out.1 H9.out.2.1 H9.out.2.2 (by rw [HN.out]) rfl
              have HT9 := Lib.hid T9
              obtain ⟨va9, vc9, rfl⟩ := owns_slice H9.out.1
              clear T9 H9 H5 hOW CW hOWN
              cases hn93 : nextB 125 r3 with
              | some r4 =>
                have hX : X = some (.obj (l ++ [(nm, j)]), r4) := by
                  rw [← HXX.out]
                  unfold moreP
                  rw [hn93]
                  rfl
                have C93 := js_next_yes p w9 r4 deep _ 125 (next_inv hn93 ▸ HT9.out.js)
                subst hX
                clear hn93
                go_wp2_with (go_at_call 60; refine C93.mono ?_; rintro e w10 ⟨rfl, hj10, hg10⟩; have H10 := Lib.hid (And.intro hj10 hg10); clear hj10 hg10)
                go_ret
                exact (HT9.out.to H10.out.1 H10.out.2).done
              | none =>
                have C93 := js_next_no p w9 r3 deep _ 125 HT9.out.js hn93
                go_upto_region 13 with (go_at_call 60; refine C93.mono ?_; rintro e w10 ⟨rfl, rfl⟩)
                cases hn44 : nextB 44 r3 with
                | none =>
                  have hX : X = none := by
                    rw [← HXX.out]
                    unfold moreP
                    rw [hn93, hn44]
                    rfl
                  subst hX
                  have C44 := js_next_no p w9 r3 deep _ 44 HT9.out.js hn44
                  clear hn93 hn44 C93
                  go_wp2_with (first | (go_at_call 60; refine C44.mono ?_; rintro e w10 ⟨rfl, rfl⟩) | (go_at_call 24; refine (js_mustnt p _).mono ?_; rintro e w11 ⟨rfl, rfl⟩))
                  exact ⟨rfl, rfl, HT9.out.gr⟩
                | some r4 =>
                  have hX : preO (l ++ [(nm, j)]) (memsL val k r4) = X := by
                    rw [← HXX.out]
                    unfold moreP
                    rw [hn93, hn44]
                    exact (preO_add _ _ _).symm
                  have HX2 := Lib.hid hX
                  have C44 := js_next_yes p w9 r4 deep _ 44 (next_inv hn44 ▸ HT9.out.js)
                  have hl44 := congrArg List.length (next_inv hn44)
                  rw [List.length_cons] at hl44
                  have HL := Lib.hid hl44
                  clear hn93 hn44 C93 hX hl44
                  go_wp2_with (first | (go_at_call 60; refine C44.mono ?_; rintro e w10 ⟨rfl, hj10, hg10⟩; have H10 := Lib.hid (And.intro hj10 hg10); clear hj10 hg10) | (go_at_call 24; refine (js_must p _).mono ?_; rintro e w11 ⟨rfl, rfl⟩))
                  go_roundg k
                  case measure => omega
                  case rel =>
                    have g1 := HL.out
                    obtain ⟨g2, g5, g6, g7, g8⟩ := HR1.out
                    have g3 := HGK.out
                    have g4 := HLS.out
                    exact ⟨l ++ [(nm, j)], _, r4, HT9.out.to H10.out.1 H10.out.2, HX2.out, by omega, by rw [List.length_append, List.length_singleton, HN.out]; omega⟩
end Go.Proofs.YtljnbbdhmlfhjaaDoor
