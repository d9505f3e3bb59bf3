/-
  The contract of the reference's Once.
-/
import Derived.Test.YtgopmhfehobooaaTextX
import Derived.Test.YtgopmhfehobooaaKitC
import Derived.BigQuiet
import Derived.Sort.Walk0
namespace Go.Proofs.Ytgopmhfehobooaa
open Go.RowKit

theorem insU_at (x : Txt) (O : List Txt) (m : Nat) (hm : m ≤ O.length) (h : ∀ y ∈ O.take m, y < x) (hs : ∀ h : m < O.length, ¬ O[m] < x) :
    insU x O = if O[m]? = some x then O else O.take m ++ x :: O.drop m := by
  have ht : O.takeWhile (fun y => decide (y < x)) = O.take m := by
    have e : O = O.take m ++ O.drop m := (List.take_append_drop m O).symm
    conv => lhs; rw [e]
    rw [List.takeWhile_append_of_pos (fun y hy => by simpa using h y hy)]
    by_cases c : m < O.length
    · rw [List.drop_eq_getElem_cons c, List.takeWhile_cons_of_neg (by simpa using hs c), List.append_nil]
    · rw [List.drop_of_length_le (by omega), List.takeWhile_nil, List.append_nil]
  have hl : (O.take m).length = m := by rw [List.length_take]; omega
  unfold insU
  simp only [ht, hl, List.head?_drop]
theorem texts_ins {w : World} {A B : Nat} {v : Value} {O : List Txt} {x : Txt} {m : Nat} (h : w.ownsRow A 9 1 v (m + 1 + (O.length - m)) ((O.take m).map strV ++ [strV x] ++ (O.drop m).map strV)) (hm : m ≤ O.length) (hA : B ≤ A) : Texts w B v (O.take m ++ x :: O.drop m) := by
  have e : (O.take m ++ x :: O.drop m).length = m + 1 + (O.length - m) := by simp; omega
  unfold Texts
  rw [e]
  have e2 : (O.take m ++ x :: O.drop m).map strV = (O.take m).map strV ++ [strV x] ++ (O.drop m).map strV := by simp
  rw [e2]
  exact owns_base h hA
theorem texts_end {w : World} {A B : Nat} {v : Value} {O : List Txt} {x : Txt} (h : w.ownsRow A 9 1 v (O.length + 1) (O.map strV ++ [strV x])) (hA : B ≤ A) : Texts w B v (O ++ [x]) := by
  unfold Texts
  rw [List.length_append, List.map_append]
  exact owns_base h hA
theorem src_empty {P : Program} {w : World} {tx e' : TypeId} {size : Nat} (hk : P.underlying tx = some (.slice e')) (a : Option Addr) (c : Nat) : Src P size tx (.slice a 0 c) 0 [] w := by
  cases a with
  | none => exact Src.ofNil w hk c
  | some a => exact Src.ofSlice w hk a 0 c [] (by simp) (fun j u h => by simp at h) (fun u h => by cases h)
theorem below_src {wr W w1 : World} (h : Below wr.heap.size wr W) (hg : W.grownBy w1 none) (hs : wr.heap.size ≤ W.heap.size) : Below wr.heap.size wr w1 := h.grown hg hs (fun k hk => by cases hk)
theorem below_src' {wr w1 w2 : World} {o : Obj} {v : Value} {e : TypeId} {sz n : Nat} {xs : List Value} (h : Below wr.heap.size wr w1) (ho : w1.ownsRow wr.heap.size e sz v n xs) (hg : (w1.alloc o).grownBy w2 v.ownBlock) : Below wr.heap.size wr w2 :=
  (h.alloc h.size o).grown hg (by have := h.size; simp; omega) (fun k hk => (ho.lt k hk).1)
theorem below_src2 {wr w1 w2 : World} {v : Value} {e : TypeId} {sz n : Nat} {xs : List Value} (h : Below wr.heap.size wr w1) (ho : w1.ownsRow wr.heap.size e sz v n xs) (hg : w1.grownBy w2 v.ownBlock) : Below wr.heap.size wr w2 :=
  h.grown hg h.size (fun k hk => (ho.lt k hk).1)
theorem strV_one (L : List Txt) : ∀ u ∈ L.map strV, u.oneCell' = true := by
  intro u hu
  obtain ⟨x, _, rfl⟩ := List.mem_map.1 hu
  rfl
theorem strV_less (a b : Txt) : Op.bytesLess (⟨a.toArray⟩ : ByteArray).toList (⟨b.toArray⟩ : ByteArray).toList = decide (a < b) := by
  rw [Go.Proofs.bytesLess_eq, ByteArray.toList_eq, ByteArray.toList_eq]
theorem strV_beq (a b : Txt) : ((⟨a.toArray⟩ : ByteArray).toList == (⟨b.toArray⟩ : ByteArray).toList) = decide (a = b) := by
  rw [ByteArray.toList_eq, ByteArray.toList_eq, Bool.eq_iff_iff]
  simp

set_option maxRecDepth 100000 in
set_option maxHeartbeats 8000000 in
theorem ref_Once (va : Value) (L : List Txt) (w : World) (hrow : argRow w va L.length 1 (L.map strV)) (hL : L.length ≤ 1000000000) :
    Calls Try.prog 12 #[va] w fun e w' => ∃ v, e = .returned v ∧ Texts w' w.heap.size v (onceL L) ∧ Below w.heap.size w w' := by
  obtain ⟨_, aa, ac, rfl, hac, hacm, hcell⟩ := hrow
  clear hac hacm
  have HC := Lib.hid hcell
  clear hcell
  have EL : ElemT Try.prog 23 9 (.string ⟨#[]⟩) 1 16 := ⟨Try.underlying23, info_str, rfl, by decide⟩
  obtain ⟨R, hR⟩ : ∃ R, onceL L = R := ⟨_, rfl⟩
  rw [hR]
  have HR := Lib.hid hR
  clear hR
  go_enter Try.func12, Try.ntmps12
  go_wp2
  go_loopw [3, 4] (fun v i wr => ∃ (k : Nat) (O : List Txt), k ≤ L.length ∧ i = .int .i64 k ∧ Texts wr w.heap.size v O ∧ (L.take k).foldl (fun out x => insU x out) [] = O ∧ O.length ≤ k ∧ Below w.heap.size w wr) (fun _ i _ => L.length - (intOf i).toNat)
  case atStart => exact ⟨0, [], by omega, rfl, World.ownsRow_nil _ _ _ _, rfl, by simp, Below.refl _ _⟩
  case round =>
    obtain ⟨k, O, hk, rfl, hown, hO, hOk, hbr⟩ := hrel
    have HF := Lib.hid hO
    clear hO
    by_cases hlt : k < L.length
    · obtain ⟨b, off, rfl, hbl, hcs⟩ := HC.out (by omega)
      have g0 : wr.cell? ⟨b, off + k, none⟩ = some (strV L[k]) := by
        rw [hbr.cell (p := ⟨b, off + k, none⟩) hbl, hcs k (by simpa using hlt), List.getElem_map]
      clear hcs
      have HTK := Lib.hid (List.take_succ_eq_append_getElem hlt)
      generalize L[k] = x at *
      have i1 : (0 : Int) ≤ (k : Int) := by omega
      have i2 : (k : Int) < (L.length : Int) := by omega
      have HROW := Lib.hid (fun W (hW : Below wr.heap.size wr W) => argRow_below (argRow_owns hown) hW : ∀ W, Below wr.heap.size wr W → argRow W _ _ 1 _)
      obtain ⟨oa, oc, rfl⟩ := owns_slice hown
      have hoc : O.length ≤ oc := by
        obtain ⟨_, _, _, e, h, _⟩ := HROW.out wr (Below.refl _ _)
        cases e; exact h
      have HOWN := Lib.hid hown
      clear hown
      have HG := Lib.hid g0
      unfold strV at g0
      have hblt : b < wr.heap.size := Nat.lt_of_lt_of_le hbl hbr.size
      obtain ⟨wo, hwo⟩ : ∃ wo : World, wo = wr := ⟨_, rfl⟩
      subst hwo
      go_wp2
      go_loopw [5] (fun at' wi => ∃ m q : Nat, m ≤ O.length ∧ at' = .int .i64 m ∧ (∀ y ∈ O.take m, y < x) ∧ wi = wo.drewN q) (fun at' _ => O.length - (intOf at').toNat)
      case atStart => exact ⟨0, 0, by omega, rfl, by simp, rfl⟩
      case round =>
        obtain ⟨m, q, hm, rfl, hall, rfl⟩ := hrel
        have HA := Lib.hid hall
        clear hall
        have HS1 := Lib.hid (fun W hW => src_arg Try.underlying23 (argRow_take (HROW.out W hW) hm) (by rw [Nat.mul_one, ← List.map_take]; exact strV_one _) : ∀ W, Below wo.heap.size wo W → Src Try.prog 1 23 (.slice oa m oc) m ((O.map strV).take (m * 1)) W)
        rw [Nat.mul_one, ← List.map_take] at HS1
        by_cases hmo : m < O.length
        · have hrow := HROW.out wo (Below.refl _ _)
          obtain ⟨_, _, _, e, _, _, hcO⟩ := hrow
          cases e
          obtain ⟨bo, oo, rfl, hbo, hco⟩ := hcO (by omega)
          have c1 : wo.cell? ⟨bo, oo + m, none⟩ = some (strV O[m]) := by rw [hco m (by simpa using hmo), List.getElem_map]
          clear hcO hco
          have HOM := Lib.hid (rfl : O[m] = O[m])
          have hins := insU_at x O m hm HA.out
          have htk : O.take (m + 1) = O.take m ++ [O[m]] := List.take_succ_eq_append_getElem hmo
          have HTM := Lib.hid htk
          clear htk
          have hgm : O[m]? = some O[m] := List.getElem?_eq_getElem hmo
          rw [hgm] at hins
          have hins' : ¬ O[m] < x → insU x O = if some O[m] = some x then O else O.take m ++ x :: O.drop m := fun h => hins (fun _ => h)
          clear hins hgm
          have HI := Lib.hid hins'
          clear hins' HOM
          generalize O[m] = y at *
          have j1 : (0 : Int) ≤ (m : Int) := by omega
          have j2 : (m : Int) < (O.length : Int) := by omega
          unfold strV at c1
          by_cases hyx : y < x
          · have hbl : Op.bytesLess y x = true := by rw [Go.Proofs.bytesLess_eq]; exact decide_eq_true hyx
            have HYX := Lib.hid hyx
            clear hyx
            go_wp2_with fail
            go_quiet (fail)
            go_wp2
            go_roundw
            case rel => exact ⟨m + 1, _, by omega, by go_num, by rw [HTM.out]; intro z hz; rcases List.mem_append.1 hz with h | h; exact HA.out z h; simp at h; rw [h]; exact HYX.out, rfl⟩
            case measure => simp [intOf]; omega
          · have hbl : Op.bytesLess y x = false := by rw [Go.Proofs.bytesLess_eq]; exact decide_eq_false hyx
            have hins := HI.out hyx
            clear hyx HI
            by_cases he : y = x
            · subst he
              rw [if_pos rfl] at hins
              have HINS := Lib.hid hins
              clear hins
              have hbe : (y == y) = true := by simp
              go_wp2_with fail
              go_quiet (fail)
              go_wp2_with fail
              go_quiet (fail)
              go_wp2
              go_roundw
              case rel => exact ⟨k + 1, O, by omega, by go_num, HOWN.out, by rw [HTK.out, List.foldl_append, HF.out]; exact HINS.out, by omega, below_drewN hbr _⟩
              case measure => simp [intOf]; omega
            · have hne : ¬ some y = some x := fun h => he (Option.some.inj h)
              rw [if_neg hne] at hins
              have HINS := Lib.hid hins
              have hbe : (y == x) = false := by simpa using he
              clear hins hne he
              have HS3 := Lib.hid (fun W hW => src_arg Try.underlying23 (argRow_drop (HROW.out W hW) hm (c' := oc - m) (by omega) (fun b off e h => by cases e; rw [Nat.mul_one])) (by rw [Nat.mul_one, ← List.map_drop]; exact strV_one _) : ∀ W, Below wo.heap.size wo W → Src Try.prog 1 23 (.slice (some ⟨bo, oo + m, none⟩) (O.length - m) (oc - m)) (O.length - m) ((O.map strV).drop (m * 1)) W)
              rw [Nat.mul_one, ← List.map_drop] at HS3
              go_wp2_with fail
              go_quiet (fail)
              go_wp2_with fail
              go_quiet (fail)
              go_wp2_with (first | (at_builtin; refine wpList_append_src rfl (.tmp 45) (.tmp 48) _ _ rfl wo.heap.size EL _ 0 [] rfl (World.ownsRow_nil _ _ _ _) _ m ((O.take m).map strV) rfl (by exact HS1.out _ (by repeat first | exact Below.refl _ _ | refine below_drewN ?_ _)) (by unfold maxLen; omega) (by omega) (by simp) ?_; intro v1 w1 hown1 hgr1 _ _; have hb1 := below_src (wr := wo) (by repeat first | exact Below.refl _ _ | refine below_drewN ?_ _) hgr1 (by simp); have g1 := (hb1.cell (p := ⟨b, off + k, none⟩) hblt).trans g0; simp only [Nat.zero_add, List.nil_append] at hown1) | (at_builtin; refine wpList_append_src rfl (.tmp 50) (.tmp 55) _ _ rfl wo.heap.size EL _ _ _ rfl (hown1.alloc _) _ 1 [strV x] rfl (by exact src_last (cs := #[strV x]) Try.underlying23 1 1 1 rfl rfl (by simp [strV, Value.oneCell'])) (by unfold maxLen; omega) (by omega) (by have := hb1.size; simp; omega) ?_; intro v2 w2 hown2 hgr2 _ _; have hb2 := below_src' hb1 hown1 hgr2) | (at_builtin; refine wpList_append_src rfl (.tmp 57) (.tmp 60) _ _ rfl wo.heap.size EL _ _ _ rfl hown2 _ (O.length - m) ((O.drop m).map strV) rfl (by exact HS3.out _ hb2) (by unfold maxLen; omega) (by omega) (by have := hb2.size; simp; omega) ?_; intro v3 w3 hown3 hgr3 _ _; have hb3 := below_src2 hb2 hown2 hgr3))
              go_roundw
              case rel => exact ⟨k + 1, insU x O, by omega, by go_num, by rw [HINS.out]; exact texts_ins hown3 hm hbr.size, by rw [HTK.out, List.foldl_append, HF.out]; rfl, by rw [HINS.out]; simp; omega, hbr.trans (hb3.mono hbr.size)⟩
              case measure => simp [intOf]; omega
        · obtain rfl : m = O.length := by omega
          have hins := insU_at x O O.length (Nat.le_refl _) HA.out (fun h => absurd h hmo)
          rw [List.getElem?_eq_none (Nat.le_refl _), if_neg (by simp), List.drop_length, List.take_length] at hins
          have HINS := Lib.hid hins
          clear hins hmo
          rcases HOWN.out.2 with ⟨e, _⟩ | ⟨g, cap, _, e, _, _, _, _, _, _⟩
          · injection e with e1 e2 e3
            subst e1
            subst e3
            have e4 : O = [] := List.eq_nil_of_length_eq_zero e2
            subst e4
            simp only [List.length_nil] at *
            go_wp2_with fail
            go_quiet (fail)
            go_wp2_with fail
            go_quiet (fail)
            go_wp2_with (first | (at_builtin; refine wpList_append_src rfl (.tmp 45) (.tmp 48) _ _ rfl wo.heap.size EL _ 0 [] rfl (World.ownsRow_nil _ _ _ _) _ 0 ((([] : List Txt).take 0).map strV) rfl (by exact HS1.out _ (by repeat first | exact Below.refl _ _ | refine below_drewN ?_ _)) (by unfold maxLen; omega) (by omega) (by simp) ?_; intro v1 w1 hown1 hgr1 _ _; have hb1 := below_src (wr := wo) (by repeat first | exact Below.refl _ _ | refine below_drewN ?_ _) hgr1 (by simp); have g1 := (hb1.cell (p := ⟨b, off + k, none⟩) hblt).trans g0; simp only [Nat.zero_add, List.nil_append] at hown1) | (at_builtin; refine wpList_append_src rfl (.tmp 50) (.tmp 55) _ _ rfl wo.heap.size EL _ _ _ rfl (hown1.alloc _) _ 1 [strV x] rfl (by exact src_last (cs := #[strV x]) Try.underlying23 1 1 1 rfl rfl (by simp [strV, Value.oneCell'])) (by unfold maxLen; omega) (by omega) (by have := hb1.size; simp; omega) ?_; intro v2 w2 hown2 hgr2 _ _; have hb2 := below_src' hb1 hown1 hgr2) | (at_builtin; refine wpList_append_src rfl (.tmp 57) (.tmp 60) _ _ rfl wo.heap.size EL _ _ _ rfl hown2 _ 0 [] rfl (by exact src_empty Try.underlying23 _ _) (by unfold maxLen; omega) (by omega) (by have := hb2.size; simp; omega) ?_; intro v3 w3 hown3 hgr3 _ _; have hb3 := below_src2 hb2 hown2 hgr3))
            go_roundw
            case rel => exact ⟨k + 1, insU x ([] : List Txt), by omega, by go_num, by rw [HINS.out]; exact texts_end (by simpa using hown3) hbr.size, by rw [HTK.out, List.foldl_append, HF.out]; rfl, by rw [HINS.out]; simp <;> omega, hbr.trans (hb3.mono hbr.size)⟩
            case measure => simp [intOf]; omega
          · injection e with e1 _ e3
            subst e1
            subst e3
            by_cases hcap : O.length = oc
            · subst hcap
              go_wp2_with fail
              go_quiet (fail)
              go_wp2_with fail
              go_quiet (fail)
              go_wp2_with (first | (at_builtin; refine wpList_append_src rfl (.tmp 45) (.tmp 48) _ _ rfl wo.heap.size EL _ 0 [] rfl (World.ownsRow_nil _ _ _ _) _ O.length ((O.take O.length).map strV) rfl (by exact HS1.out _ (by repeat first | exact Below.refl _ _ | refine below_drewN ?_ _)) (by unfold maxLen; omega) (by omega) (by simp) ?_; intro v1 w1 hown1 hgr1 _ _; have hb1 := below_src (wr := wo) (by repeat first | exact Below.refl _ _ | refine below_drewN ?_ _) hgr1 (by simp); have g1 := (hb1.cell (p := ⟨b, off + k, none⟩) hblt).trans g0; simp only [Nat.zero_add, List.nil_append] at hown1) | (at_builtin; refine wpList_append_src rfl (.tmp 50) (.tmp 55) _ _ rfl wo.heap.size EL _ _ _ rfl (hown1.alloc _) _ 1 [strV x] rfl (by exact src_last (cs := #[strV x]) Try.underlying23 1 1 1 rfl rfl (by simp [strV, Value.oneCell'])) (by unfold maxLen; omega) (by omega) (by have := hb1.size; simp; omega) ?_; intro v2 w2 hown2 hgr2 _ _; have hb2 := below_src' hb1 hown1 hgr2) | (at_builtin; refine wpList_append_src rfl (.tmp 57) (.tmp 60) _ _ rfl wo.heap.size EL _ _ _ rfl hown2 _ 0 [] rfl (by exact src_empty Try.underlying23 _ _) (by unfold maxLen; omega) (by omega) (by have := hb2.size; simp; omega) ?_; intro v3 w3 hown3 hgr3 _ _; have hb3 := below_src2 hb2 hown2 hgr3))
              go_roundw
              case rel => exact ⟨k + 1, insU x O, by omega, by go_num, by rw [HINS.out]; exact texts_end (by simpa using hown3) hbr.size, by rw [HTK.out, List.foldl_append, HF.out]; rfl, by rw [HINS.out]; simp <;> omega, hbr.trans (hb3.mono hbr.size)⟩
              case measure => simp [intOf]; omega
            · have hcap' : O.length < oc := by omega
              clear hcap
              go_wp2_with fail
              go_quiet (fail)
              go_wp2_with fail
              go_quiet (fail)
              go_wp2_with (first | (at_builtin; refine wpList_append_src rfl (.tmp 45) (.tmp 48) _ _ rfl wo.heap.size EL _ 0 [] rfl (World.ownsRow_nil _ _ _ _) _ O.length ((O.take O.length).map strV) rfl (by exact HS1.out _ (by repeat first | exact Below.refl _ _ | refine below_drewN ?_ _)) (by unfold maxLen; omega) (by omega) (by simp) ?_; intro v1 w1 hown1 hgr1 _ _; have hb1 := below_src (wr := wo) (by repeat first | exact Below.refl _ _ | refine below_drewN ?_ _) hgr1 (by simp); have g1 := (hb1.cell (p := ⟨b, off + k, none⟩) hblt).trans g0; simp only [Nat.zero_add, List.nil_append] at hown1) | (at_builtin; refine wpList_append_src rfl (.tmp 50) (.tmp 55) _ _ rfl wo.heap.size EL _ _ _ rfl (hown1.alloc _) _ 1 [strV x] rfl (by exact src_last (cs := #[strV x]) Try.underlying23 1 1 1 rfl rfl (by simp [strV, Value.oneCell'])) (by unfold maxLen; omega) (by omega) (by have := hb1.size; simp; omega) ?_; intro v2 w2 hown2 hgr2 _ _; have hb2 := below_src' hb1 hown1 hgr2) | (at_builtin; refine wpList_append_src rfl (.tmp 57) (.tmp 60) _ _ rfl wo.heap.size EL _ _ _ rfl hown2 _ 0 [] rfl (by exact src_empty Try.underlying23 _ _) (by unfold maxLen; omega) (by omega) (by have := hb2.size; simp; omega) ?_; intro v3 w3 hown3 hgr3 _ _; have hb3 := below_src2 hb2 hown2 hgr3))
              go_roundw
              case rel => exact ⟨k + 1, insU x O, by omega, by go_num, by rw [HINS.out]; exact texts_end (by simpa using hown3) hbr.size, by rw [HTK.out, List.foldl_append, HF.out]; rfl, by rw [HINS.out]; simp <;> omega, hbr.trans (hb3.mono hbr.size)⟩
              case measure => simp [intOf]; omega
    · obtain rfl : k = L.length := by omega
      have e := HF.out
      rw [List.take_length] at e
      have hfin : Texts wr w.heap.size u3 R := by rw [← HR.out]; unfold onceL; rw [e]; exact hown
      go_wp2
      go_ret
      exact ⟨_, rfl, hfin, hbr⟩
end Go.Proofs.Ytgopmhfehobooaa
