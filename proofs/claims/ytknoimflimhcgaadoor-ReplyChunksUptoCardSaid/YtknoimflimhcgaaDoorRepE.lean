/-
  The contract of reply.Chunks.
-/
import Derived.Test.YtknoimflimhcgaaDoorRepD
import Derived.Outline
import Derived.Deep.DeepCutAuto
namespace Go.Proofs.YtknoimflimhcgaaDoor
open Go.RowKit

theorem digP_le : ∀ (t : Byt) (dg : Nat) (z : Bool) (n n' k : Nat), digP dg z n t = some (some (n', k)) → k ≤ dg + t.length
  | [], dg, z, n, n', k, e => by simp [digP] at e
  | c :: t, dg, z, n, n', k, e => by
    simp only [digP] at e
    split at e
    · split at e
      · cases e
      · split at e
        · simp only [Option.some.injEq, Prod.mk.injEq] at e; simp only [List.length_cons]; omega
        · cases e
    · split at e
      · have := digP_le t _ _ _ _ _ e; simp only [List.length_cons]; omega
      · cases e
theorem lineP_bound {D : Byt} {n k : Nat} (h : lineP D = some (some (n, k))) : n < 4294967296 ∧ 3 ≤ k ∧ k ≤ D.length := by
  cases D with
  | nil => cases h
  | cons c t =>
    simp only [lineP] at h
    split at h
    · rename_i hx
      have h1 := digP_le t _ _ _ _ _ h
      have h2 := digP_ge t _ _ _ _ _ h
      have h3 := (digP_bound t 1 (hexV c == 0) (hexV c) n k (by omega) (by omega) (by have := hexV_lt hx; omega) (by simp) (by simp) h).1
      simp only [List.length_cons]
      omega
    · cases h
theorem endP_true {D : Byt} (h : endP D = some true) : 2 ≤ D.length := by
  match D, h with
  | [], h => cases h
  | [a], h => simp only [endP] at h; split at h <;> cases h
  | a :: b :: t, _ => simp
theorem parse_at {l : Byt} {k : Nat} (acc : List Byt) (hk : k < l.length) : parseC (l.length - k) (l.drop k) acc = match lineP (l.drop k) with
    | none => none
    | some none => some (acc, false)
    | some (some (n, m)) => bodyP n (l.drop (k + m)) acc (parseC (l.length - (k + 1))) := by
  rw [show l.length - k = (l.length - (k + 1)) + 1 from by omega]
  have hd := List.drop_eq_getElem_cons hk
  have e : ∀ m, l.drop (k + m) = (l.drop k).drop m := fun m => by rw [List.drop_drop]
  simp only [e]
  generalize l.length - (k + 1) = f
  rw [hd]
  simp only [parseC]
  rfl
theorem parse_none {l : Byt} {k : Nat} (acc : List Byt) (hk : k < l.length) (h : lineP (l.drop k) = none) : parseC (l.length - k) (l.drop k) acc = none := by rw [parse_at acc hk, h]
theorem parse_part {l : Byt} {k : Nat} (acc : List Byt) (hk : k < l.length) (h : lineP (l.drop k) = some none) : parseC (l.length - k) (l.drop k) acc = some (acc, false) := by rw [parse_at acc hk, h]
theorem parse_short {l : Byt} {k n m : Nat} (acc : List Byt) (hk : k < l.length) (h : lineP (l.drop k) = some (some (n, m))) (hr : l.length < k + m + n) : parseC (l.length - k) (l.drop k) acc = some (acc, false) := by
  rw [parse_at acc hk, h]
  have := (lineP_bound h).2.2
  rw [List.length_drop] at this
  simp only [bodyP]
  rw [if_pos (by rw [List.length_drop]; omega)]
theorem parse_next {l : Byt} {k n m : Nat} (acc : List Byt) (hk : k < l.length) (h : lineP (l.drop k) = some (some (n, m))) (hr : k + m + n ≤ l.length) :
    parseC (l.length - k) (l.drop k) acc = match endP (l.drop (k + m + n)) with
      | none => none
      | some whole => if n = 0 ∧ k + m + 2 < l.length then none else if whole = false then some (acc, false) else if n = 0 then some (acc, true) else
          parseC (l.length - (k + m + n + 2)) (l.drop (k + m + n + 2)) (acc ++ [(l.drop (k + m)).take n]) := by
  rw [parse_at acc hk, h]
  have hm := (lineP_bound h).2
  rw [List.length_drop] at hm
  simp only [bodyP]
  rw [if_neg (by rw [List.length_drop]; omega), List.drop_drop]
  cases hq : endP (l.drop (k + m + n)) with
  | none => rfl
  | some whole =>
    simp only
    have e1 : (n = 0 ∧ 2 < (l.drop (k + m)).length) ↔ (n = 0 ∧ k + m + 2 < l.length) := by rw [List.length_drop]; omega
    simp only [e1]
    rw [List.drop_drop]
    rw [parse_fuel (l.length - (k + 1)) (l.length - (k + m + n + 2)) (l.drop (k + m + n + 2)) _ (by rw [List.length_drop]; omega) (by rw [List.length_drop]; omega)]

/-- What the reading of chunks answers. -/
def ChunksEnd (r : Option (List Byt × Bool)) (B : Nat) (w' : World) (e : Ending) : Prop := match r with
  | none => e = .returned (.tuple #[.slice none 0 0, .bool false, .int .i64 6])
  | some (acc, d) => ∃ v, e = .returned (.tuple #[v, .bool d, .int .i64 0]) ∧ Parts w' B v acc
theorem ChunksEnd.mk {r : Option (List Byt × Bool)} {B : Nat} {w' : World} {e : Ending} {acc : List Byt} {d : Bool} (hr : r = some (acc, d)) {v : Value} (he : e = .returned (.tuple #[v, .bool d, .int .i64 0])) (hp : Parts w' B v acc) : ChunksEnd r B w' e := by
  subst hr; exact ⟨v, he, hp⟩
theorem ChunksEnd.no {r : Option (List Byt × Bool)} {B : Nat} {w' : World} {e : Ending} (hr : r = none) (he : e = .returned (.tuple #[.slice none 0 0, .bool false, .int .i64 6])) : ChunksEnd r B w' e := by
  subst hr; exact he
theorem info_row : (Tryd.prog.info? 22).map (fun i => (i.zero, i.size, i.bytes)) = some (some (.slice none 0 0), 1, 24) := by kernel_rfl
theorem owns_kept_nil {w w' : World} {B : Nat} {e : TypeId} {size n : Nat} {v : Value} {xs : List Value} (h : w.ownsRow B e size v n xs) (hg : w.grownBy w' none) : w'.ownsRow B e size v n xs :=
  h.kept hg (by cases hv : v.ownBlock with
    | none => exact .inl rfl
    | some g => exact .inr (fun e => by cases e))
theorem part_one (v : Value) (w : World) {B : Nat} {l : Byt} (h : Part w B v l) : v.oneCell' = true := by
  rcases owns_slice h with ⟨a, c, rfl⟩
  rfl

set_option maxRecDepth 100000 in
set_option maxHeartbeats 8000000 in
theorem reply_Chunks (va : Value) (l : Byt) (w : World) (hrow : argRow w va l.length 1 (Lib.byteCells l)) (hl : l.length ≤ 1000000000) :
    Calls Tryd.prog 8 #[va] w fun e w' => ChunksEnd (chunksOf l) w.heap.size w' e ∧ Below w.heap.size w w' := by
  have HROW := Lib.hid hrow
  obtain ⟨_, a0, cap, rfl, hlc, hcm, hc⟩ := hrow
  clear hc
  obtain ⟨R, hR⟩ : ∃ R, chunksOf l = R := ⟨_, rfl⟩
  rw [hR]
  have HR := Lib.hid hR
  clear hR
  have EL : ElemT Tryd.prog 24 22 (.slice none 0 0) 1 24 := ⟨Tryd.underlying24, info_row, rfl, by decide⟩
  have E8 : ElemT Tryd.prog 22 5 (.int .u8 0) 1 1 := ⟨Tryd.underlying22, info_u8', rfl, by decide⟩
  go_enter Tryd.func8, Tryd.ntmps8
  go_wp2
  go_loopw [5, 6] (fun v i wr => ∃ k : Nat, i = .int .i64 k ∧ k ≤ l.length ∧ ∃ acc, acc.length ≤ k ∧ Parts wr w.heap.size v acc ∧ parseC (l.length - k) (l.drop k) acc = R ∧ Below w.heap.size w wr) (fun _ i _ => l.length - (intOf i).toNat)
  case atStart => exact ⟨0, rfl, Nat.zero_le _, [], Nat.le_refl _, Parts.nil _ _, HR.out, Below.refl _ _⟩
  case round =>
    obtain ⟨k, rfl, hk, acc, hac, hparts, hpar, hbr⟩ := hrel
    have HP := Lib.hid hparts
    have HPAR := Lib.hid hpar
    clear hparts hpar
    by_cases hlt : k < l.length
    · have cL := reply_line _ l k wr (argRow_below HROW.out hbr) hlt hl
      have hq1 : (k : Int) < (l.length : Int) := by omega
      cases hq : lineP (l.drop k) with
      | none =>
        rw [hq] at cL
        have HQ := Lib.hid hq
        clear hq
        go_wp2_with (go_at_call 17; refine cL.mono ?_; rintro e w1 ⟨rfl, hb1⟩)
        go_ret3
        exact ⟨.no (by rw [← HPAR.out]; exact parse_none acc hlt HQ.out) rfl, hbr.trans (hb1.mono hbr.size)⟩
      | some o =>
        cases o with
        | none =>
          rw [hq] at cL
          have HQ := Lib.hid hq
          clear hq
          go_wp2_with (go_at_call 17; refine cL.mono ?_; rintro e w1 ⟨rfl, hb1⟩)
          go_ret3
          exact ⟨.mk (by rw [← HPAR.out]; exact parse_part acc hlt HQ.out) rfl (HP.out.below hb1), hbr.trans (hb1.mono hbr.size)⟩
        | some nm =>
          obtain ⟨n, m⟩ := nm
          have hbd := lineP_bound hq
          rw [List.length_drop] at hbd
          obtain ⟨hn32, hm3, hmk⟩ := hbd
          have hsh := fun hr => parse_short acc hlt hq (hr : l.length < k + m + n)
          have hnx := fun hr => parse_next acc hlt hq (hr : k + m + n ≤ l.length)
          rw [hq] at cL
          clear hq
          obtain ⟨q, hqk⟩ : ∃ q, q = k + m := ⟨_, rfl⟩
          have cL' : Calls Tryd.prog 17 #[.slice a0 l.length cap, .int .i64 (k : Int)] wr fun e w' => e = .returned (.tuple #[.int .i64 (n : Int), .int .i64 (q : Int), .bool true]) ∧ Below wr.heap.size wr w' := by
            refine cL.mono ?_
            rintro e w' ⟨h1, h2⟩
            refine ⟨?_, h2⟩
            rw [show (q : Int) = (k : Int) + (m : Int) from by omega]
            exact h1
          clear cL
          rw [← hqk] at hsh hnx
          have hqm : 3 + k ≤ q := by omega
          have hql : q ≤ l.length := by omega
          have HQK := Lib.hid hqk
          clear hqk hm3 hmk
          have hq0 : decide ((q : Int) < 0) = false := decide_eq_false (by omega)
          by_cases hr : l.length < q + n
          · have HFIN := Lib.hid (hsh hr)
            have hr1 : decide ((l.length : Int) - (q : Int) < (n : Int)) = true := decide_eq_true (by omega)
            clear hsh hnx
            go_wp2_with (go_at_call 17; refine cL'.mono ?_; rintro e w1 ⟨rfl, hb1⟩)
            go_ret3
            exact ⟨.mk (by rw [← HPAR.out]; exact HFIN.out) rfl (HP.out.below hb1), hbr.trans (hb1.mono hbr.size)⟩
          · have hr1 : decide ((l.length : Int) - (q : Int) < (n : Int)) = false := decide_eq_false (by omega)
            have hfin := hnx (by omega)
            clear hsh hnx
            have cE := fun W (h : argRow W (.slice a0 l.length cap) l.length 1 (Lib.byteCells l)) => reply_end _ l (q + n) W h (by omega) (by omega) hl
            rw [Int.natCast_add] at cE
            cases hend : endP (l.drop (q + n)) with
            | none =>
              rw [hend] at cE hfin
              have HFIN := Lib.hid hfin
              clear hfin hend
              go_wp2_with (first | (go_at_call 17; refine cL'.mono ?_; rintro e w1 ⟨rfl, hb1⟩) | (go_at_call 18; refine (cE _ (argRow_below HROW.out (hbr.trans (hb1.mono hbr.size)))).mono ?_; rintro e w2 ⟨rfl, rfl⟩))
              go_ret3
              exact ⟨.no (by rw [← HPAR.out]; exact HFIN.out) rfl, hbr.trans (hb1.mono hbr.size)⟩
            | some whole =>
              have HEND := Lib.hid hend
              rw [hend] at cE hfin
              simp only at hfin
              clear hend
              by_cases h0 : n = 0 ∧ q + 2 < l.length
              · rw [if_pos h0] at hfin
                have HFIN := Lib.hid hfin
                obtain ⟨rfl, h02⟩ := h0
                have d2 : decide ((q : Int) + 2 < (l.length : Int)) = true := decide_eq_true (by omega)
                clear hfin
                go_wp2_with (first | (go_at_call 17; refine cL'.mono ?_; rintro e w1 ⟨rfl, hb1⟩) | (go_at_call 18; refine (cE _ (argRow_below HROW.out (hbr.trans (hb1.mono hbr.size)))).mono ?_; rintro e w2 ⟨rfl, rfl⟩))
                go_ret3
                exact ⟨.no (by rw [← HPAR.out]; exact HFIN.out) rfl, hbr.trans (hb1.mono hbr.size)⟩
              · rw [if_neg h0] at hfin
                have hcase : ∃ e0, ((n : Int) == 0) = e0 ∧ (e0 = true → decide ((q : Int) + 2 < (l.length : Int)) = false) ∧ (n = 0 ↔ e0 = true) := by
                  refine ⟨_, rfl, fun h => decide_eq_false (fun h2 => h0 ⟨by simpa using h, by omega⟩), by simp⟩
                obtain ⟨e0, he0, hd2, hn0⟩ := hcase
                cases whole
                · have HFIN := Lib.hid hfin
                  clear hfin h0 hn0
                  cases e0
                  · clear hd2
                    go_wp2_with (first | (go_at_call 17; refine cL'.mono ?_; rintro e w1 ⟨rfl, hb1⟩) | (go_at_call 18; refine (cE _ (argRow_below HROW.out (hbr.trans (hb1.mono hbr.size)))).mono ?_; rintro e w2 ⟨rfl, rfl⟩))
                    go_ret3
                    exact ⟨.mk (by rw [← HPAR.out]; exact HFIN.out) rfl (HP.out.below hb1), hbr.trans (hb1.mono hbr.size)⟩
                  · have hd3 := hd2 rfl
                    clear hd2
                    go_wp2_with (first | (go_at_call 17; refine cL'.mono ?_; rintro e w1 ⟨rfl, hb1⟩) | (go_at_call 18; refine (cE _ (argRow_below HROW.out (hbr.trans (hb1.mono hbr.size)))).mono ?_; rintro e w2 ⟨rfl, rfl⟩))
                    go_ret3
                    exact ⟨.mk (by rw [← HPAR.out]; exact HFIN.out) rfl (HP.out.below hb1), hbr.trans (hb1.mono hbr.size)⟩
                · rw [if_neg (by decide)] at hfin
                  cases e0
                  · rw [if_neg (by simp [hn0])] at hfin
                    have hn1 : 0 < n := by
                      have : ¬ n = 0 := by simp [hn0]
                      omega
                    have h2 := endP_true HEND.out
                    rw [List.length_drop] at h2
                    have HFIN := Lib.hid hfin
                    clear hfin h0 hn0 hd2
                    obtain ⟨b0, off, rfl⟩ : ∃ b off, a0 = some ⟨b, off, none⟩ := by
                      obtain ⟨_, a, c, e, _, _, hc⟩ := HROW.out
                      cases e
                      obtain ⟨b, off, e, _⟩ := hc (by omega)
                      exact ⟨b, off, e⟩
                    obtain ⟨P, hP⟩ : ∃ P, (l.drop q).take n = P := ⟨_, rfl⟩
                    have hPl : P.length = n := by rw [← hP, List.length_take, List.length_drop]; omega
                    have hs : ∀ W, argRow W (.slice (some ⟨b0, off, none⟩) l.length cap) l.length 1 (Lib.byteCells l) → argRow W (.slice (some ⟨b0, off + q, none⟩) n (cap - q)) n 1 (Lib.byteCells P) := (fun W h => by
                      have h1 := argRow_drop h (k := q) (by omega) (a' := some ⟨b0, off + q, none⟩) (c' := cap - q) (by omega) (fun b o e _ => by cases e; rw [Nat.mul_one])
                      have h3 := argRow_take h1 (k := n) (by omega)
                      rw [Nat.mul_one, Nat.mul_one, show (List.drop q (Lib.byteCells l)).take n = Lib.byteCells P from by rw [← hP]; simp [Lib.byteCells, List.map_drop, List.map_take]] at h3
                      exact h3)
                    have HS := Lib.hid hs
                    clear hs
                    have HPP := Lib.hid hP
                    clear hP
                    have i1 : (0 : Int) ≤ (q : Int) := by omega
                    have i2 : (q : Int) ≤ (q : Int) + (n : Int) := by omega
                    have i3 : (q : Int) + (n : Int) ≤ (cap : Int) := by omega
                    obtain ⟨E, hE, hEp⟩ := HP.out
                    have HEP := Lib.hid hEp
                    clear hEp
                    have hszr := hbr.size
                    go_upto_region 17 with (first | (go_at_call 17; refine cL'.mono ?_; rintro e w1 ⟨rfl, hb1⟩; have hE1 := owns_below hE hb1; have hsz1 := hb1.size) | (go_at_call 18; refine (cE _ (argRow_below HROW.out (hbr.trans (hb1.mono hbr.size)))).mono ?_; rintro e w2 ⟨rfl, rfl⟩))
                    go_wp2_with (first | (at_builtin; refine wpList_append_src rfl (.const (.slice none 0 0)) (.tmp 69) _ _ rfl w1.heap.size E8 _ 0 [] rfl (World.ownsRow_nil _ _ _ _) (.slice (some ⟨b0, off + q, none⟩) n (cap - q)) n (Lib.byteCells P) (by first | rfl | go_simp | simp) (by exact src_arg Tryd.underlying22 (HS.out _ (argRow_below HROW.out (hbr.trans (hb1.mono hbr.size)))) (byteCells_one P)) (by unfold maxLen; omega) (by omega) (by omega) ?_; intro v1 w3 hown1 hgr1 _ _; simp only [Nat.zero_add, List.nil_append] at hown1; obtain ⟨va1, vc1, rfl⟩ := owns_slice hown1) | (at_builtin; refine wpList_append_src rfl _ _ _ _ rfl w.heap.size EL _ _ _ rfl ((owns_kept_nil hE1 hgr1).alloc _) _ 1 [.slice va1 n vc1] rfl (by exact src_last (cs := #[.slice va1 n vc1]) Tryd.underlying24 1 1 1 rfl rfl (by simp [Value.oneCell'])) (by unfold maxLen; omega) (by omega) (by have := hgr1.size; simp; omega) ?_; intro v4 w4 hown4 hgr4 _ _))
                    go_roundw
                    case rel =>
                      have hs3 := hgr1.size
                      have b13 : Below w.heap.size w w3 := (hbr.trans (hb1.mono hbr.size)).grown hgr1 (by omega) (fun k hk => by cases hk)
                      have hu : Part w3 w.heap.size (.slice va1 n vc1) P := by
                        have h := owns_base hown1 (A := w.heap.size) (by omega)
                        unfold Part
                        rw [hPl]
                        simpa using h
                      refine ⟨q + n + 2, by go_num, by omega, acc ++ [P], by simp; omega, ?_, by rw [← HPP.out, ← HPAR.out]; exact HFIN.out.symm, (b13.alloc (by omega) _).grown hgr4 (by simp; omega) (fun j hj => (hE.lt j hj).1)⟩
                      exact Parts.push ((owns_kept_nil hE1 hgr1).alloc _) (fun i h h' => (owns_kept_nil (owns_below (HEP.out i h h') hb1) hgr1).alloc _) (hu.alloc _) hown4 hgr4
                    case measure => simp [intOf]; omega
                  · rw [if_pos (by simp [hn0])] at hfin
                    have hd3 := hd2 rfl
                    have HFIN := Lib.hid hfin
                    clear hfin h0 hn0 hd2
                    go_wp2_with (first | (go_at_call 17; refine cL'.mono ?_; rintro e w1 ⟨rfl, hb1⟩) | (go_at_call 18; refine (cE _ (argRow_below HROW.out (hbr.trans (hb1.mono hbr.size)))).mono ?_; rintro e w2 ⟨rfl, rfl⟩))
                    go_ret3
                    exact ⟨.mk (by rw [← HPAR.out]; exact HFIN.out) rfl (HP.out.below hb1), hbr.trans (hb1.mono hbr.size)⟩
    · obtain rfl : k = l.length := by omega
      have hq1 : ¬ (l.length : Int) < (l.length : Int) := by omega
      go_wp2
      go_ret3
      exact ⟨.mk (by rw [← HPAR.out, Nat.sub_self]; rfl) rfl HP.out, hbr⟩
end Go.Proofs.YtknoimflimhcgaaDoor
