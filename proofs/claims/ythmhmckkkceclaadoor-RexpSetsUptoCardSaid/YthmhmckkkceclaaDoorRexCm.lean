/-
  Plain: an insertion by swaps; the pairs that Clean keeps, one by one.
-/
import Derived.Test.YthmhmckkkceclaaDoorRexAl
import Derived.Test.YthmhmckkkceclaaDoorRexTl
import Derived.Laws.OwnMore
import Derived.IntWalk
namespace Go.Proofs.YthmhmckkkceclaaDoor
open Go.RowKit
theorem insI_at (x : Int) : ∀ (P Q : List Int), (∀ y ∈ P, y ≤ x) → (∀ y ∈ Q, x < y) → insI x (P ++ Q) = P ++ x :: Q
  | [], [], _, _ => rfl
  | [], y :: Q, _, h => by
    show (if x < y then x :: y :: Q else y :: insI x Q) = _
    rw [if_pos (h y (by simp))]
    rfl
  | y :: P, Q, hp, hq => by
    show (if x < y then x :: y :: (P ++ Q) else y :: insI x (P ++ Q)) = _
    rw [if_neg (by have := hp y (by simp); omega), insI_at x P Q (fun z hz => hp z (by simp [hz])) hq]
    rfl
theorem sortI_more (T : List Int) (i : Nat) (h : i < T.length) : sortI (T.take (i + 1)) = insI T[i] (sortI (T.take i)) := by
  unfold sortI
  rw [List.take_succ_eq_append_getElem h, List.foldl_append]
  rfl
theorem sortI_length (l : List Int) : (sortI l).length = l.length := (sortI_perm l).length_eq
/-- The insertion is at its end. -/
theorem sort_end {T P Q : List Int} {i : Nat} (h : i < T.length) (hs : sortI (T.take i) = P ++ Q) (hP : ∀ y, P.getLast? = some y → y ≤ T[i]) (hQ : ∀ y ∈ Q, T[i] < y) : sortI (T.take (i + 1)) = P ++ T[i] :: Q := by
  rw [sortI_more T i h, hs]
  refine insI_at _ P Q (fun y hy => ?_) hQ
  have hsrt := sortI_sorted (T.take i)
  rw [hs] at hsrt
  have hp := (List.pairwise_append.1 hsrt).1
  rcases List.eq_nil_or_concat P with rfl | ⟨P', z, rfl⟩
  · cases hy
  · have hz := hP z (by simp)
    have hp' : (P' ++ [z]).Pairwise (· ≤ ·) := by simpa using hp
    have hy' : y ∈ P' ∨ y = z := by simpa using hy
    rcases hy' with h1 | h1
    · have := (List.pairwise_append.1 hp').2.2 y h1 z (by simp)
      omega
    · rw [h1]
      exact hz
theorem swap_set (P Q : List Int) (x y : Int) : (((P ++ y :: x :: Q).map rCell).set (P.length + 1) (rCell y)).set P.length (rCell x) = (P ++ x :: y :: Q).map rCell := by
  rw [List.map_append, List.set_append_right _ _ (by simp), List.set_append_right _ _ (by simp)]
  simp
theorem cuts_over (l : List Int) (h : l.length ≤ 1) : cutsOf l = [] := by
  match l, h with
  | [], _ => rfl
  | [a], _ => rfl
  | a :: b :: l, h => simp at h
theorem cuts_from : ∀ (l : List Int) (c : Int), c ∈ cutsOf l → ∃ x ∈ l, c = x ∨ c = x + 1
  | a :: b :: l, c, h => by
    unfold cutsOf at h
    rcases List.mem_cons.1 h with rfl | h
    · exact ⟨_, by simp, .inl rfl⟩
    · rcases List.mem_cons.1 h with rfl | h
      · exact ⟨b, by simp, .inr rfl⟩
      · obtain ⟨x, hx, e⟩ := cuts_from l c h
        exact ⟨x, by simp [hx], e⟩
  | [], c, h => by cases h
  | [a], c, h => by cases h
theorem cuts_count : ∀ (l : List Int), (cutsOf l).length ≤ l.length
  | a :: b :: l => by
    unfold cutsOf
    have := cuts_count l
    simp only [List.length_cons]
    omega
  | [] => Nat.le_refl _
  | [a] => Nat.zero_le _
theorem cuts_step (L : List Int) (i : Nat) (h : i + 1 < L.length) : cutsOf (L.drop i) = L[i] :: (L[i + 1] + 1) :: cutsOf (L.drop (i + 2)) := by
  rw [List.drop_eq_getElem_cons (by omega : i < L.length), List.drop_eq_getElem_cons h]
  rfl
theorem clean_step (L : List Int) (no : Bool) (out C : List Int) (i : Nat) (h : i + 1 < C.length) :
    cleanL L no out (C.drop i) = cleanL L no (if C[i] = C[i + 1] ∨ hasS L C[i] = no then out else joinP out C[i] C[i + 1]) (C.drop (i + 1)) := by
  rw [List.drop_eq_getElem_cons (by omega : i < C.length), List.drop_eq_getElem_cons h]
  rw [cleanL]
theorem clean_over (L : List Int) (no : Bool) (out C : List Int) (i : Nat) (h : ¬ i + 1 < C.length) : cleanL L no out (C.drop i) = out := by
  have hl : (C.drop i).length ≤ 1 := by rw [List.length_drop]; omega
  match hd : C.drop i with
  | [] => rfl
  | [a] => rfl
  | a :: b :: l => rw [hd] at hl; simp at hl
theorem joinP_at (out : List Int) (z a b : Int) : joinP (out ++ [z]) a b = if z = a - 1 then out ++ [b - 1] else (out ++ [z]) ++ [a, b - 1] := by
  unfold joinP
  rw [List.getLast?_concat, List.dropLast_concat]
  simp only [Option.some.injEq]
theorem joinP_nil (a b : Int) : joinP [] a b = [a, b - 1] := by
  unfold joinP
  simp
end Go.Proofs.YthmhmckkkceclaaDoor
/-
  garnerref18.Clean.
-/
namespace Go.Proofs.YthmhmckkkceclaaDoor
open Go.RowKit
theorem ERi : ElemT Tryd.prog 31 21 (.int .i32 0) 1 4 := ⟨Tryd.underlying31, by kernel_rfl, rfl, by decide⟩
/-- A row of runes, rune by rune. -/
theorem rn_at {w : World} {v : Value} {set : List Int} (h : argRow w v set.length 1 (set.map rCell)) : ∃ a c, v = .slice a set.length c ∧ c ≤ maxLen ∧
    ∀ k, k < set.length → ∃ b off, a = some ⟨b, off, none⟩ ∧ ∀ W, Below w.heap.size w W → ∀ j (hj : j < set.length), W.cell? ⟨b, off + j, none⟩ = some (.int .i32 set[j]) := by
  obtain ⟨_, a, c, e, h1, h2, hc⟩ := h
  refine ⟨a, c, e, h2, fun k hk => ?_⟩
  obtain ⟨b, off, ha, hb, hcs⟩ := hc (by omega)
  refine ⟨b, off, ha, fun W hW j hj => ?_⟩
  have := hcs j (by simpa using hj)
  rw [List.getElem_map] at this
  rw [hW.cell (p := ⟨b, off + j, none⟩) hb]
  exact this
set_option maxRecDepth 100000 in
set_option maxHeartbeats 10000000 in
theorem ref_Clean (L : List Int) (no : Bool) (v : Value) (w : World) (h : argRow w v L.length 1 (L.map rCell)) (hl : L.length ≤ 2100) (hb : ∀ x ∈ L, 0 ≤ x ∧ x ≤ 1114111) :
    Calls Tryd.prog 52 #[v, .bool no] w fun e w' => ∃ v', e = .returned v' ∧ w'.ownsRow w.heap.size 21 1 v' (cleanP L no).length ((cleanP L no).map rCell) ∧ Below w.heap.size w w' := by
  obtain ⟨a, c, rfl, hcm, hcs⟩ := rn_at h
  have HC := Lib.hid hcs
  have HARG := Lib.hid h
  have HBD := Lib.hid hb
  obtain ⟨n, hn⟩ : ∃ n, L.length = n := ⟨_, rfl⟩
  rw [hn] at hl ⊢
  have HN := Lib.hid hn
  obtain ⟨T, hT⟩ : ∃ T, 0 :: 1114112 :: cutsOf L = T := ⟨_, rfl⟩
  have HT := Lib.hid hT
  obtain ⟨R, hR⟩ : ∃ R, cleanP L no = R := ⟨_, rfl⟩
  rw [hR]
  have HR := Lib.hid hR
  unfold maxLen at hcm
  clear hn hcs h hb hT hR
  go_enter Tryd.func52, Tryd.ntmps52
  go_wp2_with fail
  go_loopw [5, 6] (fun cv iv wr => ∃ (i m : Nat) (acc : List Int), iv = .int .i64 (i : Int) ∧ i ≤ n + 1 ∧ acc ++ cutsOf (L.drop i) = T ∧ m = acc.length ∧ m ≤ i + 2 ∧ wr.ownsRow w.heap.size 21 1 cv m (acc.map rCell) ∧ Below w.heap.size w wr) (fun _ iv _ => n + 1 - (intOf iv).toNat)
  case atStart =>
    exact ⟨0, 2, [0, 1114112], rfl, by omega, HT.out, rfl, by omega, owns_new w #[.int .i32 0, .int .i32 1114112] 21 2 (by simp) (by unfold maxLen; omega), belowA' (Below.refl _ _) (Nat.le_refl _)⟩
  case round =>
    obtain ⟨i, m, acc, rfl, hi, hacc, hm, hmi, hown, hbr⟩ := hrel
    have HACC := Lib.hid hacc
    have HM := Lib.hid hm
    have HOWN := Lib.hid hown
    obtain ⟨ca, cc, rfl⟩ := owns_slice hown
    have hsz := hbr.size
    clear hacc hm hown
    by_cases hlt : i + 1 < n
    · have hstep := cuts_step L i (by rw [HN.out]; exact hlt)
      obtain ⟨b, off, rfl, hcell⟩ := HC.out i (by rw [HN.out]; omega)
      have c0 := hcell wr hbr i (by rw [HN.out]; omega)
      have c1 := hcell wr hbr (i + 1) (by rw [HN.out]; omega)
      have hb1 := HBD.out (L[i + 1]'(by rw [HN.out]; omega)) (List.getElem_mem _)
      generalize L[i]'(by rw [HN.out]; omega) = lo at *
      generalize L[i + 1]'(by rw [HN.out]; omega) = hi2 at *
      have HS := Lib.hid hstep
      clear hstep hcell
      go_upto_region 5 with fail
      have y1 : IntKind.i64.wrap ((i : Int) + 1) = (i : Int) + 1 := IntWalk.i64_in _ (by omega)
      have y2 : 0 ≤ (i : Int) + 1 := by omega
      have y3 : ((i : Int) + 1).toNat = i + 1 := by omega
      have y4 : (i : Int) + 1 < (n : Int) := by omega
      have y5 : (i : Int) < (n : Int) := by omega
      have y6 : IntKind.i32.wrap (hi2 + 1) = hi2 + 1 := by rw [IntKind.wrap_i32]; omega
      have y7 : (0 : Int) ≤ (i : Int) := by omega
      go_region_law (go_loud (refine step_append_src rfl (.tmp 20) (.tmp 31) _ _ (by rfl) w.heap.size ERi _ m (acc.map rCell) rfl (by (repeat (first | exact HOWN.out | with_reducible refine World.ownsRow.alloc ?_ _ | with_reducible refine World.ownsRow.drew ?_)); done) _ 2 [.int .i32 lo, .int .i32 (hi2 + 1)] rfl (by first | exact src_last (cs := #[.int .i32 lo, .int .i32 (hi2 + 1)]) Tryd.underlying31 2 2 1 rfl rfl (by simp [Value.oneCell']) | exact src_new (cs := #[.int .i32 lo, .int .i32 (hi2 + 1)]) (t := 21) (fr := (0, 0)) Tryd.underlying31 2 2 1 (by exact heap_alloc_new wr _) rfl (by simp [Value.oneCell'])) (by unfold maxLen; omega) (by omega) (by simp; omega) ?_; intro v9 w9 hown9 hgr9 _ _))
      all_goals
        clear y1 y2 y3 y4 y5 y6 y7
        go_wp2_with fail
        go_roundw
        case rel => exact ⟨i + 2, m + 2, acc ++ [lo, hi2 + 1], by go_num, by omega, by rw [← HACC.out, HS.out]; simp, by rw [HM.out]; simp, by omega, by rw [List.map_append]; exact hown9, Below.grown (by (repeat (first | exact hbr | (with_reducible refine belowA' ?_ (by first | omega | (simp; done) | (simp; omega))) | with_reducible refine Below.drew ?_)); done) hgr9 (by simp; omega) (fun g hg => (HOWN.out.lt g hg).1)⟩
        case measure => simp [intOf]; omega
    · have hTe : acc = T := by
        have h1 := HACC.out
        rw [cuts_over _ (by rw [List.length_drop, HN.out]; omega), List.append_nil] at h1
        exact h1
      subst hTe
      have hm2 : 2 ≤ m := by
        rw [HM.out, ← HT.out]
        simp
      obtain ⟨g, cap, hsl, hg1, -, -, hcp, -, -⟩ := owns_some HOWN.out (by omega)
      cases hsl
      have hg0 : decide ((i : Int) + 1 < (n : Int)) = false := decide_eq_false (by omega)
      clear HACC hmi hcp
      have hml : m ≤ 2200 := by
        have h1 := cuts_count L
        have h2 := HM.out
        rw [← HT.out, List.length_cons, List.length_cons] at h2
        have := HN.out
        omega
      go_wp2_with fail
      have HBR := Lib.hid hbr
      clear hbr hsz hg0 hlt hi
      obtain ⟨wo, hwo⟩ : ∃ wo : World, wo = wr := ⟨_, rfl⟩
      subst hwo
      go_loopw [7, 8, 9] (fun iv kv xv wr => ∃ (i : Nat), iv = .int .i64 (i : Int) ∧ 1 ≤ i ∧ i ≤ m ∧ wr.ownsRow w.heap.size 21 1 (.slice (some ⟨g, 0, none⟩) m cc) m ((sortI (acc.take i) ++ acc.drop i).map rCell) ∧ Below w.heap.size w wr) (fun iv _ _ _ => m - (intOf iv).toNat)
      case atStart =>
        refine ⟨1, rfl, Nat.le_refl _, by omega, ?_, HBR.out⟩
        have e : sortI (acc.take 1) ++ acc.drop 1 = acc := by
          cases acc with
          | nil => have := HM.out; simp at this; omega
          | cons z Z => rfl
        rw [e]
        exact HOWN.out
      case round =>
        obtain ⟨i2, rfl, hi1, him, hown2, hbr2⟩ := hrel
        have HO2 := Lib.hid hown2
        have HB2 := Lib.hid hbr2
        clear hown2 hbr2
        by_cases hlt2 : i2 < m
        · have hd2 : acc.drop i2 = acc[i2]'(by rw [← HM.out]; exact hlt2) :: acc.drop (i2 + 1) := List.drop_eq_getElem_cons (by rw [← HM.out]; exact hlt2)
          have HEND := Lib.hid (fun P Q hs hP hQ => sort_end (T := acc) (P := P) (Q := Q) (i := i2) (by rw [← HM.out]; exact hlt2) hs hP hQ)
          have HD2 := Lib.hid hd2
          clear hd2
          generalize acc[i2]'(by rw [← HM.out]; exact hlt2) = x at *
          go_wp2_with fail
          obtain ⟨wp, hwp⟩ : ∃ wp : World, wp = wr := ⟨_, rfl⟩
          subst hwp
          go_loopw [8, 9] (fun kv xv wr => ∃ (k : Nat) (P Q : List Int), kv = .int .i64 (k : Int) ∧ k < m ∧ P.length = k ∧ sortI (acc.take i2) = P ++ Q ∧ (∀ y ∈ Q, x < y) ∧ wr.ownsRow w.heap.size 21 1 (.slice (some ⟨g, 0, none⟩) m cc) m ((P ++ x :: (Q ++ acc.drop (i2 + 1))).map rCell) ∧ Below w.heap.size w wr) (fun kv _ _ => (intOf kv).toNat)
          case atStart =>
            refine ⟨i2, sortI (acc.take i2), [], rfl, hlt2, ?_, by simp, by simp, ?_, HB2.out⟩
            · rw [sortI_length, List.length_take, ← HM.out]
              omega
            · have := HO2.out
              rw [HD2.out] at this
              exact this
          case round =>
            obtain ⟨k, P, Q, rfl, hkm, hPk, hs, hQ, hown3, hbr3⟩ := hrel
            have HPK := Lib.hid hPk
            have HS3 := Lib.hid hs
            have HQ := Lib.hid hQ
            have HO3 := Lib.hid hown3
            have HB3 := Lib.hid hbr3
            clear hPk hs hQ hown3 hbr3
            by_cases hk0 : k = 0
            · subst hk0
              have hPn : P = [] := List.eq_nil_of_length_eq_zero HPK.out
              subst hPn
              go_upto_region 10 with fail
              go_quiet (fail)
              go_wp2_with fail
              go_roundw
              case rel =>
                refine ⟨i2 + 1, by go_num, by omega, by omega, ?_, (by first | exact HB3.out | exact below_dN HB3.out _ | exact HB3.out.drew)⟩
                rw [HEND.out [] Q HS3.out (by simp) HQ.out]
                exact (by first | exact HO3.out | exact owns_below HO3.out (below_dN (Below.refl _ _) _))
              case measure => simp [intOf]; omega
            · obtain ⟨P', y, hP⟩ : ∃ P' y, P = P' ++ [y] := by
                rcases List.eq_nil_or_concat P with h | ⟨P', y, h⟩
                · exact absurd (by rw [← HPK.out, h]; rfl) hk0
                · exact ⟨P', y, by rw [h]; simp⟩
              subst hP
              have hPl : P'.length = k - 1 := by have := HPK.out; simp at this; omega
              have hlist : (P' ++ [y]) ++ x :: (Q ++ acc.drop (i2 + 1)) = P' ++ y :: x :: (Q ++ acc.drop (i2 + 1)) := by simp
              have hO3 := HO3.out
              rw [hlist] at hO3
              have c0 : wr.cell? ⟨g, k - 1, none⟩ = some (.int .i32 y) := by
                rw [hO3.cellAt (k - 1) (by omega), ← hPl]
                simp [rCell]
              have c1 : wr.cell? ⟨g, k, none⟩ = some (.int .i32 x) := by
                rw [hO3.cellAt k (by omega), show k = P'.length + 1 by omega]
                rw [List.map_append, List.getElem?_append_right (by simp)]
                simp [rCell]
              have f0 := hO3.frozenAt (k - 1)
              have f1 := hO3.frozenAt k
              have HPL := Lib.hid hPl
              have HSW := Lib.hid (swap_set P' (Q ++ acc.drop (i2 + 1)) x y)
              have HO4 := Lib.hid hO3
              have y1 : IntKind.i64.wrap ((k : Int) - 1) = (k : Int) - 1 := IntWalk.i64_in _ (by omega)
              have y2 : 0 ≤ (k : Int) - 1 := by omega
              have y3 : ((k : Int) - 1).toNat = k - 1 := by omega
              have y4 : (k : Int) - 1 < (m : Int) := by omega
              have y5 : decide (0 < k) = true := decide_eq_true (by omega)
              have y6 : (0 : Int) ≤ (k : Int) := by omega
              have y7 : (k : Int) < (m : Int) := by omega
              clear hO3 hPl hlist
              go_upto_region 10 with fail
              by_cases hxy : x < y
              · have y8 : decide (x < y) = true := decide_eq_true hxy
                go_quiet (fail)
                go_wp2_with fail
                go_roundw
                case rel =>
                  have hb1 := (show Below wr.heap.size wr (wr.drewN nq) from below_dN (Below.refl _ _) _)
                  have hst1 := (owns_below HO4.out hb1).stored k (.int .i32 y)
                  have hst2 := hst1.1.stored (k - 1) (.int .i32 x)
                  have hsw := HSW.out
                  rw [HPL.out, show k - 1 + 1 = k by omega] at hsw
                  have hgr := hst1.2.trans hst2.2
                  refine ⟨k - 1, P', y :: Q, by go_num, by omega, HPL.out, by rw [HS3.out]; simp, fun z hz => ?_, ?_, (below_dN HB3.out nq).grown hgr ?_ (fun j hj => by have e : g = j := Option.some.inj hj; omega)⟩
                  · rcases List.mem_cons.1 hz with rfl | hz
                    · exact hxy
                    · exact HQ.out z hz
                  · have h2 := hst2.1
                    rw [show (Value.int .i32 y) = rCell y from rfl, show (Value.int .i32 x) = rCell x from rfl, hsw] at h2
                    exact h2
                  · exact (below_dN HB3.out nq).size
                case measure => simp [intOf]; omega
              · have y8 : decide (x < y) = false := decide_eq_false hxy
                go_quiet (fail)
                go_wp2_with fail
                go_roundw
                case rel =>
                  refine ⟨i2 + 1, by go_num, by omega, by omega, ?_, (by first | exact HB3.out | exact below_dN HB3.out _ | exact HB3.out.drew)⟩
                  rw [HEND.out (P' ++ [y]) Q HS3.out (fun z hz => by simp at hz; omega) HQ.out]
                  have := HO3.out
                  rw [show (P' ++ [y] ++ x :: (Q ++ List.drop (i2 + 1) acc)) = ((P' ++ [y]) ++ x :: Q) ++ List.drop (i2 + 1) acc by simp] at this
                  exact (by first | exact this | exact owns_below this (below_dN (Below.refl _ _) _))
                case measure => simp [intOf]; omega
        · have hie : i2 = m := by omega
          subst hie
          have hO := HO2.out
          rw [show acc.take i2 = acc by rw [HM.out, List.take_length], show acc.drop i2 = [] by rw [HM.out, List.drop_length], List.append_nil] at hO
          obtain ⟨C, hC⟩ : ∃ C, sortI acc = C := ⟨_, rfl⟩
          rw [hC] at hO
          have hCl : C.length = i2 := by rw [← hC, sortI_length, HM.out]
          have hfold : cleanL L no [] C = R := by
            rw [← HR.out, ← hC, ← HT.out]
            rfl
          have hbC : ∀ z ∈ C, 0 ≤ z ∧ z ≤ 1114112 := by
            intro z hz
            rw [← hC] at hz
            have h1 := (sortI_perm acc).mem_iff.1 hz
            rw [← HT.out] at h1
            rcases List.mem_cons.1 h1 with rfl | h1
            · omega
            rcases List.mem_cons.1 h1 with rfl | h1
            · omega
            obtain ⟨x, hx, e⟩ := cuts_from _ _ h1
            have := HBD.out x hx
            omega
          have HCO := Lib.hid hO
          have HFO := Lib.hid hfold
          have HBC := Lib.hid hbC
          have HCL := Lib.hid hCl
          clear hO hfold hbC hCl hC HR HO2 HOWN HM HT hlt2
          have hszr := HB2.out.size
          go_wp2_with fail
          obtain ⟨w1, hw1⟩ : ∃ w1 : World, w1 = wr := ⟨_, rfl⟩
          subst hw1
          go_loopw [10, 11] (fun ov iv wr => ∃ (k m : Nat) (out : List Int), k ≤ i2 ∧ iv = .int .i64 (k : Int) ∧ m = out.length ∧ m ≤ 2 * k ∧ cleanL L no out (C.drop k) = R ∧ (∀ x ∈ out, -1 ≤ x ∧ x ≤ 1114112) ∧ wr.ownsRow w1.heap.size 21 1 ov m (out.map rCell) ∧ Below w1.heap.size w1 wr) (fun _ iv _ => i2 - (intOf iv).toNat)
          case atStart => exact ⟨0, 0, [], by omega, rfl, rfl, by omega, HFO.out, by simp, World.ownsRow_nil _ _ _ _, Below.refl _ _⟩
          case round =>
            obtain ⟨k, mo, out, hk, rfl, hmo, hmk, hcl, hob, hown, hbr⟩ := hrel
            have HMO := Lib.hid hmo
            have HCL2 := Lib.hid hcl
            have HOB := Lib.hid hob
            have HON := Lib.hid hown
            have hsz := hbr.size
            clear hmo hcl hob
            by_cases hlt : k + 1 < i2
            · have hg0 : decide ((k : Int) + 1 < (i2 : Int)) = true := decide_eq_true (by omega)
              have hstep := clean_step L no out C k (by rw [HCL.out]; exact hlt)
              have hba := HBC.out (C[k]'(by rw [HCL.out]; omega)) (List.getElem_mem _)
              have hbb := HBC.out (C[k + 1]'(by rw [HCL.out]; omega)) (List.getElem_mem _)
              have hO := owns_below HCO.out hbr
              have c0 : wr.cell? ⟨g, k, none⟩ = some (.int .i32 (C[k]'(by rw [HCL.out]; omega))) := by
                rw [hO.cellAt k (by omega), List.getElem?_map, List.getElem?_eq_getElem (by rw [HCL.out]; omega)]
                rfl
              have c1 : wr.cell? ⟨g, k + 1, none⟩ = some (.int .i32 (C[k + 1]'(by rw [HCL.out]; omega))) := by
                rw [hO.cellAt (k + 1) (by omega), List.getElem?_map, List.getElem?_eq_getElem (by rw [HCL.out]; omega)]
                rfl
              generalize C[k]'(by rw [HCL.out]; omega) = lo at *
              generalize C[k + 1]'(by rw [HCL.out]; omega) = hi2 at *
              have HH := Lib.hid (fun W (hW : Below wr.heap.size wr W) => ref_Has L lo (.slice a n c) W (by have := argRow_below HARG.out ((HB2.out.trans (hbr.mono hszr)).trans (hW.mono (by omega))); rw [HN.out] at this ⊢; exact this) (by rw [HN.out]; omega))
              have HST := Lib.hid hstep
              have y1 : IntKind.i64.wrap ((k : Int) + 1) = (k : Int) + 1 := IntWalk.i64_in _ (by omega)
              have y2 : 0 ≤ (k : Int) + 1 := by omega
              have y3 : ((k : Int) + 1).toNat = k + 1 := by omega
              have y4 : (k : Int) + 1 < (i2 : Int) := by omega
              have y5 : (k : Int) < (i2 : Int) := by omega
              have y6 : IntKind.i32.wrap (hi2 - 1) = hi2 - 1 := by rw [IntKind.wrap_i32]; omega
              have y7 : (0 : Int) ≤ (k : Int) := by omega
              have y8 : IntKind.i32.wrap (lo - 1) = lo - 1 := by rw [IntKind.wrap_i32]; omega
              obtain ⟨B, hB⟩ : ∃ B, hasS L lo = B := ⟨_, rfl⟩
              have CH : ∀ j, Calls Tryd.prog 13 #[.slice a n c, .int .i32 lo] (wr.drewN j) fun e w' => e = .returned (.bool B) ∧ w' = wr.drewN j := fun j => (HH.out _ (below_dN (Below.refl _ _) j)).mono fun e w' ⟨h1, h2⟩ => ⟨by rw [h1, hB], h2.symm⟩
              rw [hB] at HST
              clear hstep hO HH hB
              go_upto_region 19 with fail
              by_cases heq : lo = hi2
              · have d1 : (lo == hi2) = true := by simpa using heq
                rw [if_pos (.inl heq), HCL2.out] at HST
                clear heq
                go_quiet ((go_at_call 13; exact Calls.quiet_of_same (CH _)))
                go_wp2_with fail
                go_roundw
                case rel => exact ⟨k + 1, mo, out, by omega, by go_num, HMO.out, by omega, HST.out.symm, HOB.out, owns_below HON.out (by (repeat (first | assumption | with_reducible exact Below.refl _ _ | (with_reducible refine belowA' ?_ (by first | omega | (simp; done) | (simp; omega))) | with_reducible refine Below.drew ?_ | with_reducible refine below_dN ?_ _)); done), (by (repeat (first | assumption | with_reducible exact Below.refl _ _ | (with_reducible refine belowA' ?_ (by first | omega | (simp; done) | (simp; omega))) | with_reducible refine Below.drew ?_ | with_reducible refine below_dN ?_ _)); done)⟩
                case measure => simp [intOf]; omega
              · have d1 : (lo == hi2) = false := by simpa using heq
                by_cases hno : B = no
                · have d2 : (B == no) = true := by simpa using hno
                  rw [if_pos (.inr hno), HCL2.out] at HST
                  clear heq hno
                  go_quiet ((go_at_call 13; exact Calls.quiet_of_same (CH _)))
                  go_wp2_with fail
                  go_roundw
                  case rel => exact ⟨k + 1, mo, out, by omega, by go_num, HMO.out, by omega, HST.out.symm, HOB.out, owns_below HON.out (by (repeat (first | assumption | with_reducible exact Below.refl _ _ | (with_reducible refine belowA' ?_ (by first | omega | (simp; done) | (simp; omega))) | with_reducible refine Below.drew ?_ | with_reducible refine below_dN ?_ _)); done), (by (repeat (first | assumption | with_reducible exact Below.refl _ _ | (with_reducible refine belowA' ?_ (by first | omega | (simp; done) | (simp; omega))) | with_reducible refine Below.drew ?_ | with_reducible refine below_dN ?_ _)); done)⟩
                  case measure => simp [intOf]; omega
                · have d2 : (B == no) = false := by simpa using hno
                  rw [if_neg (by rintro (h | h); exact heq h; exact hno h), HCL2.out] at HST
                  clear heq hno
                  go_upto_region 20 with fail
                  go_quiet ((go_at_call 13; exact Calls.quiet_of_same (CH _)))
                  go_upto_region 20 with fail
                  obtain ⟨wq, hwq⟩ : ∃ wq, wr.drewN nq = wq := ⟨_, rfl⟩
                  have hbq : Below wr.heap.size wr wq := by rw [← hwq]; exact below_dN (Below.refl _ _) _
                  rw [hwq]
                  clear hwq
                  have hgl : g < wr.heap.size := Nat.lt_of_lt_of_le (HCO.out.lt g rfl).2 hsz
                  have x0 := (hbq.cell (p := ⟨g, k, none⟩) hgl).trans c0
                  have x1 := (hbq.cell (p := ⟨g, k + 1, none⟩) hgl).trans c1
                  have HQ := Lib.hid (owns_below HON.out hbq)
                  have hszq := hbq.size
                  have HBQ := Lib.hid (hbr.trans (hbq.mono hsz))
                  clear c0 c1 hgl hbq CH
                  by_cases hj : out.getLast? = some (lo - 1)
                  · obtain ⟨Z, rfl⟩ : ∃ Z, out = Z ++ [lo - 1] := by
                      rcases List.eq_nil_or_concat out with h | ⟨Z, z, h⟩
                      · rw [h] at hj
                        cases hj
                      · rw [h, List.concat_eq_append, List.getLast?_concat] at hj
                        cases hj
                        exact ⟨Z, by rw [h, List.concat_eq_append]⟩
                    rw [joinP_at, if_pos rfl] at HST
                    have hmo1 : 1 ≤ mo := by rw [HMO.out]; simp
                    have HZL : Hid (Z.length = mo - 1) := Lib.hid (by rw [HMO.out]; simp)
                    obtain ⟨og, occ, hsl, hog, hogl, hocc, -, -, hcell⟩ := owns_some HQ.out (by omega)
                    subst hsl
                    have x2 : wq.cell? ⟨og, mo - 1, none⟩ = some (.int .i32 (lo - 1)) := by
                      rw [HQ.out.cellAt (mo - 1) (by omega), ← HZL.out]
                      simp [rCell]
                    have f2 := HQ.out.frozenAt (mo - 1)
                    have z1 : IntKind.i64.wrap ((mo : Int) - 1) = (mo : Int) - 1 := IntWalk.i64_in _ (by omega)
                    have z2 : 0 ≤ (mo : Int) - 1 := by omega
                    have z3 : ((mo : Int) - 1).toNat = mo - 1 := by omega
                    have z4 : (mo : Int) - 1 < (mo : Int) := by omega
                    have z5 : decide (0 < mo) = true := decide_eq_true (by omega)
                    have z6 : decide (0 < (mo : Int)) = true := decide_eq_true (by omega)
                    clear hcell hj
                    go_quiet (fail)
                    go_wp2_with fail
                    go_roundw
                    case rel =>
                      have hb2 : Below wq.heap.size wq (wq.drewN nq) := below_dN (Below.refl _ _) _
                      have hst := (owns_below HQ.out hb2).stored (mo - 1) (.int .i32 (hi2 - 1))
                      have e1 : (List.map rCell (Z ++ [lo - 1])).set (mo - 1) (.int .i32 (hi2 - 1)) = List.map rCell (Z ++ [hi2 - 1]) := by
                        rw [← HZL.out, List.map_append, List.set_append_right _ _ (by simp)]
                        simp [rCell]
                      refine ⟨k + 1, mo, Z ++ [hi2 - 1], by omega, by go_num, by rw [HMO.out]; simp, by omega, HST.out.symm, ?_, ?_, (below_dN HBQ.out nq).grown hst.2 ?_ (fun j hj => by have e : og = j := Option.some.inj hj; omega)⟩
                      · intro z hz
                        rcases List.mem_append.1 hz with hz | hz
                        · exact HOB.out z (by simp [hz])
                        · have := List.mem_singleton.1 hz
                          omega
                      · have h2 := hst.1
                        rw [e1] at h2
                        exact h2
                      · exact (below_dN HBQ.out nq).size
                    case measure => simp [intOf]; omega
                  · have hje : joinP out lo hi2 = out ++ [lo, hi2 - 1] := by
                      unfold joinP
                      rw [if_neg hj]
                    rw [hje] at HST
                    have hsel : mo = 0 ∨ ∃ Z z og occ, out = Z ++ [z] ∧ z ≠ lo - 1 ∧ 1 ≤ mo ∧ u10 = .slice (some ⟨og, 0, none⟩) mo occ ∧ wq.cell? ⟨og, mo - 1, none⟩ = some (.int .i32 z) := by
                      rcases List.eq_nil_or_concat out with h | ⟨Z, z, h⟩
                      · exact .inl (by rw [HMO.out, h]; rfl)
                      · rw [List.concat_eq_append] at h
                        have h1 : 1 ≤ mo := by rw [HMO.out, h]; simp
                        have hzl : Z.length = mo - 1 := by rw [HMO.out, h]; simp
                        refine .inr ?_
                        obtain ⟨og, occ, hsl, hog, hogl, hocc, -, -, hcell⟩ := owns_some HQ.out (by omega)
                        subst hsl
                        refine ⟨Z, z, og, occ, h, fun e => hj ?_, h1, rfl, ?_⟩
                        · rw [h, List.getLast?_concat, e]
                        · rw [HQ.out.cellAt (mo - 1) (by omega), ← hzl, h]
                          simp [rCell]
                    clear hj hje
                    have z1 : IntKind.i64.wrap ((mo : Int) - 1) = (mo : Int) - 1 := IntWalk.i64_in _ (by omega)
                    rcases hsel with rfl | ⟨Z, z, og, occ, hout, hz, h1, rfl, x2⟩
                    · obtain ⟨oa, oc, rfl⟩ := owns_slice HQ.out

                      go_quiet (fail)
                      go_upto_region 22 with fail
                      obtain ⟨we, hwe⟩ : ∃ we, wq.drewN nq = we := ⟨_, rfl⟩
                      have hbe : Below wq.heap.size wq we := by rw [← hwe]; exact below_dN (Below.refl _ _) _
                      rw [hwe]
                      clear hwe
                      have HGL := Lib.hid (Nat.lt_of_lt_of_le (Nat.lt_of_lt_of_le (HCO.out.lt g rfl).2 hsz) hszq)
                      have v0 := (hbe.cell (p := ⟨g, k, none⟩) HGL.out).trans x0
                      have v1 := (hbe.cell (p := ⟨g, k + 1, none⟩) HGL.out).trans x1
                      have HE := Lib.hid (owns_below HQ.out hbe)
                      have HBE := Lib.hid (HBQ.out.trans (hbe.mono (HBQ.out.size)))
                      have hsze := HBE.out.size
                      clear x0 x1 hbe
                      go_region_law (go_loud (refine step_append_src rfl (.tmp 128) (.tmp 139) _ _ (by rfl) w1.heap.size ERi _ 0 (out.map rCell) rfl (by (repeat (first | exact HE.out | with_reducible refine World.ownsRow.alloc ?_ _ | with_reducible refine World.ownsRow.drew ?_)); done) _ 2 [.int .i32 lo, .int .i32 (hi2 - 1)] rfl (by first | exact src_last (cs := #[.int .i32 lo, .int .i32 (hi2 - 1)]) Tryd.underlying31 2 2 1 rfl rfl (by simp [Value.oneCell']) | exact src_new (cs := #[.int .i32 lo, .int .i32 (hi2 - 1)]) (t := 21) (fr := (0, 0)) Tryd.underlying31 2 2 1 (by exact heap_alloc_new we _) rfl (by simp [Value.oneCell'])) (by unfold maxLen; omega) (by omega) (by simp; omega) ?_; intro v9 w9 hown9 hgr9 _ _))
                      all_goals
                        clear y1 y2 y3 y4 y5 y6 y7 y8 z1
                        go_wp2_with fail
                        go_roundw
                        case rel => exact ⟨k + 1, 2, out ++ [lo, hi2 - 1], by omega, by go_num, by rw [List.length_append, ← HMO.out]; rfl, by omega, HST.out.symm, (fun z hz => by rcases List.mem_append.1 hz with hz | hz; exact HOB.out z hz; (simp at hz; omega)), by rw [List.map_append]; exact hown9, Below.grown (by (repeat (first | exact HBE.out | (with_reducible refine belowA' ?_ (by first | omega | (simp; done) | (simp; omega))) | with_reducible refine Below.drew ?_)); done) hgr9 (by simp; omega) (fun g hg => (HE.out.lt g hg).1)⟩
                        case measure => simp [intOf]; omega
                    · have z2 : 0 ≤ (mo : Int) - 1 := by omega
                      have z3 : ((mo : Int) - 1).toNat = mo - 1 := by omega
                      have z4 : (mo : Int) - 1 < (mo : Int) := by omega
                      have z5 : decide (0 < mo) = true := decide_eq_true (by omega)
                      have z6 : decide (0 < (mo : Int)) = true := decide_eq_true (by omega)
                      have z7 : (z == lo - 1) = false := by simpa using hz
                      clear hz
                      go_quiet (fail)
                      go_upto_region 22 with fail
                      obtain ⟨we, hwe⟩ : ∃ we, wq.drewN nq = we := ⟨_, rfl⟩
                      have hbe : Below wq.heap.size wq we := by rw [← hwe]; exact below_dN (Below.refl _ _) _
                      rw [hwe]
                      clear hwe
                      have HGL := Lib.hid (Nat.lt_of_lt_of_le (Nat.lt_of_lt_of_le (HCO.out.lt g rfl).2 hsz) hszq)
                      have v0 := (hbe.cell (p := ⟨g, k, none⟩) HGL.out).trans x0
                      have v1 := (hbe.cell (p := ⟨g, k + 1, none⟩) HGL.out).trans x1
                      have HE := Lib.hid (owns_below HQ.out hbe)
                      have HBE := Lib.hid (HBQ.out.trans (hbe.mono (HBQ.out.size)))
                      have hsze := HBE.out.size
                      clear x0 x1 x2 hbe
                      go_region_law (go_loud (refine step_append_src rfl (.tmp 128) (.tmp 139) _ _ (by rfl) w1.heap.size ERi _ mo (out.map rCell) rfl (by (repeat (first | exact HE.out | with_reducible refine World.ownsRow.alloc ?_ _ | with_reducible refine World.ownsRow.drew ?_)); done) _ 2 [.int .i32 lo, .int .i32 (hi2 - 1)] rfl (by first | exact src_last (cs := #[.int .i32 lo, .int .i32 (hi2 - 1)]) Tryd.underlying31 2 2 1 rfl rfl (by simp [Value.oneCell']) | exact src_new (cs := #[.int .i32 lo, .int .i32 (hi2 - 1)]) (t := 21) (fr := (0, 0)) Tryd.underlying31 2 2 1 (by exact heap_alloc_new we _) rfl (by simp [Value.oneCell'])) (by unfold maxLen; omega) (by omega) (by simp; omega) ?_; intro v9 w9 hown9 hgr9 _ _))
                      all_goals
                        clear y1 y2 y3 y4 y5 y6 y7 y8 z1 z2 z3 z4 z5 z6 z7
                        go_wp2_with fail
                        go_roundw
                        case rel => exact ⟨k + 1, mo + 2, out ++ [lo, hi2 - 1], by omega, by go_num, by rw [HMO.out]; simp, by omega, HST.out.symm, (fun z hz => by rcases List.mem_append.1 hz with hz | hz; exact HOB.out z hz; (simp at hz; omega)), by rw [List.map_append]; exact hown9, Below.grown (by (repeat (first | exact HBE.out | (with_reducible refine belowA' ?_ (by first | omega | (simp; done) | (simp; omega))) | with_reducible refine Below.drew ?_)); done) hgr9 (by simp; omega) (fun g hg => (HE.out.lt g hg).1)⟩
                        case measure => simp [intOf]; omega
            · have hT : R = out := by rw [← HCL2.out]; exact clean_over L no out C k (by rw [HCL.out]; exact hlt)
              have HT := Lib.hid hT
              have hg0 : decide ((k : Int) + 1 < (i2 : Int)) = false := decide_eq_false (by omega)
              obtain ⟨oa, oc, rfl⟩ := owns_slice hown
              clear hT hown
              go_wp2_with fail
              go_ret
              exact ⟨_, rfl, by rw [HT.out, ← HMO.out]; exact owns_base HON.out hszr, HB2.out.trans (hbr.mono hszr)⟩
end Go.Proofs.YthmhmckkkceclaaDoor
