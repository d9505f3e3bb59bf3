/-
  The program's JSON parser: hex.
-/
import Derived.Test.YtljnbbdhmlfhjaaDoorJsC
namespace Go.Proofs.YtljnbbdhmlfhjaaDoor
open Go.RowKit
theorem hex4_if : ∀ s : Bs, hex4 s = if 4 ≤ s.length ∧ (s.take 4).all isH = true then some (hexQ (s.take 4), s.drop 4) else none
  | [] => rfl
  | [_] => rfl
  | [_, _] => rfl
  | [_, _, _] => rfl
  | a :: b :: c :: d :: s => by
    have h4 : 4 ≤ (a :: b :: c :: d :: s).length := by simp
    simp only [hex4, List.take_succ_cons, List.take_zero, List.drop_succ_cons, List.drop_zero, List.all_cons, List.all_nil, Bool.and_true, Bool.and_eq_true, h4, true_and]
    cases ha : hexV' a with
    | none => simp [isH, ha]
    | some va =>
      cases hb : hexV' b with
      | none => simp [isH, hb]
      | some vb =>
        cases hc : hexV' c with
        | none => simp [isH, hc]
        | some vc =>
          cases hd : hexV' d with
          | none => simp [isH, hd]
          | some vd =>
            rw [if_pos (by simp [isH, ha, hb, hc, hd])]
            simp only [hexQ, List.foldl_cons, List.foldl_nil, hexW, ha, hb, hc, hd, Option.getD_some]
            congr 2
            omega
def HexR (p : Nat) (w : World) (deep most : Nat) : Option (Nat × Bs) → Ending → World → Prop
  | none, e, w' => Fell p w e w'
  | some (n, r), e, w' => e = .returned (.int .i32 (n : Int)) ∧ JS w' p r deep most ∧ w.grownBy w' (some p)
theorem isH_not {c : UInt8} (h : isH c = false) : c.toNat < 48 ∨ (57 < c.toNat ∧ c.toNat < 65) ∨ (70 < c.toNat ∧ c.toNat < 97) ∨ 102 < c.toNat := by
  unfold isH hexV' at h
  split at h
  · cases h
  · split at h
    · cases h
    · split at h
      · cases h
      · omega
set_option maxRecDepth 100000 in
set_option maxHeartbeats 8000000 in
theorem js_hex (p : Nat) (w : World) (s : Bs) (deep most : Nat) (h : JS w p s deep most) :
    Calls Tryd.prog 70 #[.pointer (some ⟨p, 0, none⟩)] w (HexR p w deep most (hexP s)) := by
  cases hn : nextB 117 s with
  | none =>
    have C := js_next_no p w s deep most 117 h hn
    have e : hexP s = none := by
      cases s with
      | nil => rfl
      | cons c r =>
        simp only [nextB] at hn
        simp only [hexP]
        split at hn
        · cases hn
        · rename_i h0; rw [if_neg h0]
    rw [e]
    show Calls _ _ _ _ (Fell p w)
    have HF := Lib.hid (grown_refl w (some p))
    clear h hn e
    go_enter Tryd.func70, Tryd.ntmps70
    go_wp2_with (first | (go_at_call 60; refine C.mono ?_; rintro e w2 ⟨rfl, rfl⟩) | (go_at_call 24; refine (js_mustnt p _).mono ?_; rintro e w3 ⟨rfl, rfl⟩))
    exact ⟨rfl, rfl, HF.out⟩
  | some s1 =>
    obtain rfl := next_inv hn
    have C := js_next_yes p w s1 deep most 117 h
    have e : hexP (117 :: s1) = hex4 s1 := rfl
    rw [e, hex4_if]
    clear h hn e
    by_cases h4 : 4 ≤ s1.length
    · obtain ⟨X, hX⟩ : ∃ X, (if 4 ≤ s1.length ∧ (s1.take 4).all isH = true then some (hexQ (s1.take 4), s1.drop 4) else none) = X := ⟨_, rfl⟩
      rw [hX]
      have hXg : (∀ j (hj : j < s1.length), j < 4 → isH s1[j] = true) → X = some (hexQ (s1.take 4), s1.drop 4) := fun hh => by
        have hall : (s1.take 4).all isH = true := by
          rw [List.all_eq_true]
          intro c hc
          obtain ⟨j, hj, rfl⟩ := List.mem_iff_getElem.1 hc
          rw [List.length_take] at hj
          rw [List.getElem_take]
          exact hh j (by omega) (by omega)
        rw [← hX, if_pos ⟨h4, hall⟩]
      have hXb : ∀ j (hj : j < s1.length), j < 4 → isH s1[j] = false → X = none := fun j hj hj4 hh => by
        rw [← hX, if_neg]
        rintro ⟨-, h2⟩
        rw [List.all_eq_true] at h2
        have := h2 s1[j] (List.mem_iff_getElem.2 ⟨j, by rw [List.length_take]; omega, List.getElem_take⟩)
        rw [hh] at this
        cases this
      have HXG := Lib.hid hXg
      have HXB := Lib.hid hXb
      have d1 : decide ((4 : Int) ≤ (s1.length : Int)) = true := decide_eq_true (by omega)
      have HL4 := Lib.hid h4
      clear hX hXg hXb
      have C1 : Calls Tryd.prog 60 #[.pointer (some ⟨p, 0, none⟩), .int .u8 (((117 : UInt8)).toNat : Int)] w fun e w' => e = .returned (.bool true) ∧ (∃ b off cap, p < w'.heap.size ∧ s1.length ≤ cap ∧ cap ≤ maxLen ∧ w'.cell? ⟨p, 0, none⟩ = some (.slice (some ⟨b, off, none⟩) s1.length cap) ∧ w'.frozen? ⟨p, 0, none⟩ = false ∧ (∀ j (hj : j < s1.length), w'.cell? ⟨b, off + j, none⟩ = some (.int .u8 (s1[j].toNat : Int))) ∧
          (∀ a' c', s1.length - 4 ≤ c' → c' ≤ cap → (4 < s1.length → a' = some ⟨b, off + 4, none⟩) → ∀ W, Below w'.heap.size w' W → JS (W.setCell ⟨p, 0, none⟩ (.slice a' (s1.length - 4) c')) p (s1.drop 4) deep most ∧ w'.grownBy (W.setCell ⟨p, 0, none⟩ (.slice a' (s1.length - 4) c')) (some p))) ∧ w.grownBy w' (some p) := by
        refine C.mono ?_
        rintro e w' ⟨h1, ⟨sv, hj⟩, h3⟩
        obtain ⟨b, off, cap, rfl, g1, g2, g3, g4⟩ := hj.frontK 4 h4 (by omega)
        refine ⟨h1, ⟨b, off, cap, hj.lt, g1, g2, hj.cells.1.1, hj.cells.2.1, g3, fun a' c' k1 k2 k3 W hW => ?_⟩, h3⟩
        obtain ⟨i1, i2⟩ := (hj.keptB hW).nextK (k := 4) (sv' := .slice a' (s1.length - 4) c') (fun W' hW' => g4 a' c' k1 k2 k3 W' ((hW.mono (Nat.le_of_lt hj.lt)).trans hW')) rfl
        exact ⟨i1, (grown_of_below hW _).trans i2⟩
      clear C
      go_enter Tryd.func70, Tryd.ntmps70
      go_upto_region 2 with (first | (go_at_call 60; refine C1.mono ?_; rintro e w2 ⟨rfl, ⟨b, off, cap, hplt, hc1, hc2, hcell, hfz, hby, hst⟩, hg⟩) | (go_at_call 24; refine (js_must p _).mono ?_; rintro e w3 ⟨rfl, rfl⟩))
      have HBY := Lib.hid hby
      have HST := Lib.hid hst
      have HG := Lib.hid hg
      have hcap4 : 4 ≤ cap := by omega
      unfold maxLen at hc2
      clear C1 hby hst hg
      go_upto_region 3 with fail
      go_loop [25] (fun iv => ∃ k : Nat, iv = .int .i64 k ∧ k ≤ 4 ∧ Hid (∀ j (hj : j < s1.length), j < k → isH s1[j] = true)) (fun iv => 4 - (intOf iv).toNat)
      case atStart => exact ⟨0, rfl, by omega, Lib.hid (fun j _ hj => by omega)⟩
      case round =>
        obtain ⟨k, rfl, hk, hK⟩ := hrel
        by_cases hk4 : k < 4
        · have hkl : k < s1.length := by have := HL4.out; omega
          have hc := HBY.out k hkl
          have hK1 : isH s1[k] = true → ∀ j (hj : j < s1.length), j < k + 1 → isH s1[j] = true := fun h0 j hj hjk => by
            by_cases e : j = k
            · subst e; exact h0
            · exact hK.out j hj (by omega)
          have HK1 := Lib.hid hK1
          have HB1 := Lib.hid (HXB.out k hkl hk4)
          clear hK1
          obtain ⟨c, hcc⟩ : ∃ c, s1[k] = c := ⟨_, rfl⟩
          rw [hcc] at hc HK1 HB1
          clear hcc
          cases hh : isH c with
          | true =>
            rcases isH_cases hh with ⟨hd0, hd1, -⟩ | ⟨hd0, hd1, -⟩ | ⟨hd0, hd1, -⟩
            · obtain ⟨f1, f2, f3, f4, f5, f6⟩ : decide ((48 : Int) ≤ (c.toNat : Int)) = true ∧ decide ((c.toNat : Int) ≤ 57) = true ∧ decide ((97 : Int) ≤ (c.toNat : Int)) = false ∧ decide ((c.toNat : Int) ≤ 102) = true ∧ decide ((65 : Int) ≤ (c.toNat : Int)) = false ∧ decide ((c.toNat : Int) ≤ 70) = true := ⟨decide_eq_true (by omega), decide_eq_true (by omega), decide_eq_false (by omega), decide_eq_true (by omega), decide_eq_false (by omega), decide_eq_true (by omega)⟩
              clear hd0 hd1
              go_wp2_with (go_at_call 24; refine (js_must p _).mono ?_; rintro e w3 ⟨rfl, rfl⟩)
              go_round
              case rel => exact ⟨k + 1, by go_num, by omega, Lib.hid (HK1.out hh)⟩
              case measure => simp [intOf]; omega
            · obtain ⟨f1, f2, f3, f4, f5, f6⟩ : decide ((48 : Int) ≤ (c.toNat : Int)) = true ∧ decide ((c.toNat : Int) ≤ 57) = false ∧ decide ((97 : Int) ≤ (c.toNat : Int)) = true ∧ decide ((c.toNat : Int) ≤ 102) = true ∧ decide ((65 : Int) ≤ (c.toNat : Int)) = true ∧ decide ((c.toNat : Int) ≤ 70) = false := ⟨decide_eq_true (by omega), decide_eq_false (by omega), decide_eq_true (by omega), decide_eq_true (by omega), decide_eq_true (by omega), decide_eq_false (by omega)⟩
              clear hd0 hd1
              go_wp2_with (go_at_call 24; refine (js_must p _).mono ?_; rintro e w3 ⟨rfl, rfl⟩)
              go_round
              case rel => exact ⟨k + 1, by go_num, by omega, Lib.hid (HK1.out hh)⟩
              case measure => simp [intOf]; omega
            · obtain ⟨f1, f2, f3, f4, f5, f6⟩ : decide ((48 : Int) ≤ (c.toNat : Int)) = true ∧ decide ((c.toNat : Int) ≤ 57) = false ∧ decide ((97 : Int) ≤ (c.toNat : Int)) = false ∧ decide ((c.toNat : Int) ≤ 102) = true ∧ decide ((65 : Int) ≤ (c.toNat : Int)) = true ∧ decide ((c.toNat : Int) ≤ 70) = true := ⟨decide_eq_true (by omega), decide_eq_false (by omega), decide_eq_false (by omega), decide_eq_true (by omega), decide_eq_true (by omega), decide_eq_true (by omega)⟩
              clear hd0 hd1
              go_wp2_with (go_at_call 24; refine (js_must p _).mono ?_; rintro e w3 ⟨rfl, rfl⟩)
              go_round
              case rel => exact ⟨k + 1, by go_num, by omega, Lib.hid (HK1.out hh)⟩
              case measure => simp [intOf]; omega
          | false =>
            obtain rfl : X = none := HB1.out hh
            rcases isH_not hh with hd0 | ⟨hd0, hd1⟩ | ⟨hd0, hd1⟩ | hd0
            · obtain ⟨f1, f2, f3, f4, f5, f6⟩ : decide ((48 : Int) ≤ (c.toNat : Int)) = false ∧ decide ((c.toNat : Int) ≤ 57) = true ∧ decide ((97 : Int) ≤ (c.toNat : Int)) = false ∧ decide ((c.toNat : Int) ≤ 102) = true ∧ decide ((65 : Int) ≤ (c.toNat : Int)) = false ∧ decide ((c.toNat : Int) ≤ 70) = true := ⟨decide_eq_false (by omega), decide_eq_true (by omega), decide_eq_false (by omega), decide_eq_true (by omega), decide_eq_false (by omega), decide_eq_true (by omega)⟩
              clear hd0
              go_wp2_with (go_at_call 24; refine (js_mustnt p _).mono ?_; rintro e w3 ⟨rfl, rfl⟩)
              exact ⟨rfl, rfl, HG.out⟩
            · obtain ⟨f1, f2, f3, f4, f5, f6⟩ : decide ((48 : Int) ≤ (c.toNat : Int)) = true ∧ decide ((c.toNat : Int) ≤ 57) = false ∧ decide ((97 : Int) ≤ (c.toNat : Int)) = false ∧ decide ((c.toNat : Int) ≤ 102) = true ∧ decide ((65 : Int) ≤ (c.toNat : Int)) = false ∧ decide ((c.toNat : Int) ≤ 70) = true := ⟨decide_eq_true (by omega), decide_eq_false (by omega), decide_eq_false (by omega), decide_eq_true (by omega), decide_eq_false (by omega), decide_eq_true (by omega)⟩
              clear hd0
              go_wp2_with (go_at_call 24; refine (js_mustnt p _).mono ?_; rintro e w3 ⟨rfl, rfl⟩)
              exact ⟨rfl, rfl, HG.out⟩
            · obtain ⟨f1, f2, f3, f4, f5, f6⟩ : decide ((48 : Int) ≤ (c.toNat : Int)) = true ∧ decide ((c.toNat : Int) ≤ 57) = false ∧ decide ((97 : Int) ≤ (c.toNat : Int)) = false ∧ decide ((c.toNat : Int) ≤ 102) = true ∧ decide ((65 : Int) ≤ (c.toNat : Int)) = true ∧ decide ((c.toNat : Int) ≤ 70) = false := ⟨decide_eq_true (by omega), decide_eq_false (by omega), decide_eq_false (by omega), decide_eq_true (by omega), decide_eq_true (by omega), decide_eq_false (by omega)⟩
              clear hd0
              go_wp2_with (go_at_call 24; refine (js_mustnt p _).mono ?_; rintro e w3 ⟨rfl, rfl⟩)
              exact ⟨rfl, rfl, HG.out⟩
            · obtain ⟨f1, f2, f3, f4, f5, f6⟩ : decide ((48 : Int) ≤ (c.toNat : Int)) = true ∧ decide ((c.toNat : Int) ≤ 57) = false ∧ decide ((97 : Int) ≤ (c.toNat : Int)) = true ∧ decide ((c.toNat : Int) ≤ 102) = false ∧ decide ((65 : Int) ≤ (c.toNat : Int)) = true ∧ decide ((c.toNat : Int) ≤ 70) = false := ⟨decide_eq_true (by omega), decide_eq_false (by omega), decide_eq_true (by omega), decide_eq_false (by omega), decide_eq_true (by omega), decide_eq_false (by omega)⟩
              clear hd0
              go_wp2_with (go_at_call 24; refine (js_mustnt p _).mono ?_; rintro e w3 ⟨rfl, rfl⟩)
              exact ⟨rfl, rfl, HG.out⟩
        · obtain rfl : k = 4 := by omega
          obtain rfl : X = some (hexQ (s1.take 4), s1.drop 4) := HXG.out (fun j hj hj4 => hK.out j hj hj4)
          have hl4 := HL4.out
          have hcv : (convert 22 9 (.slice (some ⟨b, off, none⟩) 4 cap)).run Tryd.prog w2 = .ok (.string ⟨(s1.take 4).toArray⟩) w2 := by
            have := conv_cells (P := Tryd.prog) (w := w2) (cap := cap) (src := 22) (dst := 9) (g := b) (off := off) (l := s1.take 4) Tryd.underlying22 Tryd.underlying5 Tryd.underlying9 (fun j hj => by
              rw [HBY.out j (by simp only [List.length_take] at hj; omega)]; simp)
            rwa [List.length_take, Nat.min_eq_left hl4] at this
          have CP := strconv_parseJ ⟨(s1.take 4).toArray⟩ w2 (by show 1 ≤ (s1.take 4).length; rw [List.length_take]; omega) (by show (s1.take 4).length ≤ 7; rw [List.length_take]; omega) (fun c hc => by
            obtain ⟨j, hj, rfl⟩ := List.mem_iff_getElem.1 hc
            have hj' : j < (s1.take 4).length := hj
            rw [List.length_take] at hj'
            show isH ((s1.take 4)[j]'_) = true
            rw [List.getElem_take]
            exact hK.out j (by omega) (by omega))
          have hv : hexQ (s1.take 4) < 65536 := by
            have := hexQ_lt (s1.take 4)
            rw [List.length_take, Nat.min_eq_left hl4] at this
            exact this
          have e4 : (⟨(s1.take 4).toArray⟩ : ByteArray).data.toList = s1.take 4 := by simp
          rw [e4] at CP
          obtain ⟨V, hV⟩ : ∃ V, hexQ (s1.take 4) = V := ⟨_, rfl⟩
          obtain ⟨T, hT⟩ : ∃ T : ByteArray, (⟨(s1.take 4).toArray⟩ : ByteArray) = T := ⟨_, rfl⟩
          rw [hV] at CP hv
          have HV := Lib.hid hV
          rw [hT] at CP hcv
          have hw : IntKind.i32.wrap (V : Int) = (V : Int) := by rw [IntKind.wrap_i32]; omega
          have HST2 := HST.out
          clear e4 hV hT hK HXG HXB HBY
          go_upto_region 8 with (go_at_call 79; refine CP.mono ?_; rintro e w3 ⟨rfl, hb3⟩)
          have hcell3 := (hb3.cell (p := ⟨p, 0, none⟩) hplt).trans hcell
          have hfz3 := (hb3.frozen (p := ⟨p, 0, none⟩) hplt).trans hfz
          have HB3 := Lib.hid hb3
          clear hcell hfz hb3 hcv CP
          obtain ⟨N, hN⟩ : ∃ N, s1.length = N := ⟨_, rfl⟩
          rw [hN] at HST2 hcell3 hc1 hl4
          have HST3 := Lib.hid HST2
          clear HST2 HST hN d1
          by_cases hcap : cap = 4
          · subst hcap
            obtain rfl : N = 4 := by omega
            go_wp2
            go_ret
            obtain ⟨i1, i2⟩ := HST3.out _ 0 (by omega) (by omega) (fun h => absurd h (by omega)) _ HB3.out
            exact ⟨ret_intE (by rw [HV.out]), i1, HG.out.trans i2⟩
          · have hcap2 : 4 < cap := by omega
            go_wp2
            go_ret
            obtain ⟨i1, i2⟩ := HST3.out _ (cap - 4) (by omega) (by omega) (fun _ => rfl) _ HB3.out
            exact ⟨ret_intE (by rw [HV.out]), i1, HG.out.trans i2⟩
    · rw [if_neg (fun hh => h4 hh.1)]
      show Calls _ _ _ _ (Fell p w)
      have C1 : Calls Tryd.prog 60 #[.pointer (some ⟨p, 0, none⟩), .int .u8 (((117 : UInt8)).toNat : Int)] w fun e w' => e = .returned (.bool true) ∧ (∃ a cap, w'.cell? ⟨p, 0, none⟩ = some (.slice a s1.length cap)) ∧ w.grownBy w' (some p) := by
        refine C.mono ?_
        rintro e w' ⟨h1, ⟨sv, hj⟩, h3⟩
        obtain ⟨a, cap, rfl, -⟩ := hj.shape
        exact ⟨h1, ⟨a, cap, hj.cells.1.1⟩, h3⟩
      have d1 : decide ((4 : Int) ≤ (s1.length : Int)) = false := decide_eq_false (by omega)
      clear C
      generalize s1.length = n at *
      go_enter Tryd.func70, Tryd.ntmps70
      go_wp2_with (first | (go_at_call 60; refine C1.mono ?_; rintro e w2 ⟨rfl, ⟨a, cap, hcell⟩, hg⟩) | (go_at_call 24; refine (js_mustnt p _).mono ?_; rintro e w3 ⟨rfl, rfl⟩))
      exact ⟨rfl, rfl, hg⟩
end Go.Proofs.YtljnbbdhmlfhjaaDoor
