/-
  The program's JSON parser: escape.
-/
import Derived.Test.YtljnbbdhmlfhjaaGreatDoorJsOne
import Derived.Test.YtljnbbdhmlfhjaaGreatDoorShelf
import Derived.Lib.RuneBytes
namespace Go.Proofs.YtljnbbdhmlfhjaaGreatDoor
open Go.RowKit
theorem belowAJ {B : Nat} {w w' : World} {o : Obj} (h : Below B w w') (hB : B ≤ w'.heap.size) : Below B w (w'.alloc o) := h.alloc hB o
theorem own_keptJ {w w' : World} {B size n : Nat} {e : TypeId} {v : Value} {xs : List Value} {row : Option Nat} (h : w.ownsRow B e size v n xs) (hg : w.grownBy w' row) (hr : ∀ k, row = some k → k < B) : w'.ownsRow B e size v n xs :=
  h.kept hg (by
    cases hv : v.ownBlock with
    | none => exact .inl rfl
    | some j => exact .inr fun e => by have := (h.lt j hv).1; have := hr j e.symm; omega)
/-- A text under way: what it has in a row of the call's own, what is to come. -/
structure TxS (w0 : World) (p : Nat) (w : World) (v : Value) (l s : Bs) (deep most : Nat) : Prop where
  plt : p < w0.heap.size
  own : w.ownsRow w0.heap.size 5 1 v l.length (Lib.byteCells l)
  js : JS w p s deep most
  gr : w0.grownBy w (some p)
theorem TxS.to {w0 w w' : World} {p : Nat} {v : Value} {l s s' : Bs} {deep most : Nat} (h : TxS w0 p w v l s deep most) (hj : JS w' p s' deep most) (hg : w.grownBy w' (some p)) : TxS w0 p w' v l s' deep most :=
  ⟨h.plt, own_keptJ h.own hg (fun k hk => by cases hk; exact h.plt), hj, h.gr.trans hg⟩
theorem grown_off {w0 w w9 : World} {p : Nat} {row : Option Nat} (h : w0.grownBy w (some p)) (hg : w.grownBy w9 row) (hr : ∀ k, row = some k → w0.heap.size ≤ k) : w0.grownBy w9 (some p) :=
  ⟨hg.os.trans h.os, hg.tape.trans h.tape, hg.output.trans h.output, Nat.le_trans h.size hg.size, fun k hk hne => by
    rw [hg.block k (Nat.lt_of_lt_of_le hk h.size) (fun e => by have := hr k e.symm; omega)]
    exact h.block k hk hne⟩
/-- The row grows. -/
theorem TxS.put {w0 w w9 : World} {p : Nat} {v v9 : Value} {l b s : Bs} {deep most n9 : Nat} {o : Obj} {cs : List Value} (h : TxS w0 p w v l s deep most) (hg : (w.alloc o).grownBy w9 v.ownBlock) (ho : w9.ownsRow w0.heap.size 5 1 v9 n9 cs)
    (hn : n9 = l.length + b.length) (hc : cs = Lib.byteCells l ++ Lib.byteCells b) : TxS w0 p w9 v9 (l ++ b) s deep most := by
  have hb := belowAJ (o := o) (Below.refl w.heap.size w) (Nat.le_refl _)
  have hsz : w0.heap.size ≤ w.heap.size := h.gr.size
  have hlt : ∀ k, v.ownBlock = some k → p < k := fun k hk => by have := (h.own.lt k hk).1; have := h.plt; omega
  have hg0 : w0.grownBy w9 (some p) := grown_off (h.gr.trans (grown_of_below hb (some p))) hg (fun k hk => (h.own.lt k hk).1)
  subst hn hc
  refine ⟨h.plt, by rw [List.length_append, byteCells_append]; exact ho, (h.js.keptB hb).kept hg hlt, hg0⟩
def EscR (w0 : World) (p : Nat) (l : Bs) (deep most : Nat) : Option (Bs × Bs) → Ending → World → Prop
  | none, e, w' => Fell p w0 e w'
  | some (b, r), e, w' => ∃ v', e = .returned v' ∧ TxS w0 p w' v' (l ++ b) r deep most
/-- The signs that have a short escape, in order. -/
def eK (j : Nat) : UInt8 := ([34, 92, 47, 98, 102, 110, 114, 116] : Bs).getD j 0
def eV (j : Nat) : UInt8 := ([34, 92, 47, 8, 12, 10, 13, 9] : Bs).getD j 0
theorem plain_at {j : Nat} (h : j < 8) : plainE (eK j) = some (eV j) := by
  have : ∀ j, j < 8 → plainE (eK j) = some (eV j) := by decide
  exact this j h
theorem plain_none {c : UInt8} (h : ∀ j, j < 8 → c ≠ eK j) : plainE c = none := by
  have h0 : c ≠ 34 := h 0 (by decide)
  have h1 : c ≠ 92 := h 1 (by decide)
  have h2 : c ≠ 47 := h 2 (by decide)
  have h3 : c ≠ 98 := h 3 (by decide)
  have h4 : c ≠ 102 := h 4 (by decide)
  have h5 : c ≠ 110 := h 5 (by decide)
  have h6 : c ≠ 114 := h 6 (by decide)
  have h7 : c ≠ 116 := h 7 (by decide)
  unfold plainE
  rw [if_neg h0, if_neg h1, if_neg h2, if_neg h3, if_neg h4, if_neg h5, if_neg h6, if_neg h7]
def longE (s : Bs) : Option (Bs × Bs) := match hexP s with
  | none => none
  | some (n, r') => if 55296 ≤ n ∧ n ≤ 56319 then lowP n r' else if 56320 ≤ n ∧ n ≤ 57343 then none else some (encR n, r')
theorem esc_long {s : Bs} (h : ∀ j, j < 8 → nextB (eK j) s = none) : escP s = longE s := by
  cases s with
  | nil => rfl
  | cons c r =>
    have : plainE c = none := plain_none fun j hj e => by
      have := h j hj
      rw [e, next_yes] at this
      cases this
    unfold escP longE
    simp only [this]
    cases hexP (c :: r) <;> rfl
theorem esc_short {s r : Bs} {j : Nat} (hj : j < 8) (h : nextB (eK j) s = some r) : escP s = some ([eV j], r) := by
  obtain rfl := next_inv h
  unfold escP
  simp only [plain_at hj]
theorem js_append (w0 : World) (p : Nat) (w : World) (v : Value) (l s : Bs) (deep most : Nat) (r : Nat) (hr : r ≤ 1114111) (h : TxS w0 p w v l s deep most) (hl : l.length ≤ 1099511627776) :
    Calls Tryz.prog 141 #[v, .int .i32 (r : Int)] w fun e w' => ∃ v', e = .returned v' ∧ TxS w0 p w' v' (l ++ encR r) s deep most := by
  refine (Tryz.utf8_AppendRune_plain w0.heap.size v l.length (Lib.byteCells l) (r : Int) (by omega) (by omega) w h.own (by omega) h.gr.size).mono ?_
  rintro e w' ⟨v', rfl, ho, o, hg⟩
  have hc : Lib.runeCells (r : Int) = Lib.byteCells (encR r) := (Lib.byteCells_encodeRune r).symm
  rw [hc] at ho
  exact ⟨v', rfl, h.put hg ho (by simp [Lib.byteCells]) rfl⟩
theorem ownN {w0 w : World} {p n : Nat} {a : Option Addr} {c : Nat} {l s : Bs} {deep most : Nat} (h : TxS w0 p w (.slice a n c) l s deep most) (hn : l.length = n) {o : Obj} : (w.alloc o).ownsRow w0.heap.size 5 1 (.slice a n c) n (Lib.byteCells l) := by
  have := h.own.alloc o
  rwa [hn] at this
set_option maxRecDepth 100000 in
set_option maxHeartbeats 20000000 in
theorem js_escape (w0 : World) (p : Nat) (w : World) (v : Value) (l s : Bs) (deep most : Nat) (h : TxS w0 p w v l s deep most) (hl : l.length ≤ 1099511627776) :
    Calls Tryz.prog 110 #[.pointer (some ⟨p, 0, none⟩), v] w (EscR w0 p l deep most (escP s)) := by
  have E8 : ElemT Tryz.prog 22 5 (.int .u8 0) 1 1 := ⟨Tryz.underlying22, by kernel_rfl, rfl, by decide⟩
  obtain ⟨X, hX⟩ : ∃ X, escP s = X := ⟨_, rfl⟩
  rw [hX]
  have HX := Lib.hid hX
  have HT := Lib.hid h
  obtain ⟨va, vc, rfl⟩ := owns_slice h.own
  obtain ⟨n, hn⟩ : ∃ n, l.length = n := ⟨_, rfl⟩
  have HN := Lib.hid hn
  rw [hn] at hl HT ⊢
  have CN := Lib.hid (fun j (_hj : j < 8) hh => js_next_no p w s deep most (eK j) h.js hh)
  have CY := Lib.hid (fun j (_hj : j < 8) r hh => js_next_yes p w r deep most (eK j) (next_inv hh ▸ h.js))
  clear h hX hn
  go_enter Tryz.func110, Tryz.ntmps110
  go_wp2
  go_loop [5] (fun iv => ∃ k : Nat, iv = .int .i64 ((2 * k : Nat) : Int) ∧ k ≤ 8 ∧ Hid (∀ j, j < k → nextB (eK j) s = none)) (fun iv => 16 - (intOf iv).toNat)
  case atStart => exact ⟨0, rfl, by omega, Lib.hid (fun j hj => by omega)⟩
  case round =>
    obtain ⟨k, rfl, hk, hK⟩ := hrel
    by_cases hk8 : k < 8
    · cases hnx : nextB (eK k) s with
      | none =>
        have C := CN.out k hk8 hnx
        have HK1 := Lib.hid (show ∀ j, j < k + 1 → nextB (eK j) s = none from fun j hj => by
          by_cases e : j = k
          · subst e; exact hnx
          · exact hK.out j (by omega))
        clear hK hnx
        rcases (by omega : k = 0 ∨ k = 1 ∨ k = 2 ∨ k = 3 ∨ k = 4 ∨ k = 5 ∨ k = 6 ∨ k = 7) with rfl | rfl | rfl | rfl | rfl | rfl | rfl | rfl
        all_goals
          go_wp2_with (go_at_call 109; refine C.mono ?_; rintro e w2 ⟨rfl, rfl⟩)
          go_round
          case rel => exact ⟨_ + 1, rfl, by omega, HK1⟩
          case measure => simp [intOf]
      | some r =>
        have C := CY.out k hk8 r hnx
        obtain rfl : X = some ([eV k], r) := by rw [← HX.out]; exact esc_short hk8 hnx
        clear hK hnx
        rcases (by omega : k = 0 ∨ k = 1 ∨ k = 2 ∨ k = 3 ∨ k = 4 ∨ k = 5 ∨ k = 6 ∨ k = 7) with rfl | rfl | rfl | rfl | rfl | rfl | rfl | rfl
        all_goals
          go_wp2_with (first | (go_at_call 109; refine C.mono ?_; rintro e w2 ⟨rfl, hj2, hg2⟩; have H2 := Lib.hid (HT.out.to hj2 hg2); have hsz := H2.out.gr.size; clear hj2 hg2) | (at_builtin; go_loud (refine wpList_append_src rfl _ _ _ _ rfl w0.heap.size E8 _ n (Lib.byteCells l) rfl (ownN H2.out HN.out) _ 1 [.int .u8 _] rfl (by exact src_last (cs := #[.int .u8 _]) Tryz.underlying22 1 1 1 rfl rfl (by simp [Value.oneCell'])) (by unfold maxLen; omega) (by omega) (by simp; omega) ?_); intro v9 w9 hown9 hgr9 _ _))
          go_ret
          exact ⟨_, rfl, H2.out.put hgr9 hown9 (by rw [HN.out]; rfl) rfl⟩
    · obtain rfl : k = 8 := by omega
      have hXl : longE s = X := by rw [← HX.out]; exact (esc_long hK.out).symm
      have CH := js_hex p w s deep most HT.out.js
      clear hK CN CY HX hk8 hk
      unfold longE at hXl
      cases hh : hexP s with
      | none =>
        rw [hh] at hXl CH
        obtain rfl : X = none := hXl.symm
        clear hXl
        go_wp2_with (go_at_call 140; refine CH.mono ?_; rintro e w2 ⟨rfl, hg⟩)
        exact ⟨rfl, rfl, HT.out.gr.trans hg⟩
      | some y =>
        obtain ⟨u, r1⟩ := y
        rw [hh] at hXl CH
        simp only at hXl
        have hu := (hex_inv hh).2.2
        clear hh
        have CH2 := Lib.hid (fun e w' (hm : HexR p w deep most (some (u, r1)) e w') => (⟨hm.1, HT.out.to hm.2.1 hm.2.2⟩ : e = .returned (.int .i32 (u : Int)) ∧ TxS w0 p w' (.slice va n vc) l r1 deep most))
        by_cases hhi : 55296 ≤ u ∧ u ≤ 56319
        · rw [if_pos hhi] at hXl
          obtain ⟨f1, f2⟩ : decide ((55296 : Int) ≤ (u : Int)) = true ∧ decide ((u : Int) ≤ 56319) = true := ⟨decide_eq_true (by omega), decide_eq_true (by omega)⟩
          cases hnx : nextB 92 r1 with
          | none =>
            have hXn : X = none := by
              rw [← hXl]
              cases r1 with
              | nil => rfl
              | cons c r1 =>
                simp only [nextB] at hnx
                simp only [lowP]
                split at hnx
                · cases hnx
                · rename_i h0; rw [if_neg h0]
            subst hXn
            have CN := Lib.hid (fun W (hW : TxS w0 p W (.slice va n vc) l r1 deep most) => js_next_no p W r1 deep most 92 hW.js hnx)
            clear hXl hhi hnx
            go_wp2_with (first | (go_at_call 140; refine CH.mono ?_; intro e w2 hm; obtain ⟨rfl, h2⟩ := CH2.out e w2 hm; have H2 := Lib.hid h2; clear h2 hm) | (go_at_call 109; refine (CN.out _ H2.out).mono ?_; rintro e w3 ⟨rfl, rfl⟩) | (go_at_call 44; refine (js_mustnt p _).mono ?_; rintro e w3 ⟨rfl, rfl⟩))
            exact ⟨rfl, rfl, H2.out.gr⟩
          | some r2 =>
            obtain rfl := next_inv hnx
            have CY := Lib.hid (fun W (hW : TxS w0 p W (.slice va n vc) l (92 :: r2) deep most) => (js_next_yes p W r2 deep most 92 hW.js).mono (fun e w' hm => (⟨hm.1, hW.to hm.2.1 hm.2.2⟩ : e = .returned (.bool true) ∧ TxS w0 p w' (.slice va n vc) l r2 deep most)))
            have hXl2 : (match hexP r2 with
              | none => none
              | some (m, r) => if 56320 ≤ m ∧ m ≤ 57343 then some (encR (65536 + (u - 55296) * 1024 + (m - 56320)), r) else none) = X := hXl
            have CH3 := Lib.hid (fun W (hW : TxS w0 p W (.slice va n vc) l r2 deep most) => js_hex p W r2 deep most hW.js)
            clear hXl hnx
            cases hh2 : hexP r2 with
            | none =>
              rw [hh2] at hXl2 CH3
              obtain rfl : X = none := hXl2.symm
              clear hXl2 hhi
              go_wp2_with (first | (go_at_call 140; first | (refine CH.mono ?_; intro e w2 hm; obtain ⟨rfl, h2⟩ := CH2.out e w2 hm; have H2 := Lib.hid h2; clear h2 hm) | (refine (CH3.out _ H3.out).mono ?_; rintro e w4 ⟨rfl, hg4⟩)) | (go_at_call 109; refine (CY.out _ H2.out).mono ?_; rintro e w3 ⟨rfl, h3⟩; have H3 := Lib.hid h3; clear h3) | (go_at_call 44; refine (js_must p _).mono ?_; rintro e w3 ⟨rfl, rfl⟩))
              exact ⟨rfl, rfl, H3.out.gr.trans hg4⟩
            | some y =>
              obtain ⟨m, r3⟩ := y
              have hm := (hex_inv hh2).2.2
              rw [hh2] at hXl2 CH3
              simp only at hXl2
              clear hh2
              have CH4 := Lib.hid (fun W (hW : TxS w0 p W (.slice va n vc) l r2 deep most) e w' (hm : HexR p W deep most (some (m, r3)) e w') => (⟨hm.1, hW.to hm.2.1 hm.2.2⟩ : e = .returned (.int .i32 (m : Int)) ∧ TxS w0 p w' (.slice va n vc) l r3 deep most))
              by_cases hm2 : 56320 ≤ m ∧ m ≤ 57343
              · rw [if_pos hm2] at hXl2
                obtain ⟨f3, f4⟩ : decide ((56320 : Int) ≤ (m : Int)) = true ∧ decide ((m : Int) ≤ 57343) = true := ⟨decide_eq_true (by omega), decide_eq_true (by omega)⟩
                obtain ⟨Z, hZ⟩ : ∃ Z, 65536 + (u - 55296) * 1024 + (m - 56320) = Z := ⟨_, rfl⟩
                rw [hZ] at hXl2
                subst hXl2
                have CA := Lib.hid (fun W (hW : TxS w0 p W (.slice va n vc) l r3 deep most) => js_append w0 p W (.slice va n vc) l r3 deep most Z (by omega) hW (by rw [HN.out]; exact hl))
                go_upto_region 11 with (first | (go_at_call 140; first | (refine CH.mono ?_; intro e w2 hm; obtain ⟨rfl, h2⟩ := CH2.out e w2 hm; have H2 := Lib.hid h2; clear h2 hm) | (refine (CH3.out _ H3.out).mono ?_; intro e w4 hm; obtain ⟨rfl, h4⟩ := CH4.out _ H3.out e w4 hm; have H4 := Lib.hid h4; clear h4 hm)) | (go_at_call 109; refine (CY.out _ H2.out).mono ?_; rintro e w3 ⟨rfl, h3⟩; have H3 := Lib.hid h3; clear h3) | (go_at_call 44; refine (js_must p _).mono ?_; rintro e w3 ⟨rfl, rfl⟩))
                go_upto_region 12 with fail
                have hZi : 65536 + ((u : Int) - 55296) * 1024 + (m : Int) - 56320 = (Z : Int) := by omega
                rw [hZi]
                obtain ⟨f5, f6⟩ : decide ((Z : Int) < 55296) = false ∧ decide ((57343 : Int) < (Z : Int)) = true := ⟨decide_eq_false (by omega), decide_eq_true (by omega)⟩
                clear hZi hZ hm2 hhi
                go_wp2_with (first | (go_at_call 44; refine (js_must p _).mono ?_; rintro e w3 ⟨rfl, rfl⟩) | (go_at_call 141; refine (CA.out _ H4.out).mono ?_; rintro e w5 ⟨v5, rfl, h5⟩; have H5 := Lib.hid h5; clear h5))
                go_ret
                exact ⟨_, rfl, H5.out⟩
              · rw [if_neg hm2] at hXl2
                obtain rfl : X = none := hXl2.symm
                clear hXl2 hhi
                cases h3 : decide ((56320 : Int) ≤ (m : Int)) with
                | false =>
                  clear hm2
                  go_wp2_with (first | (go_at_call 140; first | (refine CH.mono ?_; intro e w2 hm; obtain ⟨rfl, h2⟩ := CH2.out e w2 hm; have H2 := Lib.hid h2; clear h2 hm) | (refine (CH3.out _ H3.out).mono ?_; intro e w4 hm; obtain ⟨rfl, h4⟩ := CH4.out _ H3.out e w4 hm; have H4 := Lib.hid h4; clear h4 hm)) | (go_at_call 109; refine (CY.out _ H2.out).mono ?_; rintro e w3 ⟨rfl, h3⟩; have H3 := Lib.hid h3; clear h3) | (go_at_call 44; first | (refine (js_must p _).mono ?_; rintro e w3 ⟨rfl, rfl⟩) | (refine (js_mustnt p _).mono ?_; rintro e w3 ⟨rfl, rfl⟩)))
                  exact ⟨rfl, rfl, H4.out.gr⟩
                | true =>
                  have f4 : decide ((m : Int) ≤ 57343) = false := decide_eq_false (fun h => hm2 ⟨by have := of_decide_eq_true h3; omega, by omega⟩)
                  clear hm2
                  go_wp2_with (first | (go_at_call 140; first | (refine CH.mono ?_; intro e w2 hm; obtain ⟨rfl, h2⟩ := CH2.out e w2 hm; have H2 := Lib.hid h2; clear h2 hm) | (refine (CH3.out _ H3.out).mono ?_; intro e w4 hm; obtain ⟨rfl, h4⟩ := CH4.out _ H3.out e w4 hm; have H4 := Lib.hid h4; clear h4 hm)) | (go_at_call 109; refine (CY.out _ H2.out).mono ?_; rintro e w3 ⟨rfl, h3⟩; have H3 := Lib.hid h3; clear h3) | (go_at_call 44; first | (refine (js_must p _).mono ?_; rintro e w3 ⟨rfl, rfl⟩) | (refine (js_mustnt p _).mono ?_; rintro e w3 ⟨rfl, rfl⟩)))
                  exact ⟨rfl, rfl, H4.out.gr⟩
        · rw [if_neg hhi] at hXl
          by_cases hlo : 56320 ≤ u ∧ u ≤ 57343
          · rw [if_pos hlo] at hXl
            obtain rfl : X = none := hXl.symm
            obtain ⟨f1, f2, f3, f4⟩ : decide ((55296 : Int) ≤ (u : Int)) = true ∧ decide ((u : Int) ≤ 56319) = false ∧ decide ((u : Int) < 55296) = false ∧ decide ((57343 : Int) < (u : Int)) = false := ⟨decide_eq_true (by omega), decide_eq_false (by omega), decide_eq_false (by omega), decide_eq_false (by omega)⟩
            clear hXl hhi hlo
            go_wp2_with (first | (go_at_call 140; refine CH.mono ?_; intro e w2 hm; obtain ⟨rfl, h2⟩ := CH2.out e w2 hm; have H2 := Lib.hid h2; clear h2 hm) | (go_at_call 44; refine (js_mustnt p _).mono ?_; rintro e w3 ⟨rfl, rfl⟩))
            exact ⟨rfl, rfl, H2.out.gr⟩
          · rw [if_neg hlo] at hXl
            obtain rfl : X = some (encR u, r1) := hXl.symm
            have CA := Lib.hid (fun W (hW : TxS w0 p W (.slice va n vc) l r1 deep most) => js_append w0 p W (.slice va n vc) l r1 deep most u (by omega) hW (by rw [HN.out]; exact hl))
            have hb : decide ((55296 : Int) ≤ (u : Int)) = decide ((57343 : Int) < (u : Int)) := by
              by_cases h : (55296 : Int) ≤ (u : Int)
              · rw [decide_eq_true h, decide_eq_true (by omega)]
              · rw [decide_eq_false h, decide_eq_false (by omega)]
            cases h1 : decide ((55296 : Int) ≤ (u : Int)) with
            | false =>
              have f3 : decide ((u : Int) < 55296) = true := by have := of_decide_eq_false h1; exact decide_eq_true (by omega)
              clear hXl hhi hlo hb
              go_wp2_with (first | (go_at_call 140; refine CH.mono ?_; intro e w2 hm; obtain ⟨rfl, h2⟩ := CH2.out e w2 hm; have H2 := Lib.hid h2; clear h2 hm) | (go_at_call 44; refine (js_must p _).mono ?_; rintro e w3 ⟨rfl, rfl⟩) | (go_at_call 141; refine (CA.out _ H2.out).mono ?_; rintro e w4 ⟨v4, rfl, h4⟩; have H4 := Lib.hid h4; clear h4))
              go_ret
              exact ⟨_, rfl, H4.out⟩
            | true =>
              rw [h1] at hb
              replace hb := hb.symm
              have f2 : decide ((u : Int) ≤ 56319) = false := decide_eq_false (by have := of_decide_eq_true h1; omega)
              have f3 : decide ((u : Int) < 55296) = false := decide_eq_false (by have := of_decide_eq_true h1; omega)
              clear hXl hhi hlo
              go_wp2_with (first | (go_at_call 140; refine CH.mono ?_; intro e w2 hm; obtain ⟨rfl, h2⟩ := CH2.out e w2 hm; have H2 := Lib.hid h2; clear h2 hm) | (go_at_call 44; refine (js_must p _).mono ?_; rintro e w3 ⟨rfl, rfl⟩) | (go_at_call 141; refine (CA.out _ H2.out).mono ?_; rintro e w4 ⟨v4, rfl, h4⟩; have H4 := Lib.hid h4; clear h4))
              go_ret
              exact ⟨_, rfl, H4.out⟩
end Go.Proofs.YtljnbbdhmlfhjaaGreatDoor
