/-
  The program's JSON parser: text.
-/
import Derived.Test.YtljnbbdhmlfhjaaGreatDoorJsE
namespace Go.Proofs.YtljnbbdhmlfhjaaGreatDoor
open Go.RowKit
def TextR (p : Nat) (w : World) (deep most : Nat) : Option (Bs × Bs) → Ending → World → Prop
  | none, e, w' => Fell p w e w'
  | some (t, r), e, w' => e = .returned (.string ⟨t.toArray⟩) ∧ JS w' p r deep most ∧ w.grownBy w' (some p)
theorem addS_nil (o : Option (Bs × Bs)) : addS [] o = o := by
  cases o <;> rfl
theorem addS_add (a b : Bs) (o : Option (Bs × Bs)) : addS a (addS b o) = addS (a ++ b) o := by
  cases o with
  | none => rfl
  | some x => simp [addS]
set_option maxRecDepth 100000 in
set_option maxHeartbeats 20000000 in
theorem js_text (p : Nat) (w : World) (s : Bs) (deep most : Nat) (h : JS w p s deep most) (hs : s.length ≤ 1099511627776) :
    Calls Tryz.prog 78 #[.pointer (some ⟨p, 0, none⟩)] w (TextR p w deep most (textP s)) := by
  have E8 : ElemT Tryz.prog 22 5 (.int .u8 0) 1 1 := ⟨Tryz.underlying22, by kernel_rfl, rfl, by decide⟩
  cases hn : nextB 34 s with
  | none =>
    have C := js_next_no p w s deep most 34 h hn
    have e : textP s = none := by
      cases s with
      | nil => rfl
      | cons c r =>
        simp only [nextB] at hn
        simp only [textP]
        split at hn
        · cases hn
        · rename_i h0; rw [if_neg h0]
    rw [e]
    have HF := Lib.hid (grown_refl w (some p))
    clear h hn e
    go_enter Tryz.func78, Tryz.ntmps78
    go_wp2_with (first | (go_at_call 109; refine C.mono ?_; rintro e w2 ⟨rfl, rfl⟩) | (go_at_call 44; refine (js_mustnt p _).mono ?_; rintro e w3 ⟨rfl, rfl⟩))
    exact ⟨rfl, rfl, HF.out⟩
  | some s1 =>
    obtain rfl := next_inv hn
    have C := js_next_yes p w s1 deep most 34 h
    have e : textP (34 :: s1) = strL (s1.length + 1) s1 := rfl
    rw [e]
    obtain ⟨X, hX⟩ : ∃ X, strL (s1.length + 1) s1 = X := ⟨_, rfl⟩
    rw [hX]
    have HX := Lib.hid hX
    have hpw := h.lt
    have HS := Lib.hid hs
    clear hX h hn e hs
    go_enter Tryz.func78, Tryz.ntmps78
    go_upto_region 3 with (first | (go_at_call 109; refine C.mono ?_; rintro e w2 ⟨rfl, hj2, hg2⟩; have H2 := Lib.hid (And.intro hj2 hg2); clear hj2 hg2) | (go_at_call 44; refine (js_must p _).mono ?_; rintro e w3 ⟨rfl, rfl⟩))
    go_loopg [3] (s1.length + 1) (fun gk v wr => ∃ l s', TxS w p wr v l s' deep most ∧ addS l (strL gk s') = X ∧ s'.length < gk ∧ l.length + s'.length ≤ s1.length)
    case atStart => exact ⟨[], s1, ⟨hpw, World.ownsRow_nil _ _ _ _, H2.out.1, H2.out.2⟩, by rw [addS_nil]; exact HX.out, Nat.lt_succ_self _, by simp⟩
    case round =>
      obtain ⟨l, s', ht, hx, hgk, hls⟩ := hrel
      obtain ⟨k, rfl⟩ : ∃ k, gk = k + 1 := ⟨gk - 1, by omega⟩
      have HT := Lib.hid ht
      have HXX := Lib.hid hx
      have HGK := Lib.hid hgk
      have HLS := Lib.hid hls
      obtain ⟨va, vc, rfl⟩ := owns_slice ht.own
      obtain ⟨n, hn⟩ : ∃ n, l.length = n := ⟨_, rfl⟩
      have HN := Lib.hid hn
      rw [hn] at HT ⊢
      obtain ⟨sv, hj⟩ := ht.js
      obtain ⟨⟨c0, -, -⟩, f0, -, -⟩ := hj.cells
      have hnl : n ≤ 1099511627776 := by have := HS.out; simp at this; omega
      clear ht hx hgk hls hn C H2 HX
      cases s' with
      | nil =>
        obtain ⟨a, cap, rfl⟩ := hj.back
        obtain rfl : X = none := HXX.out.symm
        clear hj
        go_wp2_with (go_at_call 44; refine (js_mustnt p _).mono ?_; rintro e w3 ⟨rfl, rfl⟩)
        exact ⟨rfl, rfl, HT.out.gr⟩
      | cons c r =>
        obtain ⟨b, off, cap, rfl, h1, h2, hc, hd⟩ := hj.front
        have HNX := Lib.hid (fun a' c' g1 g2 g3 w' e => hj.next (w' := w') hd a' c' g1 g2 g3 e)
        have hlt : decide ((0 : Int) < (r.length : Int) + 1) = true := decide_eq_true (by omega)
        have hlt2 : (0 : Int) < (r.length : Int) + 1 := by omega
        unfold maxLen at h2
        obtain ⟨m, hm⟩ : ∃ m, r.length = m := ⟨_, rfl⟩
        rw [hm] at HNX c0 h1 hlt hlt2
        have HM := Lib.hid hm
        clear hj hd hm
        go_upto_region 5 with (go_at_call 44; refine (js_must p _).mono ?_; rintro e w3 ⟨rfl, rfl⟩)
        go_cut [] from 23 to 30 (fun wx => JS wx p r deep most ∧ wr.grownBy wx (some p))
        case first =>
          by_cases hcap : cap = 1
          · subst hcap
            obtain rfl : m = 0 := by omega
            go_wp2
            go_meet
            exact HNX.out _ 0 (by omega) (by omega) (by omega) _ rfl
          · have hcap2 : 1 < cap := by omega
            go_wp2
            go_meet
            exact HNX.out _ (cap - 1) (by omega) (by omega) (fun _ => rfl) _ rfl
        case rest =>
          have HT3 := Lib.hid (HT.out.to hcut.1 hcut.2)
          have hsz := HT3.out.gr.size
          clear hcut hc c0 f0 h1 h2 hlt hlt2 HNX
          have hxx := HXX.out
          have e34 : ((c.toNat : Int) == 34) = decide (c = 34) := by
            rw [Bool.eq_iff_iff]
            simp only [beq_iff_eq, decide_eq_true_eq]
            exact ⟨fun h => UInt8.toNat_inj.1 (by show c.toNat = 34; omega), fun h => by rw [h]; rfl⟩
          have e92 : ((c.toNat : Int) == 92) = decide (c = 92) := by
            rw [Bool.eq_iff_iff]
            simp only [beq_iff_eq, decide_eq_true_eq]
            exact ⟨fun h => UInt8.toNat_inj.1 (by show c.toNat = 92; omega), fun h => by rw [h]; rfl⟩
          by_cases hc34 : c = 34
          · rw [decide_eq_true hc34] at e34
            have hX : X = some (l, r) := by
              rw [← hxx]
              simp [strL, hc34, addS]
            subst hX
            have hcv : (convert 22 9 (.slice va n vc)).run Tryz.prog wc = .ok (.string ⟨l.toArray⟩) wc := conv_owned Tryz.underlying22 Tryz.underlying5 Tryz.underlying9 HT3.out.own
            clear hxx e92 hc34
            generalize (c.toNat : Int) = x at *
            go_wp2
            go_ret
            exact ⟨rfl, HT3.out.js, HT3.out.gr⟩
          · rw [decide_eq_false hc34] at e34
            by_cases hc92 : c = 92
            · rw [decide_eq_true hc92] at e92
              have CE := js_escape w p wc (.slice va n vc) l r deep most HT3.out (by rw [HN.out]; exact hnl)
              have hx2 : addS l (match escP r with
                | none => none
                | some (b, r') => addS b (strL k r')) = X := by
                rw [← hxx, strL, if_neg hc34, if_pos hc92]
                cases escP r <;> rfl
              cases hes : escP r with
              | none =>
                rw [hes] at CE hx2
                obtain rfl : X = none := hx2.symm
                clear hxx hx2 hc34 hc92
                generalize (c.toNat : Int) = x at *
                go_wp2_with (go_at_call 110; refine CE.mono ?_; rintro e w4 ⟨rfl, hg4⟩)
                exact ⟨rfl, rfl, hg4⟩
              | some y =>
                obtain ⟨b', r'⟩ := y
                rw [hes] at CE hx2
                have hei := esc_inv hes
                simp only [addS_add] at hx2
                have HX2 := Lib.hid hx2
                have HEI := Lib.hid hei
                clear hxx hx2 hc34 hc92 hei hes
                generalize (c.toNat : Int) = x at *
                go_wp2_with (go_at_call 110; refine CE.mono ?_; rintro e w4 ⟨v4, rfl, h4⟩; have H4 := Lib.hid h4; clear h4)
                go_roundg k
                case measure => omega
                case rel =>
                  have g1 := HEI.out.1
                  have g2 := HEI.out.2.1
                  have g3 := HGK.out
                  have g4 := HLS.out
                  simp only [List.length_cons] at g3 g4
                  exact ⟨l ++ b', r', H4.out, HX2.out, by omega, by rw [List.length_append]; omega⟩
            · rw [decide_eq_false hc92] at e92
              by_cases h32 : c.toNat < 32
              · have hX : X = none := by
                  rw [← hxx]
                  simp [strL, hc34, hc92, h32, addS]
                subst hX
                have d32 : decide ((32 : Int) ≤ (c.toNat : Int)) = false := decide_eq_false (by omega)
                clear hxx hc34 hc92 h32
                generalize (c.toNat : Int) = x at *
                go_wp2_with (go_at_call 44; refine (js_mustnt p _).mono ?_; rintro e w3 ⟨rfl, rfl⟩)
                exact ⟨rfl, rfl, HT3.out.gr⟩
              · have hX : addS (l ++ [c]) (strL k r) = X := by
                  rw [← hxx, strL, if_neg hc34, if_neg hc92, if_neg h32, addS_add]
                have HX2 := Lib.hid hX
                have d32 : decide ((32 : Int) ≤ (c.toNat : Int)) = true := decide_eq_true (by omega)
                obtain ⟨x, hxc⟩ : ∃ x : Int, (c.toNat : Int) = x := ⟨_, rfl⟩
                have HXC := Lib.hid hxc
                rw [hxc] at e34 e92 d32 ⊢
                clear hxx hc34 hc92 h32 hX hxc
                go_wp2_with (first | (go_at_call 44; refine (js_must p _).mono ?_; rintro e w3 ⟨rfl, rfl⟩) | (at_builtin; go_loud (refine wpList_append_src rfl _ _ _ _ rfl w.heap.size E8 _ n (Lib.byteCells l) rfl (ownN HT3.out HN.out) _ 1 [.int .u8 x] rfl (by exact src_last (cs := #[.int .u8 x]) Tryz.underlying22 1 1 1 rfl rfl (by simp [Value.oneCell'])) (by unfold maxLen; omega) (by omega) (by simp; omega) ?_); intro v9 w9 hown9 hgr9 _ _; have H9 := Lib.hid (And.intro hown9 hgr9); clear hown9 hgr9))
                go_roundg k
                case measure => omega
                case rel =>
                  have g3 := HGK.out
                  have g4 := HLS.out
                  simp only [List.length_cons] at g3 g4
                  exact ⟨l ++ [c], r, HT3.out.put H9.out.2 H9.out.1 (by rw [HN.out]; rfl) (by simp [Lib.byteCells, HXC.out]), HX2.out, by omega, by rw [List.length_append, List.length_singleton]; omega⟩
end Go.Proofs.YtljnbbdhmlfhjaaGreatDoor
