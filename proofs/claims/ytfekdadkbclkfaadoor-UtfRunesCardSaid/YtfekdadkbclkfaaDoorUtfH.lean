/- The walk of UtfRunes. -/
import Derived.Test.YtfekdadkbclkfaaDoorUtfG
namespace Go.Proofs.YtfekdadkbclkfaaDoor
open Go.RowKit

theorem tdiv2_bd (r : Int) (h0 : -2147483648 ≤ r) (h1 : r ≤ 2147483647) : -1073741824 ≤ r.tdiv 2 ∧ r.tdiv 2 ≤ 1073741824 := by
  by_cases h : 0 ≤ r
  · rw [Int.tdiv_eq_ediv_of_nonneg h]; omega
  · have e : r.tdiv 2 = -((-r) / 2) := by
      rw [← Int.tdiv_eq_ediv_of_nonneg (by omega), Int.neg_tdiv, Int.neg_neg]
    rw [e]; omega

set_option maxRecDepth 100000 in
set_option maxHeartbeats 2000000 in

theorem runes_walk (r : Int) (w : World) (hT : Tabs w) (h0 : -2147483648 ≤ r) (h1 : r ≤ 2147483647) :
    Calls Tryd.prog 4 #[.int .i32 r] w fun e w' => e = .returned (.bool true) ∧ Below w.heap.size w w' := by
  obtain ⟨q, hq, q0, q1⟩ : ∃ q, r.tdiv 2 = q ∧ -1073741824 ≤ q ∧ q ≤ 1073741824 := ⟨_, rfl, (tdiv2_bd r h0 h1).1, (tdiv2_bd r h0 h1).2⟩
  go_enter Tryd.func4, Tryd.ntmps4
  go_wp2_with fail
  refine (awake_true _ hT).mono ?_
  rintro e w1 ⟨rfl, hb1⟩
  go_wp2_with fail
  have cA : ∀ x W, -2147483648 ≤ x → x ≤ 2147483647 → Calls Tryd.prog 14 #[.int .i32 x] W _ := fun x W a b => utf_Word x W a b
  have cB : ∀ x W, -2147483648 ≤ x → x ≤ 2147483647 → Calls Tryd.prog 15 #[.int .i32 x] W _ := fun x W a b => ref_Word x W a b
  have cC : ∀ x W, -2147483648 ≤ x → x ≤ 2147483647 → Calls Tryd.prog 16 #[.int .i32 x] W _ := fun x W a b => utf_Small x W a b
  have cD : ∀ x W, -2147483648 ≤ x → x ≤ 2147483647 → Calls Tryd.prog 17 #[.int .i32 x] W _ := fun x W a b => ref_Small x W a b
  go_loopw [3] (fun k wr => ∃ kk : Int, -40 ≤ kk ∧ kk ≤ 41 ∧ k = .int .i32 kk ∧ wr = w1) (fun k _ => (41 - intOf k).toNat)
  case atStart => exact ⟨-40, by omega, by omega, rfl, rfl⟩
  case round =>
    obtain ⟨k, k0, k1, rfl, rfl⟩ := hrel
    by_cases hk : k ≤ 40
    · have cA' := fun W => cA (q + k) W (by omega) (by omega)
      have cB' := fun W => cB (q + k) W (by omega) (by omega)
      have cC' := fun W => cC (q + k) W (by omega) (by omega)
      have cD' := fun W => cD (q + k) W (by omega) (by omega)
      clear cA cB cC cD
      generalize wordB (q + k) = B at *
      generalize smallZ (q + k) = S at *
      have hB : (B != B) = false := by simp
      have hS : (S != S) = false := by simp
      go_wp2_with (first | (go_at_call 14; refine (cA' _).mono ?_; rintro e w' ⟨rfl, rfl⟩) | (go_at_call 15; refine (cB' _).mono ?_; rintro e w' ⟨rfl, rfl⟩) | (go_at_call 16; refine (cC' _).mono ?_; rintro e w' ⟨rfl, rfl⟩) | (go_at_call 17; refine (cD' _).mono ?_; rintro e w' ⟨rfl, rfl⟩))
      go_roundw
      case rel => exact ⟨k + 1, by omega, by omega, rfl, by first | rfl | trivial⟩
      case measure => simp [intOf]; omega
    · have cA' := fun W => cA r W (by omega) (by omega)
      have cB' := fun W => cB r W (by omega) (by omega)
      have cC' := fun W => cC r W (by omega) (by omega)
      have cD' := fun W => cD r W (by omega) (by omega)
      clear cA cB cC cD
      generalize wordB r = B at *
      generalize smallZ r = S at *
      have hB : (B == B) = true := by simp
      have hS : (S == S) = true := by simp
      go_wp2_with (first | (go_at_call 14; refine (cA' _).mono ?_; rintro e w' ⟨rfl, rfl⟩) | (go_at_call 15; refine (cB' _).mono ?_; rintro e w' ⟨rfl, rfl⟩) | (go_at_call 16; refine (cC' _).mono ?_; rintro e w' ⟨rfl, rfl⟩) | (go_at_call 17; refine (cD' _).mono ?_; rintro e w' ⟨rfl, rfl⟩))
      go_ret
      exact ⟨rfl, hb1⟩

end Go.Proofs.YtfekdadkbclkfaaDoor
