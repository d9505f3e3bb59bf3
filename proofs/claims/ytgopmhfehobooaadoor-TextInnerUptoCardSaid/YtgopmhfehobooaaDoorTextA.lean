/-
  The contracts of the reference's Same and Has.
-/
import Derived.Test.YtgopmhfehobooaaDoorKitB
import Derived.Test.YtgopmhfehobooaaDoorProg
import Derived.BigQuiet
import Derived.Deep.QuietTactic
import Derived.Lib.SlicesS
namespace Go.Proofs.YtgopmhfehobooaaDoor
open Go.RowKit Go.ChangeShapes Go.WideShapes

/-- A list of texts that can be read. -/
def strRow (w : World) (v : Value) (xs : List ByteArray) : Prop := argRow w v xs.length 1 (xs.map Value.string)

theorem argRow_drewN {w : World} {v : Value} {n size : Nat} {xs : List Value} (h : argRow w v n size xs) (q : Nat) : argRow (w.drewN q) v n size xs := h

theorem str_beq (x y : ByteArray) : (x.toList == y.toList) = decide (x = y) := by
  rw [Bool.eq_iff_iff, beq_iff_eq, decide_eq_true_eq, ByteArray.toList_eq, ByteArray.toList_eq]
  constructor
  · intro h
    cases x; cases y
    simp only [Array.toList_inj] at h
    rw [h]
  · intro h; rw [h]

set_option maxRecDepth 100000 in
set_option maxHeartbeats 1000000 in
theorem ref_Same (va vb : Value) (xs ys : List ByteArray) (w : World) (hx : strRow w va xs) (hy : strRow w vb ys) (hlx : xs.length ≤ 1000000000) (hly : ys.length ≤ 1000000000) :
    Calls Tryd.prog 10 #[va, vb] w fun e w' => e = .returned (.bool (decide (xs = ys))) ∧ Below w.heap.size w w' := by
  obtain ⟨_, a, ca, rfl, hca, hcm, hxc⟩ := hx
  obtain ⟨_, b, cb, rfl, hcb, hcm2, hyc⟩ := hy
  clear hcm hcm2
  by_cases hl : xs.length = ys.length
  · have hb1 : ((xs.length : Int) != (ys.length : Int)) = false := by rw [hl]; simp
    have HX := Lib.hid hxc
    have HY := Lib.hid hyc
    have HL := Lib.hid hl
    clear hxc hyc hl
    go_enter Tryd.func10, Tryd.ntmps10
    go_wp2
    go_loopw [5] (fun i wr => ∃ k q : Nat, k ≤ xs.length ∧ i = .int .i64 k ∧ xs.take k = ys.take k ∧ wr = w.drewN q) (fun i _ => xs.length - (intOf i).toNat)
    case atStart => exact ⟨0, 0, by omega, rfl, rfl, rfl⟩
    case round =>
      obtain ⟨k, q, hk, rfl, ht, rfl⟩ := hrel
      have HT := Lib.hid ht
      clear ht
      by_cases hlt : k < xs.length
      · obtain ⟨ba, oa, rfl, hba, hca'⟩ := HX.out (by omega)
        obtain ⟨bb, ob, rfl, hbb, hcb'⟩ := HY.out (by have := HL.out; omega)
        have hlty : k < ys.length := by have := HL.out; omega
        have c1 := hca' k (by simpa using hlt)
        have c2 := hcb' k (by simpa using hlty)
        rw [List.getElem_map] at c1 c2
        have HK : Hid (xs.take (k + 1) = xs.take k ++ [xs[k]] ∧ ys.take (k + 1) = ys.take k ++ [ys[k]] ∧ (xs = ys → xs[k] = ys[k])) :=
          ⟨List.take_succ_eq_append_getElem hlt, List.take_succ_eq_append_getElem hlty, fun e => by subst e; rfl⟩
        clear hca' hcb' HX HY
        generalize xs[k] = x at *
        generalize ys[k] = y at *
        have i1 : (0 : Int) ≤ (k : Int) := by omega
        have i2 : (k : Int) < (xs.length : Int) := by omega
        have i3 : (k : Int) < (ys.length : Int) := by omega
        by_cases hxy : x = y
        · subst hxy
          have hbe : (x.toList == x.toList) = true := by simp
          go_wp2_with fail
          go_quiet (fail)
          go_wp2
          go_roundw
          case rel => exact ⟨k + 1, _, by omega, by go_num, by rw [HK.out.1, HK.out.2.1, HT.out], rfl⟩
          case measure => simp [intOf]; omega
        · have hbe : (x.toList == y.toList) = false := by rw [str_beq]; exact decide_eq_false hxy
          have hne : xs ≠ ys := fun e => hxy (HK.out.2.2 e)
          have HN := Lib.hid hne
          clear hxy hne
          go_wp2_with fail
          go_quiet (fail)
          go_wp2
          go_ret
          exact ⟨ret_boolE (decide_eq_false HN.out).symm, below_drewN (below_drewN (Below.refl _ _) _) _⟩
      · obtain rfl : k = xs.length := by omega
        have e : xs = ys := by
          have h := HT.out
          rw [List.take_length] at h
          rw [h, List.take_of_length_le (by have := HL.out; omega)]
        have HE := Lib.hid e
        clear e
        go_wp2
        go_ret
        exact ⟨ret_boolE (decide_eq_true HE.out).symm, below_drewN (Below.refl _ _) _⟩
  · have hb1 : ((xs.length : Int) != (ys.length : Int)) = true := by simp; omega
    have HN : Hid (xs ≠ ys) := Lib.hid (fun e => hl (by rw [e]))
    clear hl
    go_enter Tryd.func10, Tryd.ntmps10
    go_wp2
    go_ret
    exact ⟨ret_boolE (decide_eq_false HN.out).symm, Below.refl _ _⟩

end Go.Proofs.YtgopmhfehobooaaDoor
