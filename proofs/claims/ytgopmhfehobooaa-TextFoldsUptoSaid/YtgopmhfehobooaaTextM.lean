/-
  The walk of TextFolds.
-/
import Derived.Test.YtgopmhfehobooaaTextL
import Derived.Test.YtgopmhfehobooaaUtfF
import Derived.Deep.RegionHeld3
import Derived.Outline
import Derived.Deep.DeepCutAuto
namespace Go.Proofs.Ytgopmhfehobooaa
open Go.RowKit

theorem below_next {w a b : World} (h : Below w.heap.size w a) (k : Below a.heap.size a b) : Below w.heap.size w b := below_seq h k
theorem folds_len (l : List UInt8) : (fold l).length ≤ 4 * l.length := fold_length l

theorem argRow_one {W : World} {b o : Nat} {u : Value} (hc : W.cell? ⟨b, o, none⟩ = some u) (hb : b < W.heap.size) (cap : Nat) (h1 : 1 ≤ cap) (h2 : cap ≤ maxLen) : argRow W (.slice (some ⟨b, o, none⟩) 1 cap) 1 1 [u] :=
  ⟨rfl, _, cap, rfl, h1, h2, fun _ => ⟨b, o, rfl, hb, fun j hj => by
    obtain rfl : j = 0 := by simp at hj; omega
    exact hc⟩⟩

set_option maxRecDepth 100000 in
set_option maxHeartbeats 4000000 in
theorem folds_walk (s t : ByteArray) (w : World) (hsh : w.ShapedOpen Try.prog) (hs : s.size ≤ 1048576) (ht : t.size ≤ 1048576) :
    Calls Try.prog 6 #[.string s, .string t] w fun e w' => e = .returned (.bool true) ∧ Below w.heap.size w w' := by
  have l1 := words_len s.data.toList
  have l2 := words_len t.data.toList
  have l3 := folds_len s.data.toList
  have hwf := words_fold s.data.toList
  have hwa := words_app_low s.data.toList t.data.toList 32 (by decide) (by decide)
  have hea := words_each s.data.toList
  have hsm := words_small s.data.toList
  rw [size_list] at l1 l2 l3
  have cW := fun W => text_Words' s W (by omega)
  have cT := fun W => text_Words' t W (by omega)
  have cF := fun W => utf_Fold s W (by unfold maxLen; omega) (by omega)
  have cWF := fun W => text_Words' ⟨(fold s.data.toList).toArray⟩ W (by simp only [ByteArray.size, List.size_toArray]; omega)
  have cWA := fun W => text_Words' ((s ++ ⟨#[32]⟩) ++ t) W (by rw [ByteArray.size_append, ByteArray.size_append]; simp only [ByteArray.size, List.size_toArray, List.length_cons, List.length_nil] at *; omega)
  rw [mkB, hwf] at cWF
  rw [show ((s ++ ⟨#[32]⟩) ++ t : ByteArray).data.toList = s.data.toList ++ 32 :: t.data.toList by rw [ByteArray.data_append, ByteArray.data_append]; simp, hwa] at cWA
  clear hwf hwa l3
  generalize fold s.data.toList = FS at *
  generalize words s.data.toList = A at *
  generalize words t.data.toList = B at *
  have HEA := Lib.hid hea
  have HSM := Lib.hid hsm
  clear hea hsm
  have EL : ElemT Try.prog 23 9 (.string ⟨#[]⟩) 1 16 := ⟨Try.underlying23, info_str, rfl, by decide⟩
  go_enter Try.func6, Try.ntmps6
  go_wp2_with fail
  refine (awake_true _ hsh).mono ?_
  rintro e w1 ⟨rfl, hb1⟩
  go_wp2_with fail
  refine (cW _).mono ?_
  rintro e w2 ⟨v2, rfl, t2, hb2⟩
  clear cW
  have HR2 := Lib.hid (fun W hW => rowT t2 hW : ∀ W, Below w2.heap.size w2 W → argRow W v2 A.length 1 (A.map strV))
  obtain ⟨ao, ac, rfl⟩ := owns_slice t2
  clear t2
  go_wp2_with fail
  refine (cF _).mono ?_
  rintro e w3 ⟨rfl, hb3⟩
  go_wp2_with fail
  refine (cWF _).mono ?_
  rintro e w4 ⟨v4, rfl, t4, hb4⟩
  go_wp2_with fail
  refine (same_true _ _ A _ (argRow_owns t4) (HR2.out _ (below_seq hb3 hb4)) (by omega)).mono ?_
  rintro e w5 ⟨rfl, hb5⟩
  have hb25 := below_seq (below_seq hb3 hb4) hb5
  clear cF cWF t4 hb3 hb4 hb5
  go_wp2
  go_loopw [6] (fun i wr => ∃ k : Nat, k ≤ A.length ∧ i = .int .i64 k ∧ Below w5.heap.size w5 wr) (fun i _ => A.length - (intOf i).toNat)
  case atStart => exact ⟨0, by omega, rfl, Below.refl _ _⟩
  case round =>
    obtain ⟨k, hk, rfl, hbr⟩ := hrel
    by_cases hlt : k < A.length
    · have hb2r := below_seq hb25 hbr
      have hrow := HR2.out wr hb2r
      obtain ⟨_, _, _, e, hac, hacm, hcO⟩ := hrow
      cases e
      obtain ⟨bo, oo, rfl, hbo, hco⟩ := hcO (by omega)
      have c1 : wr.cell? ⟨bo, oo + k, none⟩ = some (strV A[k]) := by rw [hco k (by simpa using hlt), List.getElem_map]
      clear hcO hco
      obtain ⟨ea, eb, ec⟩ := HEA.out A[k] (List.getElem_mem _)
      have hl := HSM.out A[k] (List.getElem_mem _)
      generalize A[k] = x at *
      have cCx := fun W => utf_Count ⟨x.toArray⟩ W (by simp only [ByteArray.size, List.size_toArray]; unfold maxLen; omega)
      have cWx := fun W => text_Words' ⟨x.toArray⟩ W (by simp only [ByteArray.size, List.size_toArray]; omega)
      rw [mkB] at cCx
      rw [mkB, ea] at cWx
      clear ea
      generalize (runes x).length = rn at *
      have HG := Lib.hid (fun W (hW : Below wr.heap.size wr W) => (hW.cell (p := ⟨bo, oo + k, none⟩) hbo).trans c1 : ∀ W, Below wr.heap.size wr W → W.cell? ⟨bo, oo + k, none⟩ = some (.string ⟨x.toArray⟩))
      have HX := Lib.hid (fun W (hW : Below wr.heap.size wr W) => (argRow_one (HG.out W hW) (Nat.lt_of_lt_of_le hbo hW.size) : ∀ cap, 1 ≤ cap → cap ≤ maxLen → argRow W (.slice (some ⟨bo, oo + k, none⟩) 1 cap) 1 1 [strV x]) : ∀ W, Below wr.heap.size wr W → ∀ cap, 1 ≤ cap → cap ≤ maxLen → argRow W (.slice (some ⟨bo, oo + k, none⟩) 1 cap) 1 1 [strV x])
      have i1 : (0 : Int) ≤ (k : Int) := by omega
      have i2 : (k : Int) < (A.length : Int) := by omega
      have d1 : decide ((32 : Int) < (rn : Int)) = false := by simp; omega
      have d2 : decide ((rn : Int) < 1) = false := by simp; omega
      have i3 : IntKind.i64.wrap ((k : Int) + 1) = (k : Int) + 1 := IntWalk.i64_in _ (by omega)
      have i4 : (0 : Int) ≤ (k : Int) + 1 := by omega
      have i5 : ((k : Int) + 1).toNat = k + 1 := by omega
      have i6 : (k : Int) ≤ (k : Int) + 1 := by omega
      have i7 : (k : Int) + 1 ≤ (A.length : Int) := by omega
      have i8 : (k : Int) + 1 ≤ (ac : Int) := by omega
      have i9 : k + 1 - k = 1 := by omega
      have i10 : ¬ (ac = k) := by omega
      have i11 : ¬ (k = ac) := by omega
      have i12 : k + 1 ≤ ac := by omega
      have hB0 : Below wr.heap.size wr wr.drew := (Below.refl _ _).drew
      have c0 := HG.out _ hB0
      unfold strV at c1
      have HBR := Lib.hid hbr
      clear hbr
      go_upto_region 9 with fail
      go_region_held3 (fun w' => w'.cell? ⟨bo, oo + k, none⟩ = some (.string ⟨x.toArray⟩) ∧ Below wr.heap.size wr w')
        (first | exact ⟨HG.out _ (by assumption), (by assumption)⟩)
        (first | (go_at_call 18; refine (cCx _).mono ?_; rintro e wn ⟨rfl, hbn⟩; have hBn := below_next (w := wr) (by assumption) hbn) | (go_at_call 10; refine (cWx _).mono ?_; rintro e wn ⟨v, rfl, htn, hbn⟩; have hBn := below_next (w := wr) (by assumption) hbn) | (go_at_call 9; refine (same_true _ _ [x] _ (by exact argRow_owns (by assumption)) (by exact HX.out _ (by assumption) _ (by omega) (by omega)) (by simp)).mono ?_; rintro e wn ⟨rfl, hbn⟩; have hBn := below_next (w := wr) (by assumption) hbn))
      all_goals
        go_wp2
        go_roundw
        case rel => exact ⟨k + 1, by omega, by go_num, below_next HBR.out (by assumption)⟩
        case measure => simp [intOf]; omega
    · obtain rfl : k = A.length := by omega
      have hb2r := below_seq hb25 hbr
      have hsr := hbr.size
      have HS1 := Lib.hid (fun W hW => src_arg Try.underlying23 (HR2.out W hW) (strV_one A) : ∀ W, Below w2.heap.size w2 W → Src Try.prog 1 23 (.slice ao A.length ac) A.length (A.map strV) W)
      have hcat : s.size + 1 + t.size ≤ 1000000000 := by omega
      go_upto_region 13 with (at_builtin; refine wpList_append_src rfl _ _ _ _ rfl wr.heap.size EL _ 0 [] rfl (World.ownsRow_nil _ _ _ _) _ _ _ rfl (by exact HS1.out _ hb2r) (by unfold maxLen; omega) (by omega) (by omega) ?_; intro v6 w6 hown6 hgr6 _ _)
      simp only [Nat.zero_add, List.nil_append] at hown6
      have hb6 : Below wr.heap.size wr w6 := (Below.refl _ _).grown hgr6 (Nat.le_refl _) (fun k hk => by cases hk)
      have hs6 := hb6.size
      go_wp2_with fail
      refine (cT _).mono ?_
      rintro e w7 ⟨v7, rfl, t7, hb7⟩
      have hs7 := hb7.size
      have hown7 := owns_below hown6 hb7
      have hsrc7 := src_arg (P := Try.prog) Try.underlying23 (argRow_owns t7) (strV_one B)
      go_wp2_with (at_builtin; refine wpList_append_src rfl _ _ _ _ rfl wr.heap.size EL _ _ _ rfl hown7 _ _ _ rfl hsrc7 (by unfold maxLen; omega) (by omega) (by omega) ?_; intro v8 w8 hown8 hgr8 _ _)
      have hb8 : Below wr.heap.size wr w8 := (below_next hb6 hb7).grown hgr8 (by omega) (fun k hk => (hown7.lt k hk).1)
      refine (cWA _).mono ?_
      rintro e w9 ⟨v9, rfl, t9, hb9⟩
      have hr8 : argRow w9 v8 (A ++ B).length 1 ((A ++ B).map strV) := by
        rw [List.length_append, List.map_append]
        exact argRow_below (argRow_owns hown8) hb9
      go_wp2_with fail
      refine (same_true _ _ (A ++ B) _ (argRow_owns t9) hr8 (by rw [List.length_append]; omega)).mono ?_
      rintro e w10 ⟨rfl, hb10⟩
      go_wp2_with fail
      go_ret
      exact ⟨rfl, below_seq (below_seq (below_seq (below_seq (below_seq hb1 hb2) hb2r) hb8) hb9) hb10⟩
end Go.Proofs.Ytgopmhfehobooaa
