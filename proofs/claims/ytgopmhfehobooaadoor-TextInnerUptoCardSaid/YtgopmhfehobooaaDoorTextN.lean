/-
  The walk of TextInner.
-/
import Derived.Test.YtgopmhfehobooaaDoorTextZ
import Derived.Test.YtgopmhfehobooaaDoorTextI
import Derived.Test.YtgopmhfehobooaaDoorUtfV
namespace Go.Proofs.YtgopmhfehobooaaDoor
open Go.RowKit

set_option maxRecDepth 100000 in
set_option maxHeartbeats 2000000 in
theorem law_within (va vb : Value) (xs ys : List Txt) (w : World) (hx : argRow w va xs.length 1 (xs.map strV)) (hy : argRow w vb ys.length 1 (ys.map strV)) (hlx : xs.length ≤ 1000000000) (hly : ys.length ≤ 1000000000) (hin : ∀ x ∈ xs, x ∈ ys) :
    Calls Tryd.prog 7 #[va, vb] w fun e w' => e = .returned (.bool true) ∧ Below w.heap.size w w' := by
  obtain ⟨_, a, ca, rfl, hca, hcm, hxc⟩ := hx
  obtain ⟨_, b, cb, rfl, hcb, hcm2, hyc⟩ := hy
  clear hcm hcm2
  have HX := Lib.hid hxc
  have HY := Lib.hid hyc
  have HIN := Lib.hid hin
  clear hxc hyc hin
  go_enter Tryd.func7, Tryd.ntmps7
  go_wp2
  go_loopw [5] (fun i wr => ∃ k q : Nat, k ≤ xs.length ∧ i = .int .i64 k ∧ wr = w.drewN q) (fun i _ => xs.length - (intOf i).toNat)
  case atStart => exact ⟨0, 0, by omega, rfl, rfl⟩
  case round =>
    obtain ⟨k, q, hk, rfl, rfl⟩ := hrel
    by_cases hlt : k < xs.length
    · obtain ⟨ba, oa, rfl, hba, hca'⟩ := HX.out (by omega)
      have c1 := hca' k (by simpa using hlt)
      rw [List.getElem_map] at c1
      have hmem := HIN.out xs[k] (List.getElem_mem _)
      clear hca' HX
      generalize xs[k] = x at *
      unfold strV at c1
      have i1 : (0 : Int) ≤ (k : Int) := by omega
      have i2 : (k : Int) < (xs.length : Int) := by omega
      have HME := Lib.hid hmem
      clear hmem
      go_wp2
      go_loopw [6, 7] (fun ok j wi => ∃ m p : Nat, m ≤ ys.length ∧ j = .int .i64 m ∧ ok = .bool (decide (x ∈ ys.take m)) ∧ wi = w.drewN p) (fun _ j _ => ys.length - (intOf j).toNat)
      case atStart => exact ⟨0, q, by omega, rfl, by simp, rfl⟩
      case round =>
        obtain ⟨m, p, hm, rfl, rfl, rfl⟩ := hrel
        by_cases hml : m < ys.length
        · obtain ⟨bb, ob, rfl, hbb, hcb'⟩ := HY.out (by omega)
          have c2 := hcb' m (by simpa using hml)
          rw [List.getElem_map] at c2
          have htk : x ∈ ys.take (m + 1) ↔ x ∈ ys.take m ∨ x = ys[m] := by
            rw [List.take_succ_eq_append_getElem hml, List.mem_append, List.mem_singleton]
          clear hcb'
          generalize ys[m] = y at *
          unfold strV at c2
          have j1 : (0 : Int) ≤ (m : Int) := by omega
          have j2 : (m : Int) < (ys.length : Int) := by omega
          have HTK := Lib.hid htk
          clear htk
          obtain ⟨ok, hok⟩ : ∃ ok, decide (x ∈ ys.take m) = ok := ⟨_, rfl⟩
          rw [hok]
          have HOK := Lib.hid hok
          clear hok
          cases ok
          · by_cases he : x = y
            · have HYES := Lib.hid (HTK.out.2 (.inr he))
              subst he
              have hbe : (x == x) = true := by simp
              go_wp2_with fail
              go_quiet (fail)
              go_wp2
              go_roundw
              case rel => exact ⟨m + 1, _, by omega, by go_num, by rw [decide_eq_true HYES.out], rfl⟩
              case measure => simp [intOf]; omega
            · have hbe : (x == y) = false := by simpa using he
              have hno : decide (x ∈ ys.take (m + 1)) = false := decide_eq_false (fun h => by
                rcases HTK.out.1 h with h | h
                · exact of_decide_eq_false HOK.out h
                · exact he h)
              have HNO := Lib.hid hno
              clear hno he
              go_wp2_with fail
              go_quiet (fail)
              go_wp2
              go_roundw
              case rel => exact ⟨m + 1, _, by omega, by go_num, by rw [HNO.out], rfl⟩
              case measure => simp [intOf]; omega
          · go_wp2_with fail
            go_quiet (fail)
            go_wp2
            go_roundw
            case rel => exact ⟨m + 1, _, by omega, by go_num, by rw [decide_eq_true (HTK.out.2 (.inl (of_decide_eq_true HOK.out)))], rfl⟩
            case measure => simp [intOf]; omega
        · obtain rfl : m = ys.length := by omega
          rw [List.take_length, decide_eq_true HME.out]
          go_wp2
          go_roundw
          case rel => exact ⟨k + 1, _, by omega, by go_num, rfl⟩
          case measure => simp [intOf]; omega
    · go_wp2
      go_ret
      exact ⟨rfl, below_drewN (Below.refl _ _) _⟩

theorem tabs_below' {w w' : World} (h : Tabs w) (hb : Below w.heap.size w w') : Tabs w' := Utf8Tabs_below h hb

set_option maxRecDepth 100000 in
set_option maxHeartbeats 4000000 in
theorem inner_walk (s : ByteArray) (a n : Int) (w : World) (hT : Tabs w) (hsh : w.ShapedOpen Tryd.prog) (hs : s.size ≤ 1048576) :
    Calls Tryd.prog 3 #[.string s, .int .i64 a, .int .i64 n] w fun e w' => e = .returned (.bool true) ∧ Below w.heap.size w w' := by
  have cC := fun W => law_cut s a n W (by omega)
  have cV := fun W hT => utf_Valid s W (by unfold maxLen; omega) hT
  go_enter Tryd.func3, Tryd.ntmps3
  go_wp2_with fail
  refine (awake_true _ hsh).mono ?_
  rintro e w1 ⟨rfl, hb1⟩
  have hT1 := tabs_below' hT hb1
  go_wp2_with fail
  refine (cC _).mono ?_
  rintro e w' ⟨p, rfl, hp, ⟨K, M, hKM, hpe⟩, rfl⟩
  have cVp := fun W hT => utf_Valid p W (by unfold maxLen; omega) hT
  obtain ⟨v1, hv1⟩ : ∃ v, Lib.validD s.data.toList = v := ⟨_, rfl⟩
  obtain ⟨v2, hv2⟩ : ∃ v, Lib.validD p.data.toList = v := ⟨_, rfl⟩
  rw [hv1] at cV
  rw [hv2] at cVp
  have HV1 := Lib.hid hv1
  have HV2 := Lib.hid hv2
  have HPE := Lib.hid hpe
  clear hv1 hv2 hpe cC
  go_wp2_with fail
  refine (cV _ hT1).mono ?_
  rintro e w2 ⟨rfl, hb2⟩
  have hT2 := tabs_below' hT1 hb2
  clear cV
  cases v1
  · go_wp2
    go_ret
    exact ⟨rfl, below_seq hb1 hb2⟩
  · go_wp2_with fail
    refine (cVp _ hT2).mono ?_
    rintro e w3 ⟨rfl, hb3⟩
    have hb13 := below_seq (below_seq hb1 hb2) hb3
    clear cVp
    cases v2
    · go_wp2
      go_ret
      exact ⟨rfl, hb13⟩
    · have l1 := words_len s.data.toList
      have l2 := words_len p.data.toList
      have l3 := inners_len p.data.toList
      rw [size_list] at l1 l2 l3
      have o1 := onceL_len (words s.data.toList)
      have o2 := onceL_len (words p.data.toList)
      have o3 := onceL_len (inners p.data.toList)
      have hin1 : ∀ x ∈ onceL (inners p.data.toList), x ∈ onceL (words s.data.toList) := by
        intro x hx
        rw [once_mem] at hx ⊢
        have hv := HV2.out
        have hpe := HPE.out
        rw [hpe] at hv hx
        exact inners_part _ K M HV1.out (by rw [size_list]; exact hKM) hv x hx
      have hin2 : ∀ x ∈ onceL (inners p.data.toList), x ∈ onceL (words p.data.toList) := by
        intro x hx
        rw [once_mem] at hx ⊢
        exact inners_words _ x hx
      have HIN1 := Lib.hid hin1
      have HIN2 := Lib.hid hin2
      clear hin1 hin2
      have him := inners_marks p.data.toList
      have cI := fun W => text_Inner p W (by omega)
      have cSs := fun W => text_Set s W (by omega)
      have cSp := fun W => text_Set p W (by omega)
      have cIm := fun W => text_Inner ((⟨#[32]⟩ ++ p) ++ ⟨#[45]⟩) W (by rw [ByteArray.size_append, ByteArray.size_append]; simp only [ByteArray.size, List.size_toArray, List.length_cons, List.length_nil] at *; omega)
      rw [show ((⟨#[32]⟩ ++ p) ++ ⟨#[45]⟩ : ByteArray).data.toList = 32 :: (p.data.toList ++ [45]) by rw [ByteArray.data_append, ByteArray.data_append]; simp, him] at cIm
      clear him HPE HV1 HV2
      have hps : 1 + p.size + 1 ≤ 1000000000 := by omega
      generalize words s.data.toList = A at *
      generalize words p.data.toList = B at *
      generalize inners p.data.toList = I at *
      go_wp2_with fail
      refine (cI _).mono ?_
      rintro e w4 ⟨x4, rfl, t4, hb4⟩
      go_wp2_with fail
      refine (cSs _).mono ?_
      rintro e w5 ⟨x5, rfl, t5, hb5⟩
      go_wp2_with fail
      refine (law_within _ _ (onceL I) (onceL A) _ (rowT t4 hb5) (argRow_owns t5) (by omega) (by omega) HIN1.out).mono ?_
      rintro e w6 ⟨rfl, hb6⟩
      go_wp2_with fail
      refine (cI _).mono ?_
      rintro e w7 ⟨x7, rfl, t7, hb7⟩
      go_wp2_with fail
      refine (cSp _).mono ?_
      rintro e w8 ⟨x8, rfl, t8, hb8⟩
      go_wp2_with fail
      refine (law_within _ _ (onceL I) (onceL B) _ (rowT t7 hb8) (argRow_owns t8) (by omega) (by omega) HIN2.out).mono ?_
      rintro e w9 ⟨rfl, hb9⟩
      go_wp2_with fail
      refine (cIm _).mono ?_
      rintro e w10 ⟨x10, rfl, t10, hb10⟩
      go_wp2_with fail
      refine (cSp _).mono ?_
      rintro e w11 ⟨x11, rfl, t11, hb11⟩
      go_wp2_with fail
      refine (same_true _ _ (onceL B) _ (rowT t10 hb11) (argRow_owns t11) (by omega)).mono ?_
      rintro e w12 ⟨rfl, hb12⟩
      go_wp2_with fail
      go_ret
      exact ⟨rfl, below_seq (below_seq (below_seq (below_seq (below_seq (below_seq (below_seq (below_seq (below_seq hb13 hb4) hb5) hb6) hb7) hb8) hb9) hb10) hb11) hb12⟩
end Go.Proofs.YtgopmhfehobooaaDoor
