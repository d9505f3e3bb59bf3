/-
  The walk of TextLays.
-/
import Derived.Test.YtgopmhfehobooaaTextZ
import Derived.Test.YtgopmhfehobooaaTextJ
namespace Go.Proofs.Ytgopmhfehobooaa
open Go.RowKit

/-- What the law does for each mark. -/
theorem lays_at (s : ByteArray) (m8 : Int) (mk : List Nat) (mB : ByteArray) (w : World) (hsh : w.ShapedOpen Try.prog) (hs : s.size ≤ 1048576) (hm0 : 0 ≤ m8) (hm1 : m8 ≤ 255)
    (hmB : mB = ⟨(enc mk).toArray⟩) (hml : mB.size ≤ 4) (hsc : scalars mk) (hne : mk ≠ []) (hw : ∀ r ∈ mk, wordN r = false)
    (hix : ∀ W, (Instr.index 33 (.agg #[.string ⟨#[32]⟩, .string ⟨#[45]⟩, .string ⟨#[47, 32]⟩, .string ⟨#[226, 128, 148]⟩]) (.int .u8 (m8 % 4))).run Try.prog W = .ok (.string mB) W) :
    Calls Try.prog 5 #[.string s, .int .u8 m8] w fun e w' => e = .returned (.bool true) ∧ Below w.heap.size w w' := by
  have l1 := words_len s.data.toList
  rw [size_list] at l1
  have hwj := words_join s.data.toList mk hsc hne hw
  have hij := inners_join s.data.toList mk hsc hne hw
  have hjl := joinR_len (enc mk) 128 (words s.data.toList) (words_small s.data.toList)
  have hsm := words_small s.data.toList
  have hel : (enc mk).length = mB.size := by rw [hmB]; rfl
  have cW := fun W => text_Words' s W (by omega)
  generalize words s.data.toList = A at *
  have HME := Lib.hid hel
  have HMB := Lib.hid hmB
  clear hmB hne hw hsc
  generalize enc mk = mb at *
  have hjl2 : (joinR mb A).length ≤ 1000000000 := by
    have : A.length * (128 + mb.length) ≤ 1048576 * 132 := Nat.mul_le_mul (by omega) (by omega)
    omega
  have HSM := Lib.hid hsm
  have HTL : Hid (∀ k, k ≤ A.length → (joinR mb (A.take k)).length ≤ 1000000000) := Lib.hid fun k hk => by
    have h := joinR_len mb 128 (A.take k) (fun x hx => hsm x (List.mem_of_mem_take hx))
    have : (A.take k).length * (128 + mb.length) ≤ 1048576 * 132 := Nat.mul_le_mul (by rw [List.length_take]; omega) (by omega)
    omega
  clear hsm hel hjl
  have cW2 := fun W => text_Words' ⟨(joinR mb A).toArray⟩ W (by simpa [ByteArray.size] using hjl2)
  have cS2 := fun W => text_Set ⟨(joinR mb A).toArray⟩ W (by simpa [ByteArray.size] using hjl2)
  have cI2 := fun W => text_Inner ⟨(joinR mb A).toArray⟩ W (by simpa [ByteArray.size] using hjl2)
  rw [mkB, hwj] at cW2 cS2
  rw [mkB, hij] at cI2
  clear hwj hij hjl2
  have l2 := onceL_len A
  have l3 := onceL_len A.tail.dropLast
  have l4 : A.tail.dropLast.length ≤ A.length := by rw [List.length_dropLast, List.length_tail]; omega
  have EL : ElemT Try.prog 23 9 (.string ⟨#[]⟩) 1 16 := ⟨Try.underlying23, info_str, rfl, by decide⟩
  go_enter Try.func5, Try.ntmps5
  go_wp2_with fail
  refine (awake_true _ hsh).mono ?_
  rintro e w1 ⟨rfl, hb1⟩
  go_wp2_with fail
  refine (cW _).mono ?_
  rintro e w2 ⟨v2, rfl, t2, hb2⟩
  clear cW
  have HR2 := Lib.hid (fun W hW => rowT t2 hW : ∀ W, Below w2.heap.size w2 W → argRow W v2 A.length 1 (A.map strV))
  obtain ⟨ao, ac, rfl⟩ := owns_slice t2
  clear t2
  go_wp2
  go_loop [7, 8] (fun t i => ∃ k : Nat, k ≤ A.length ∧ i = .int .i64 k ∧ t = .string ⟨(joinR mb (A.take k)).toArray⟩) (fun _ i => A.length - (intOf i).toNat)
  case atStart => exact ⟨0, by omega, rfl, rfl⟩
  case round =>
    obtain ⟨k, hk, rfl, rfl⟩ := hrel
    by_cases hlt : k < A.length
    · obtain ⟨_, _, _, e, _, _, hcO⟩ := HR2.out w2 (Below.refl _ _)
      cases e
      obtain ⟨bo, oo, rfl, hbo, hco⟩ := hcO (by omega)
      have c1 : w2.cell? ⟨bo, oo + k, none⟩ = some (strV A[k]) := by rw [hco k (by simpa using hlt), List.getElem_map]
      clear hcO hco
      have hAk : joinR mb (A.take (k + 1)) = if A.take k = [] then A[k] else joinR mb (A.take k) ++ mb ++ A[k] := by rw [List.take_succ_eq_append_getElem hlt, joinR_snoc]
      have hl1 := HTL.out k hk
      have hl2 := HSM.out A[k] (List.getElem_mem _)
      unfold strV at c1
      have i1 : (0 : Int) ≤ (k : Int) := by omega
      have i2 : (k : Int) < (A.length : Int) := by omega
      by_cases hk0 : k = 0
      · subst hk0
        rw [Nat.add_zero] at c1
        rw [List.take_zero, if_pos rfl] at hAk
        have HAK := Lib.hid hAk
        clear hAk
        generalize A[0] = x at *
        have hz : joinR mb ([] : List Txt) = [] := rfl
        go_wp2
        go_round
        case rel => exact ⟨1, by omega, rfl, by rw [HAK.out]; congr 1⟩
        case measure => simp [intOf]; omega
      · have hk1 : 0 < k := by omega
        rw [if_neg (by intro e; have := congrArg List.length e; rw [List.length_take, List.length_nil] at this; omega)] at hAk
        have HAK := Lib.hid hAk
        clear hAk hk0
        generalize A[k] = x at *
        generalize joinR mb (A.take k) = J at *
        have d1 : decide ((0 : Int) < (k : Int)) = true := by simp; omega
        go_wp2
        go_round
        case rel => exact ⟨k + 1, by omega, by go_num, by rw [HAK.out, HMB.out, app_mk', app_mk']⟩
        case measure => simp [intOf]; omega
    · obtain rfl : k = A.length := by omega
      rw [List.take_length]
      clear hlt
      go_wp2_with fail
      refine (cW2 _).mono ?_
      rintro e w3 ⟨v3, rfl, t3, hb3⟩
      go_wp2_with fail
      refine (same_true _ _ A _ (argRow_owns t3) (HR2.out _ hb3) (by omega)).mono ?_
      rintro e w4 ⟨rfl, hb4⟩
      have hb24 := below_seq hb3 hb4
      clear cW2 t3 hb3 hb4
      go_wp2
      go_loopw [9, 10] (fun v i wr => ∃ k : Nat, 1 ≤ k ∧ (k ≤ 1 ∨ k + 1 ≤ A.length) ∧ i = .int .i64 k ∧ Texts wr w4.heap.size v ((A.tail).take (k - 1)) ∧ Below w4.heap.size w4 wr) (fun _ i _ => A.length - (intOf i).toNat)
      case atStart => exact ⟨1, by omega, by omega, rfl, World.ownsRow_nil _ _ _ _, Below.refl _ _⟩
      case round =>
        obtain ⟨k, hk, hk2, rfl, hown, hbr⟩ := hrel
        by_cases hlt : k + 1 < A.length
        · obtain ⟨_, _, _, e, _, _, hcO⟩ := HR2.out wr (below_seq hb24 hbr)
          cases e
          obtain ⟨bo, oo, rfl, hbo, hco⟩ := hcO (by omega)
          have c1 : wr.cell? ⟨bo, oo + k, none⟩ = some (strV A[k]) := by rw [hco k (by simp; omega), List.getElem_map]
          clear hcO hco
          have htk : (A.tail).take (k + 1 - 1) = (A.tail).take (k - 1) ++ [A[k]] := by
            rw [show k + 1 - 1 = k - 1 + 1 from by omega, List.take_succ_eq_append_getElem (by rw [List.length_tail]; omega)]
            congr 2
            rw [List.getElem_tail]
            congr 1
            omega
          have hlen : ((A.tail).take (k - 1)).length = k - 1 := by rw [List.length_take, List.length_tail]; omega
          have HTK := Lib.hid htk
          clear htk
          unfold strV at c1
          generalize A[k] = x at *
          generalize (A.tail).take (k - 1) = T at *
          have i1 : (0 : Int) ≤ (k : Int) := by omega
          have i2 : (k : Int) < (A.length : Int) := by omega
          have hszr := hbr.size
          go_wp2_with (at_builtin; refine wpList_append_src rfl _ _ _ _ rfl w4.heap.size EL _ _ _ rfl (hown.alloc _) _ 1 [strV x] rfl (by exact src_last (cs := #[strV x]) Try.underlying23 1 1 1 rfl rfl (by simp [strV, Value.oneCell'])) (by unfold maxLen; omega) (by omega) (by simp; omega) ?_; intro v' w5 hown5 hgr _ _)
          go_roundw
          case rel =>
            refine ⟨k + 1, by omega, by omega, by go_num, ?_, (hbr.alloc hszr _).grown hgr (by simp; omega) (fun j hj => (hown.lt j hj).1)⟩
            rw [HTK.out]
            unfold Texts
            rw [List.length_append, List.map_append]
            exact hown5
          case measure => simp [intOf]; omega
        · have hTL : (A.tail).take (k - 1) = A.tail.dropLast := by
            rw [List.dropLast_eq_take, List.length_tail]
            rcases hk2 with h | h
            · obtain rfl : k = 1 := by omega
              rw [show A.length - 1 - 1 = 0 from by omega]
            · rw [show k - 1 = A.length - 1 - 1 from by omega]
          rw [hTL] at hown
          clear hTL
          have HROWI := argRow_owns hown
          obtain ⟨io, ic, rfl⟩ := owns_slice hown
          generalize A.tail.dropLast = I at *
          clear hown
          have hb2r := below_seq hb24 hbr
          go_wp2_with fail
          refine (ref_Once _ I _ HROWI (by omega)).mono ?_
          rintro e w6 ⟨v6, rfl, t6, hb6⟩
          go_wp2_with fail
          refine (cI2 _).mono ?_
          rintro e w7 ⟨v7, rfl, t7, hb7⟩
          go_wp2_with fail
          refine (same_true _ _ (onceL I) _ (argRow_owns t7) (rowT t6 hb7) (by omega)).mono ?_
          rintro e w8 ⟨rfl, hb8⟩
          go_wp2_with fail
          refine (cS2 _).mono ?_
          rintro e w9 ⟨v9, rfl, t9, hb9⟩
          have hb29 := below_seq (below_seq (below_seq (below_seq hb2r hb6) hb7) hb8) hb9
          go_wp2_with fail
          refine (ref_Once _ A _ (HR2.out _ hb29) (by omega)).mono ?_
          rintro e w10 ⟨v10, rfl, t10, hb10⟩
          go_wp2_with fail
          refine (same_true _ _ (onceL A) _ (rowT t9 hb10) (argRow_owns t10) (by omega)).mono ?_
          rintro e w11 ⟨rfl, hb11⟩
          go_wp2_with fail
          go_ret
          exact ⟨rfl, below_seq (below_seq (below_seq (below_seq hb1 hb2) hb29) hb10) hb11⟩

theorem lays_walk (s : ByteArray) (m8 : Int) (w : World) (hsh : w.ShapedOpen Try.prog) (hs : s.size ≤ 1048576) (hm0 : 0 ≤ m8) (hm1 : m8 ≤ 255) :
    Calls Try.prog 5 #[.string s, .int .u8 m8] w fun e w' => e = .returned (.bool true) ∧ Below w.heap.size w w' := by
  rcases (by omega : m8 % 4 = 0 ∨ m8 % 4 = 1 ∨ m8 % 4 = 2 ∨ m8 % 4 = 3) with h | h | h | h
  · exact lays_at s m8 [32] ⟨#[32]⟩ w hsh hs hm0 hm1 (by decide +kernel) (by decide) (by intro r hr; simp at hr; subst hr; exact .inl (by decide)) (by simp) (by decide) (by rw [h]; exact fun W => by kernel_rfl)
  · exact lays_at s m8 [45] ⟨#[45]⟩ w hsh hs hm0 hm1 (by decide +kernel) (by decide) (by intro r hr; simp at hr; subst hr; exact .inl (by decide)) (by simp) (by decide) (by rw [h]; exact fun W => by kernel_rfl)
  · exact lays_at s m8 [47, 32] ⟨#[47, 32]⟩ w hsh hs hm0 hm1 (by decide +kernel) (by decide) (by intro r hr; simp at hr; rcases hr with rfl | rfl <;> exact .inl (by decide)) (by simp) (by decide) (by rw [h]; exact fun W => by kernel_rfl)
  · exact lays_at s m8 [8212] ⟨#[226, 128, 148]⟩ w hsh hs hm0 hm1 (by decide +kernel) (by decide) (by intro r hr; simp at hr; subst hr; exact .inl (by decide)) (by simp) (by decide) (by rw [h]; exact fun W => by kernel_rfl)
end Go.Proofs.Ytgopmhfehobooaa
