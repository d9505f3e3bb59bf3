/-
  The contracts of the reference's Runes and Fold.
-/
import Derived.Test.YtfekdadkbclkfaaDoorUtfC
import Derived.Test.YtfekdadkbclkfaaDoorUtfD
namespace Go.Proofs.YtfekdadkbclkfaaDoor
open Go.RowKit

theorem info_u8 : (Tryd.prog.info? 5).map (fun i => (i.zero, i.size, i.bytes)) = some (some (.int .u8 0), 1, 1) := by kernel_rfl
theorem info_i32 : (Tryd.prog.info? 21).map (fun i => (i.zero, i.size, i.bytes)) = some (some (.int .i32 0), 1, 4) := by kernel_rfl

def runeCell (r : Nat) : Value := .int .i32 (r : Int)
/-- A text's validity, step by step: no step yields U+FFFD of one byte. -/
def okTo (s : ByteArray) (v : Bool) (pos : Nat) : Prop := Lib.validD s.data.toList = (v && Lib.validD (s.data.toList.drop pos))

theorem okTo_step (s : ByteArray) (v : Bool) (pos : Nat) (h : okTo s v pos) (hp : pos < s.size) :
    okTo s (if (Utf8.decode s pos).1 = 65533 ∧ (Utf8.decode s pos).2 = 1 then false else v) (pos + (Utf8.decode s pos).2) := by
  have hl : s.data.toList.length = s.size := by simp [ByteArray.size_data]
  unfold okTo at *
  rw [h, Lib.validD_step (s.data.toList.drop pos) (by intro e; have := congrArg List.length e; simp only [List.length_drop, List.length_nil, hl] at this; omega), ← decode_drop, List.drop_drop]
  by_cases hc : (Utf8.decode s pos).1 = 65533 ∧ (Utf8.decode s pos).2 = 1
  · simp [hc]
  · rw [if_neg hc, if_neg hc]
theorem okTo_end (s : ByteArray) (v : Bool) (pos : Nat) (h : okTo s v pos) (hp : ¬ pos < s.size) : Lib.validD s.data.toList = v := by
  have hl : s.data.toList.length = s.size := by simp [ByteArray.size_data]
  unfold okTo at h
  rw [h, List.drop_of_length_le (by omega), Lib.validD_nil, Bool.and_true]
theorem okSel (r n : Nat) (t1 t2 bb : Bool) (h1 : ((n : Int) == 1) = t1) (h2 : ((r : Int) == 65533) = t2) : (if r = 65533 ∧ n = 1 then false else bb) = (if t1 && t2 then false else bb) := by
  have a : n = 1 ↔ t1 = true := by
    rw [← h1]
    exact ⟨fun h => by rw [h]; rfl, fun h => by have := beq_iff_eq.1 h; omega⟩
  have b : r = 65533 ↔ t2 = true := by
    rw [← h2]
    exact ⟨fun h => by rw [h]; rfl, fun h => by have := beq_iff_eq.1 h; omega⟩
  by_cases c : r = 65533 ∧ n = 1
  · rw [if_pos c, a.1 c.2, b.1 c.1]; rfl
  · rw [if_neg c]
    have : (t1 && t2) = false := by
      cases t1 <;> cases t2 <;> simp_all
    rw [this]; rfl
/-- The width of what is read never passes the end. -/
theorem pos_le (s : ByteArray) (pos : Nat) (hp : pos < s.size) : pos + (Utf8.decode s pos).2 ≤ s.size := by
  have hl : s.data.toList.length = s.size := by simp [ByteArray.size_data]
  have hne : s.data.toList.drop pos ≠ [] := by intro e; have := congrArg List.length e; simp only [List.length_drop, List.length_nil, hl] at this; omega
  have := Lib.decodeL_le _ hne
  rw [← decode_drop, List.length_drop, hl] at this
  omega

set_option maxRecDepth 100000 in
set_option maxHeartbeats 2000000 in
theorem ref_Runes (s : ByteArray) (w : World) (hs : s.size ≤ 35184372088832) :
    Calls Tryd.prog 9 #[.string s] w fun e w' => ∃ v, e = .returned (.tuple #[v, .bool (Lib.validD s.data.toList)]) ∧
      w'.ownsRow w.heap.size 21 1 v (runes s.data.toList).length ((runes s.data.toList).map runeCell) ∧ Below w.heap.size w w' := by
  obtain ⟨i0, hi, hz0, hz1, hz2⟩ := info_parts info_i32
  have hrl := runes_length s.data.toList
  have hl : s.data.toList.length = s.size := by simp [ByteArray.size_data]
  rw [hl] at hrl
  clear hl
  go_enter Tryd.func9, Tryd.ntmps9
  go_wp2
  go_loopw [4, 5, 6] (fun v b i wr => ∃ (pos : Nat) (bb : Bool) (rs : List Nat), pos ≤ s.size ∧ i = .int .i64 pos ∧ b = .bool bb ∧ okTo s bb pos ∧ rs ++ runes (s.data.toList.drop pos) = runes s.data.toList ∧
    wr.ownsRow w.heap.size 21 1 v rs.length (rs.map runeCell) ∧ Below w.heap.size w wr) (fun _ _ i _ => s.size - (intOf i).toNat)
  case atStart => exact ⟨0, true, [], by omega, rfl, rfl, by unfold okTo; rw [Bool.true_and, List.drop_zero], by rw [List.drop_zero]; rfl, World.ownsRow_nil _ _ _ _, Below.refl _ _⟩
  case round =>
    obtain ⟨pos, bb, rs, hp, rfl, rfl, hok, hrs, hown, hb⟩ := hrel
    have HOK := Lib.hid hok
    have HRS := Lib.hid hrs
    clear hok hrs
    by_cases hlt : pos < s.size
    · have cO := fun W => ref_One s pos W (by omega) hlt
      have hw1 := width_pos' s pos
      have hw2 := pos_le s pos hlt
      have hsc := decodeL_scalar (s.data.toList.drop pos)
      rw [← decode_drop] at hsc
      have HSTEP := Lib.hid (okTo_step s bb pos HOK.out hlt)
      have HRUN := Lib.hid (runes_pos s pos hlt)
      generalize Utf8.decode s pos = d at *
      obtain ⟨r, n⟩ := d
      have hrl1 : rs.length + 1 ≤ s.size := by
        have h := congrArg List.length HRS.out
        rw [HRUN.out] at h
        simp only [List.length_append, List.length_cons] at h
        omega
      have hsz := hb.size
      obtain ⟨t1, ht1⟩ : ∃ t, ((n : Int) == 1) = t := ⟨_, rfl⟩
      obtain ⟨t2, ht2⟩ : ∃ t, ((r : Int) == 65533) = t := ⟨_, rfl⟩
      clear hsc
      cases t1 <;> cases t2
      all_goals
        go_wp2_with (first | (go_at_call 18; refine (cO _).mono ?_; rintro e w' ⟨rfl, rfl⟩) | (at_builtin; refine wpList_append_own _ rfl _ _ 23 rfl w.heap.size 21 i0 (.int .i32 0) 1 4 Tryd.underlying23 hi hz0 hz1 hz2 rfl (by decide) _ _ _ rfl (hown.alloc _) ⟨wr.heap.size, 0, none⟩ 1 1 [runeCell r] rfl rfl (cell_one_new _ _ _) (by simp [runeCell, Value.oneCell']) (by unfold maxLen; omega) (by omega) (by simp; omega) ?_; intro v' w1 hown1 hgrow _))
        go_roundw
        case rel => exact ⟨pos + n, _, rs ++ [r], hw2, by go_num, rfl, by have h := HSTEP.out; rw [okSel r n _ _ bb ht1 ht2] at h; exact h, by rw [List.append_assoc, ← HRS.out, HRUN.out]; rfl, by rw [List.length_append, List.map_append]; exact hown1, grown_below hb hsz _ hown hgrow⟩
        case measure => simp [intOf]; omega
    · go_wp2
      go_ret2
      have e1 := okTo_end s bb pos HOK.out hlt
      have e2 := HRS.out
      rw [runes_end s pos hlt, List.append_nil] at e2
      exact ⟨u4, by rw [e1]; rfl, by rw [← e2]; exact hown, hb⟩

theorem smallZ_nat (r : Nat) : smallZ (r : Int) = ((smallN r : Nat) : Int) := by
  unfold smallZ smallN
  repeat' split
  all_goals omega

theorem smallN_take (rs : List Nat) (k : Nat) (h : k < rs.length) : enc ((rs.take (k + 1)).map smallN) = enc ((rs.take k).map smallN) ++ encR (smallN rs[k]) := by
  rw [List.take_succ_eq_append_getElem h, List.map_append, enc_append]
  simp [enc]
theorem enc_take_le (rs : List Nat) (k : Nat) : (enc ((rs.take k).map smallN)).length ≤ 4 * rs.length := by
  have h := (enc_length ((rs.take k).map smallN)).2
  rw [List.length_map] at h
  have := List.length_take_le k rs
  have h2 : (rs.take k).length ≤ rs.length := by rw [List.length_take]; omega
  omega
theorem cells_encR (r : Nat) : Lib.runeCells (r : Int) = Lib.byteCells (encR r) := (Lib.byteCells_encodeRune r).symm

theorem ref_Bytes' (r : Nat) (h : scalar r) (w : World) :
    Calls Tryd.prog 21 #[.int .i32 (r : Int)] w fun e w' => ∃ v, e = .returned v ∧ w'.ownsRow w.heap.size 5 1 v (encR r).length (Lib.byteCells (encR r)) ∧ Below w.heap.size w w' := by
  have := ref_Bytes (r : Int) (by omega) (by unfold scalar at h; omega) (by unfold scalar at h; omega) w
  rw [cells_encR, Lib.byteCells_length] at this
  exact this

set_option maxRecDepth 100000 in
set_option maxHeartbeats 2000000 in
theorem ref_Fold (s : ByteArray) (w : World) (hs : s.size ≤ 35184372088830) :
    Calls Tryd.prog 13 #[.string s] w fun e w' => e = .returned (.string ⟨(fold s.data.toList).toArray⟩) ∧ Below w.heap.size w w' := by
  obtain ⟨i0, hi, hz0, hz1, hz2⟩ := info_parts info_u8
  have cR := ref_Runes s w (by omega)
  have hrl := runes_length s.data.toList
  have hl : s.data.toList.length = s.size := by simp [ByteArray.size_data]
  rw [hl] at hrl
  clear hl
  have hsc := runes_scalars s.data.toList
  have HF : Hid (fold s.data.toList = enc ((runes s.data.toList).map smallN)) := rfl
  rw [HF.out]
  clear HF
  generalize Lib.validD s.data.toList = V at cR
  generalize runes s.data.toList = rs at *
  obtain ⟨R, hR⟩ : ∃ R : ByteArray, (⟨(enc (rs.map smallN)).toArray⟩ : ByteArray) = R := ⟨_, rfl⟩
  rw [hR]
  have HR := Lib.hid hR; clear hR
  have HSC := Lib.hid hsc; clear hsc
  go_enter Tryd.func13, Tryd.ntmps13
  go_wp2_with (go_at_call 9; refine cR.mono ?_; rintro e w1 ⟨v, rfl, hown, hb⟩)
  clear cR
  have hv := owns_read hown

  rcases hv with ⟨rfl, h0, _⟩ | ⟨g, cap, rfl, hB, hg, hnc, hcm, hxl, hcell⟩
  · have e0 : rs = [] := List.eq_nil_of_length_eq_zero h0
    have hcv := conv_owned (P := Tryd.prog) (dst := 9) Tryd.underlying34 Tryd.underlying5 Tryd.underlying9 (World.ownsRow_nil w1 0 5 1) (l := [])
    have hR0 : (⟨([] : List UInt8).toArray⟩ : ByteArray) = R := by rw [← HR.out, e0]; rfl
    rw [hR0] at hcv
    clear hR0
    clear h0 hown hrl
    subst e0
    go_wp2
    go_loopw [5, 6] (fun b i wr => b = .slice none 0 0 ∧ i = .int .i64 0 ∧ wr = w1) (fun _ _ _ => 0)
    case atStart => exact ⟨rfl, rfl, rfl⟩
    case round =>
      obtain ⟨rfl, rfl, rfl⟩ := hrel
      go_wp2
      go_ret
      exact ⟨rfl, hb⟩
  · have HC := Lib.hid hcell
    clear hcell hown
    have hb1 := hb.size
    go_wp2
    go_loopw [5, 6] (fun b i wr => ∃ k : Nat, k ≤ rs.length ∧ i = .int .i64 k ∧ wr.ownsRow w1.heap.size 5 1 b (enc ((rs.take k).map smallN)).length (Lib.byteCells (enc ((rs.take k).map smallN))) ∧ Below w1.heap.size w1 wr) (fun _ i _ => rs.length - (intOf i).toNat)
    case atStart => exact ⟨0, by omega, rfl, World.ownsRow_nil _ _ _ _, Below.refl _ _⟩
    case round =>
      obtain ⟨k, hk, rfl, hown, hbr⟩ := hrel
      by_cases hlt : k < rs.length
      · have hc : wr.cell? ⟨g, k, none⟩ = some (.int .i32 ((rs[k] : Nat) : Int)) := by
          rw [hbr.cell (p := ⟨g, k, none⟩) hg, HC.out k (by simpa using hlt)]
          simp [runeCell]
        have hsk : scalar rs[k] := HSC.out _ (List.getElem_mem _)
        have hT := smallN_take rs k hlt
        have hle := enc_take_le rs (k + 1)
        rw [hT, List.length_append] at hle
        have hsm := smallN_scalar hsk
        have hs1 : (rs[k] : Nat) ≤ 1114111 := by unfold scalar at hsk; omega
        have hs2 : smallN rs[k] ≤ 1114111 := by unfold scalar at hsm; omega
        have hs3 : smallN rs[k] < 55296 ∨ 57344 ≤ smallN rs[k] := by unfold scalar at hsm; omega
        have HT := Lib.hid hT
        have cS := fun W => (ref_Small (rs[k] : Int) W (by omega) (by omega))
        have cB := fun W => ref_Bytes' (smallN rs[k]) hsm W
        rw [smallZ_nat] at cS
        have hE := encR_len (smallN rs[k])
        have hsz := hbr.size
        clear hT hsk hsm hs1 hs2 hs3
        generalize encR (smallN rs[k]) = E at *
        generalize smallN rs[k] = sr at *
        generalize rs[k] = r at *
        generalize enc ((rs.take k).map smallN) = L at *
        go_wp2_with (first | (go_at_call 17; refine (cS _).mono ?_; rintro e w' ⟨rfl, rfl⟩) | (go_at_call 21; refine (cB _).mono ?_; rintro e w2 ⟨v2, rfl, hown2, hb2⟩; obtain ⟨g2, c2, rfl, _, _, _, _, _, hcell2⟩ := owns_some hown2 (by omega); have HC2 := Lib.hid hcell2; clear hcell2; have hsz2 := hb2.size) | (at_builtin; refine wpList_append_own _ rfl _ _ 34 rfl w1.heap.size 5 i0 (.int .u8 0) 1 1 Tryd.underlying34 hi hz0 hz1 hz2 rfl (by decide) _ _ _ rfl (owns_below hown hb2) ⟨g2, 0, none⟩ E.length c2 (Lib.byteCells E) rfl (by simp [Lib.byteCells]) (news_of HC2.out) (byteCells_one _) (by unfold maxLen; omega) (by omega) (by omega) ?_; intro v' w3 hown3 hgrow _))
        go_roundw
        case rel => exact ⟨k + 1, by omega, by go_num, by rw [HT.out, List.length_append, byteCells_append]; exact hown3, ((hbr.trans (hb2.mono hsz)).grown hgrow (by omega) (fun k hk => (hown.lt k hk).1))⟩
        case measure => simp [intOf]; omega
      · obtain rfl : k = rs.length := by omega
        rw [List.take_length] at hown
        have hcv := conv_owned (P := Tryd.prog) (dst := 9) Tryd.underlying34 Tryd.underlying5 Tryd.underlying9 hown
        rw [HR.out] at hcv
        go_wp2
        go_ret
        exact ⟨rfl, hb.trans (hbr.mono hb1)⟩

end Go.Proofs.YtfekdadkbclkfaaDoor
