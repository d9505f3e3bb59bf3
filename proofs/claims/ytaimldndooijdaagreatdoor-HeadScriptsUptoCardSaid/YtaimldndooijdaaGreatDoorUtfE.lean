/-
  The contract of the reference's Runes.
-/
import Derived.Test.YtaimldndooijdaaGreatDoorUtfC
import Derived.Test.YtaimldndooijdaaGreatDoorUtfD
namespace Go.Proofs.YtaimldndooijdaaGreatDoor
open Go.RowKit

theorem info_i32 : (Tryz.prog.info? 21).map (fun i => (i.zero, i.size, i.bytes)) = some (some (.int .i32 0), 1, 4) := by kernel_rfl

def runeCell (r : Nat) : Value := .int .i32 (r : Int)
/-- A text's validity, step by step: no step yields U+FFFD of one byte. -/
def okTo (s : ByteArray) (v : Bool) (pos : Nat) : Prop := Lib.validD s.data.toList = (v && Lib.validD (s.data.toList.drop pos))

theorem okTo_step (s : ByteArray) (v : Bool) (pos : Nat) (h : okTo s v pos) (hp : pos < s.size) :
    okTo s (if (Utf8.decode s pos).1 = 65533 ∧ (Utf8.decode s pos).2 = 1 then false else v) (pos + (Utf8.decode s pos).2) := by
  have hl : s.data.toList.length = s.size := by simp [ByteArray.size_data]
  unfold okTo at *
  rw [h, Lib.validD_step (s.data.toList.drop pos) (by intro e; have := congrArg List.length e; simp only [List.length_drop, List.length_nil, hl] at this; omega), ← decode_drop, List.drop_drop]
  by_cases hc : (Utf8.decode s pos).1 = 65533 ∧ (Utf8.decode s pos).2 = 1
  · simp [hc]
  · rw [if_neg hc, if_neg hc]
theorem okTo_end (s : ByteArray) (v : Bool) (pos : Nat) (h : okTo s v pos) (hp : ¬ pos < s.size) : Lib.validD s.data.toList = v := by
  have hl : s.data.toList.length = s.size := by simp [ByteArray.size_data]
  unfold okTo at h
  rw [h, List.drop_of_length_le (by omega), Lib.validD_nil, Bool.and_true]
theorem okSel (r n : Nat) (t1 t2 bb : Bool) (h1 : ((n : Int) == 1) = t1) (h2 : ((r : Int) == 65533) = t2) : (if r = 65533 ∧ n = 1 then false else bb) = (if t1 && t2 then false else bb) := by
  have a : n = 1 ↔ t1 = true := by
    rw [← h1]
    exact ⟨fun h => by rw [h]; rfl, fun h => by have := beq_iff_eq.1 h; omega⟩
  have b : r = 65533 ↔ t2 = true := by
    rw [← h2]
    exact ⟨fun h => by rw [h]; rfl, fun h => by have := beq_iff_eq.1 h; omega⟩
  by_cases c : r = 65533 ∧ n = 1
  · rw [if_pos c, a.1 c.2, b.1 c.1]; rfl
  · rw [if_neg c]
    have : (t1 && t2) = false := by
      cases t1 <;> cases t2 <;> simp_all
    rw [this]; rfl
/-- The width of what is read never passes the end. -/
theorem pos_le (s : ByteArray) (pos : Nat) (hp : pos < s.size) : pos + (Utf8.decode s pos).2 ≤ s.size := by
  have hl : s.data.toList.length = s.size := by simp [ByteArray.size_data]
  have hne : s.data.toList.drop pos ≠ [] := by intro e; have := congrArg List.length e; simp only [List.length_drop, List.length_nil, hl] at this; omega
  have := Lib.decodeL_le _ hne
  rw [← decode_drop, List.length_drop, hl] at this
  omega

set_option maxRecDepth 100000 in
set_option maxHeartbeats 2000000 in
theorem ref_Runes (s : ByteArray) (w : World) (hs : s.size ≤ 35184372088832) :
    Calls Tryz.prog 48 #[.string s] w fun e w' => ∃ v, e = .returned (.tuple #[v, .bool (Lib.validD s.data.toList)]) ∧
      w'.ownsRow w.heap.size 21 1 v (runes s.data.toList).length ((runes s.data.toList).map runeCell) ∧ Below w.heap.size w w' := by
  obtain ⟨i0, hi, hz0, hz1, hz2⟩ := info_parts info_i32
  have hrl := runes_length s.data.toList
  have hl : s.data.toList.length = s.size := by simp [ByteArray.size_data]
  rw [hl] at hrl
  clear hl
  go_enter Tryz.func48, Tryz.ntmps48
  go_wp2
  go_loopw [4, 5, 6] (fun v b i wr => ∃ (pos : Nat) (bb : Bool) (rs : List Nat), pos ≤ s.size ∧ i = .int .i64 pos ∧ b = .bool bb ∧ okTo s bb pos ∧ rs ++ runes (s.data.toList.drop pos) = runes s.data.toList ∧
    wr.ownsRow w.heap.size 21 1 v rs.length (rs.map runeCell) ∧ Below w.heap.size w wr) (fun _ _ i _ => s.size - (intOf i).toNat)
  case atStart => exact ⟨0, true, [], by omega, rfl, rfl, by unfold okTo; rw [Bool.true_and, List.drop_zero], by rw [List.drop_zero]; rfl, World.ownsRow_nil _ _ _ _, Below.refl _ _⟩
  case round =>
    obtain ⟨pos, bb, rs, hp, rfl, rfl, hok, hrs, hown, hb⟩ := hrel
    have HOK := Lib.hid hok
    have HRS := Lib.hid hrs
    clear hok hrs
    by_cases hlt : pos < s.size
    · have cO := fun W => ref_One s pos W (by omega) hlt
      have hw1 := width_pos' s pos
      have hw2 := pos_le s pos hlt
      have hsc := decodeL_scalar (s.data.toList.drop pos)
      rw [← decode_drop] at hsc
      have HSTEP := Lib.hid (okTo_step s bb pos HOK.out hlt)
      have HRUN := Lib.hid (runes_pos s pos hlt)
      generalize Utf8.decode s pos = d at *
      obtain ⟨r, n⟩ := d
      have hrl1 : rs.length + 1 ≤ s.size := by
        have h := congrArg List.length HRS.out
        rw [HRUN.out] at h
        simp only [List.length_append, List.length_cons] at h
        omega
      have hsz := hb.size
      obtain ⟨t1, ht1⟩ : ∃ t, ((n : Int) == 1) = t := ⟨_, rfl⟩
      obtain ⟨t2, ht2⟩ : ∃ t, ((r : Int) == 65533) = t := ⟨_, rfl⟩
      clear hsc
      cases t1 <;> cases t2
      all_goals
        go_wp2_with (first | (go_at_call 72; refine (cO _).mono ?_; rintro e w' ⟨rfl, rfl⟩) | (at_builtin; refine wpList_append_own _ rfl _ _ 81 rfl w.heap.size 21 i0 (.int .i32 0) 1 4 Tryz.underlying81 hi hz0 hz1 hz2 rfl (by decide) _ _ _ rfl (hown.alloc _) ⟨wr.heap.size, 0, none⟩ 1 1 [runeCell r] rfl rfl (cell_one_new _ _ _) (by simp [runeCell, Value.oneCell']) (by unfold maxLen; omega) (by omega) (by simp; omega) ?_; intro v' w1 hown1 hgrow _))
        go_roundw
        case rel => exact ⟨pos + n, _, rs ++ [r], hw2, by go_num, rfl, by have h := HSTEP.out; rw [okSel r n _ _ bb ht1 ht2] at h; exact h, by rw [List.append_assoc, ← HRS.out, HRUN.out]; rfl, by rw [List.length_append, List.map_append]; exact hown1, grown_below hb hsz _ hown hgrow⟩
        case measure => simp [intOf]; omega
    · go_wp2
      go_ret2
      have e1 := okTo_end s bb pos HOK.out hlt
      have e2 := HRS.out
      rw [runes_end s pos hlt, List.append_nil] at e2
      exact ⟨u4, by rw [e1]; rfl, by rw [← e2]; exact hown, hb⟩

theorem smallZ_nat (r : Nat) : smallZ (r : Int) = ((smallN r : Nat) : Int) := by
  unfold smallZ smallN
  repeat' split
  all_goals omega

theorem cells_encR (r : Nat) : Lib.runeCells (r : Int) = Lib.byteCells (encR r) := (Lib.byteCells_encodeRune r).symm

theorem ref_Bytes' (r : Nat) (h : scalar r) (w : World) :
    Calls Tryz.prog 95 #[.int .i32 (r : Int)] w fun e w' => ∃ v, e = .returned v ∧ w'.ownsRow w.heap.size 5 1 v (encR r).length (Lib.byteCells (encR r)) ∧ Below w.heap.size w w' := by
  have := ref_Bytes (r : Int) (by omega) (by unfold scalar at h; omega) (by unfold scalar at h; omega) w
  rw [cells_encR, Lib.byteCells_length] at this
  exact this

end Go.Proofs.YtaimldndooijdaaGreatDoor
