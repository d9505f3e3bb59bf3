/-
  The contract of utf.Fold.
-/
import Derived.Test.YtgopmhfehobooaaUtfE
import Derived.Test.YtgopmhfehobooaaShelf
import Derived.Lib.OthersKept
namespace Go.Proofs.Ytgopmhfehobooaa
open Go.RowKit

theorem fold_pos (s : ByteArray) (pos : Nat) (h : pos < s.size) :
    fold (s.data.toList.drop pos) = encR (smallN (Utf8.decode s pos).1) ++ fold (s.data.toList.drop (pos + (Utf8.decode s pos).2)) := by
  unfold fold
  rw [runes_pos s pos h, List.map_cons, enc_cons]
theorem fold_end (s : ByteArray) (pos : Nat) (h : ¬ pos < s.size) : fold (s.data.toList.drop pos) = [] := by
  unfold fold
  rw [runes_end s pos h]; rfl

set_option maxRecDepth 100000 in
set_option maxHeartbeats 2000000 in
theorem utf_Fold (s : ByteArray) (w : World) (hs : s.size ≤ maxLen) (hfl : (fold s.data.toList).length + 4 ≤ 140737488355328) :
    Calls Try.prog 17 #[.string s] w fun e w' => e = .returned (.string ⟨(fold s.data.toList).toArray⟩) ∧ Below w.heap.size w w' := by
  unfold maxLen at hs
  obtain ⟨FS, hFS⟩ : ∃ F, fold s.data.toList = F := ⟨_, rfl⟩
  rw [hFS] at hfl ⊢
  obtain ⟨R, hR⟩ : ∃ R : ByteArray, (⟨FS.toArray⟩ : ByteArray) = R := ⟨_, rfl⟩
  rw [hR]
  have HR := Lib.hid hR; clear hR
  have HFS := Lib.hid hFS; clear hFS
  go_enter Try.func17, Try.ntmps17
  go_wp2
  go_loopw [3] (fun b wr => ∃ (pos : Nat) (L : List UInt8), pos ≤ s.size ∧ wr.heap[w.heap.size]? = some (.stringIter s pos) ∧ wr.ownsRow (w.heap.size + 1) 5 1 b L.length (Lib.byteCells L) ∧
    L ++ fold (s.data.toList.drop pos) = FS ∧ Below w.heap.size w wr ∧ w.heap.size < wr.heap.size) (fun _ w' => s.size - w'.iterPos w.heap.size)
  case atStart => exact ⟨0, [], by omega, World.iter_heap _ _ _, World.ownsRow_nil _ _ _ _, by rw [List.drop_zero, HFS.out]; rfl, below_iter w s 0, by simp [World.iter]⟩
  case round =>
    obtain ⟨pos, L, hpos, hit, hown, hL, hb, hsz⟩ := hrel
    have HL := Lib.hid hL
    have HIT := Lib.hid hit
    clear hL
    by_cases hp : pos < s.size
    · have hnx : ∀ ty, (Instr.next (.pointer (some ⟨w.heap.size, 0, none⟩)) true ty).run Try.prog wr = _ := fun ty => Lib.run_next_any_at wr w.heap.size s pos ty hit hp
      have hwd := width_pos' s pos
      have hpl := pos_le s pos hp
      have HF := Lib.hid (fold_pos s pos hp)
      have hsc := decodeL_scalar (s.data.toList.drop pos)
      rw [← decode_drop] at hsc
      have hsm := smallN_scalar hsc
      have hLlen : L.length ≤ FS.length := by rw [← HL.out, List.length_append]; omega
      have hown2 := ownsRow_iterAt hown (k := w.heap.size) (by omega) s (pos + (Utf8.decode s pos).2)
      have hb2 := Lib.below_iterAt hb (Nat.le_refl _) s (pos + (Utf8.decode s pos).2)
      have hit2 := Lib.iterAt_heap wr w.heap.size s pos (pos + (Utf8.decode s pos).2) hit
      have hsz2 : w.heap.size < (wr.iterAt w.heap.size s (pos + (Utf8.decode s pos).2)).heap.size := by rw [Lib.iterAt_size]; exact hsz
      have HM := Lib.hid (iterPos_of hit)
      clear hit hown hb hsz
      have cS := fun W => utf_Small (((Utf8.decode s pos).1 : Nat) : Int) W (by omega) (by unfold scalar at hsc; omega)
      rw [smallZ_nat] at cS
      have hr1 : smallN (Utf8.decode s pos).1 ≤ 1114111 := by unfold scalar at hsm; omega
      clear hsc hsm
      generalize Utf8.decode s pos = d at *
      obtain ⟨r, n⟩ := d
      simp only at *
      generalize smallN r = sr at *
      generalize hW2 : wr.iterAt w.heap.size s (pos + n) = W2 at *
      have HW2 := Lib.hid hW2; clear hW2
      have HIT2 := Lib.hid hit2; clear hit2
      have cA := Try.utf8_AppendRune_plain (w.heap.size + 1) u3 L.length (Lib.byteCells L) (sr : Int) (by omega) (by omega) W2 hown2 (by omega) (by omega)
      rw [cells_encR, Lib.byteCells_length] at cA
      go_wp2_with (first | (go_at_call 29; refine (cS _).mono ?_; rintro e w' ⟨rfl, rfl⟩) | (go_at_call 28; refine cA.mono ?_; rintro e w3 ⟨v3, rfl, hown3, o, hgr⟩))
      go_roundw
      case rel =>
        have hk3 : w3.heap[w.heap.size]? = some (.stringIter s (pos + n)) := by
          rw [hgr.block w.heap.size (by simp; omega) (fun e => by have := hown2.lt w.heap.size e.symm; omega), Below.heap_alloc _ _ _ (by omega)]
          exact HIT2.out
        exact ⟨pos + n, L ++ encR sr, hpl, hk3, by rw [List.length_append, byteCells_append]; exact hown3, by rw [List.append_assoc, ← HL.out, HF.out], (hb2.alloc (by omega) o).grown hgr (by simp; omega) (fun k hk => by have := (hown2.lt k hk).1; omega), by have := hgr.size; simp at this; omega⟩
      case measure =>
        have hk3 : w3.heap[w.heap.size]? = some (.stringIter s (pos + n)) := by
          rw [hgr.block w.heap.size (by simp; omega) (fun e => by have := hown2.lt w.heap.size e.symm; omega), Below.heap_alloc _ _ _ (by omega)]
          exact HIT2.out
        rw [iterPos_of hk3, HM.out]
        omega
    · have hnx : ∀ ty, (Instr.next (.pointer (some ⟨w.heap.size, 0, none⟩)) true ty).run Try.prog wr = _ := fun ty => Lib.run_next_end_at wr w.heap.size s pos ty hit hp
      have hcv := conv_owned (P := Try.prog) (dst := 9) Try.underlying41 Try.underlying5 Try.underlying9 hown
      have e := HL.out
      rw [fold_end s pos hp, List.append_nil] at e
      rw [e, HR.out] at hcv
      clear e
      go_wp2
      go_ret
      exact ⟨rfl, hb⟩

end Go.Proofs.Ytgopmhfehobooaa
