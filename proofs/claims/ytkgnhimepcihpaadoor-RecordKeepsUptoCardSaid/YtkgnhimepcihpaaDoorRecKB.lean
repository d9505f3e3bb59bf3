/-
  append([]byte(s), 9, 9): a row that can be written.
-/
import Derived.Test.YtkgnhimepcihpaaDoorRecKA
import Derived.Laws.IdiomCopy
namespace Go.Proofs.YtkgnhimepcihpaaDoor
open Go.RowKit Go.WideShapes
/-- Bytes at the head of a block from B on, that can be written. -/
structure Room (B : Nat) (w : World) (v : Value) (l : List UInt8) (g cap : Nat) : Prop where
  val : v = .slice (some ⟨g, 0, none⟩) l.length cap
  ge : B ≤ g
  lt : g < w.heap.size
  le : l.length ≤ cap
  mx : cap ≤ maxLen
  cell : ∀ j (h : j < l.length), w.cell? ⟨g, j, none⟩ = some (.int .u8 (l[j].toNat : Int))
  froz : ∀ j, j < l.length → w.frozen? ⟨g, j, none⟩ = false
theorem setCells_keep (b : Nat) : ∀ (vs : List Value) (o : Nat) (w : World), w.grownBy (w.setCells b o vs) (some b) ∧ (∀ a, (w.setCells b o vs).frozen? a = w.frozen? a)
  | [], _, w => ⟨World.grownBy.refl _ _, fun _ => rfl⟩
  | v :: r, o, w => by
    have ih := setCells_keep b r (o + 1) (w.setCell ⟨b, o, none⟩ v)
    exact ⟨grown_trans (grown_set _ _ _ _) ih.1, fun a => by
      show ((w.setCell ⟨b, o, none⟩ v).setCells b (o + 1) r).frozen? a = _
      rw [ih.2, World.frozen?_setCell]⟩
theorem append_two (w : World) (s : ByteArray) (ty : TypeId) (hs : s.size ≤ 1099511627776) :
    ∃ v' w', (Builtin.append_ #[22, 22] ty #[.slice (some ⟨w.heap.size, 0, none⟩) s.size (grownCap w s.size 0 5), .slice (some ⟨(Lib.bytesWorld w 5 s).heap.size, 0, none⟩) 2 2]).run Tryd.prog ((Lib.bytesWorld w 5 s).alloc (.cells #[.int .u8 9, .int .u8 9] 5)) = .ok v' w' ∧
      (∃ g cap, Room w.heap.size w' v' (s.data.toList ++ [9, 9]) g cap) ∧ Below w.heap.size w w' := by
  obtain ⟨i, hi, hz, hsize, hby⟩ := info_parts E8.hi
  have ht := Tryd.underlying22
  have hcapg := grownCap_ge w s.size 0 5
  have hcm : grownCap w s.size 0 5 ≤ maxLen := grownCap_le_maxLen w s.size 0 5 (by unfold maxLen; omega)
  have hcs : (Lib.bytesCells w 5 s).size = grownCap w s.size 0 5 := by
    unfold Lib.bytesCells
    simp only [Array.size_append, Array.size_map, Array.size_replicate]
    show s.size + (grownCap w s.size 0 5 - s.size) = _
    omega
  have hs1 := Lib.bytesWorld_size w 5 s
  have hg2 : ((Lib.bytesWorld w 5 s).alloc (.cells #[.int .u8 9, .int .u8 9] 5)).heap[w.heap.size]? = some (.cells (Lib.bytesCells w 5 s) 5 ((Lib.bytesCells w 5 s).size, (Lib.bytesCells w 5 s).size + 1)) := by
    rw [heap_alloc_old _ _ (by omega)]
    exact Lib.bytesWorld_at_new w _ s
  have hb1 : Below w.heap.size w (Lib.bytesWorld w 5 s) := ⟨rfl, rfl, rfl, by omega, fun k hk => Lib.bytesWorld_at_old w _ s k hk⟩
  have hb2 : Below w.heap.size w ((Lib.bytesWorld w 5 s).alloc (.cells #[.int .u8 9, .int .u8 9] 5)) := hb1.alloc (by omega) _
  have hcell : ∀ j (h : j < s.data.toList.length), ((Lib.bytesWorld w 5 s).alloc (.cells #[.int .u8 9, .int .u8 9] 5)).cell? ⟨w.heap.size, j, none⟩ = some (.int .u8 (s.data.toList[j].toNat : Int)) := fun j h => by
    have hj : j < s.size := by simpa [ByteArray.size_data] using h
    have h1 := Lib.bytesWorld_cell w 5 s j hj
    rw [World.cell?_alloc_past _ _ _ (show w.heap.size < _ by omega), h1]
    simp [List.getD_eq_getElem?_getD, List.getElem?_eq_getElem h]
  have hfz : ∀ j, j < grownCap w s.size 0 5 → ((Lib.bytesWorld w 5 s).alloc (.cells #[.int .u8 9, .int .u8 9] 5)).frozen? ⟨w.heap.size, j, none⟩ = false := fun j h => by
    simp only [World.frozen?, hg2, Bool.and_eq_false_iff, decide_eq_false_iff_not]
    left
    omega
  have hsome : ∀ j, j < grownCap w s.size 0 5 → (((Lib.bytesWorld w 5 s).alloc (.cells #[.int .u8 9, .int .u8 9] 5)).cell? ⟨w.heap.size, j, none⟩).isSome = true := fun j h => by
    simp only [World.cell?, hg2]
    simp [hcs, h]
  have hsrc : Src Tryd.prog 1 22 (.slice (some ⟨(Lib.bytesWorld w 5 s).heap.size, 0, none⟩) 2 2) 2 [.int .u8 9, .int .u8 9] ((Lib.bytesWorld w 5 s).alloc (.cells #[.int .u8 9, .int .u8 9] 5)) := src_last (cs := #[.int .u8 9, .int .u8 9]) Tryd.underlying22 2 2 1 rfl rfl (by simp [Value.oneCell'])
  have hlen : (s.data.toList ++ [9, 9]).length = s.size + 2 := by simp [ByteArray.size_data]
  have hlt2 : w.heap.size < ((Lib.bytesWorld w 5 s).alloc (.cells #[.int .u8 9, .int .u8 9] 5)).heap.size := by simp; omega
  generalize (Lib.bytesWorld w 5 s).alloc (.cells #[.int .u8 9, .int .u8 9] 5) = W at *
  generalize grownCap w s.size 0 5 = cap at *
  by_cases hroom : s.size + 2 ≤ cap
  · have hst := run_storeCells_cells (P := Tryd.prog) w.heap.size s.size [.int .u8 9, .int .u8 9] 0 W (fun j hj => hsome _ (by simp at hj; omega)) (fun j hj => hfz _ (by simp at hj; omega)) (by simp [Value.oneCell'])
    rw [Nat.add_zero] at hst
    refine ⟨.slice (some ⟨w.heap.size, 0, none⟩) (s.size + 2) cap, W.setCells w.heap.size s.size [.int .u8 9, .int .u8 9], ?_, ⟨w.heap.size, cap, ⟨by rw [hlen], Nat.le_refl _, ?_, by omega, hcm, fun j hj => ?_, fun j hj => ?_⟩⟩, ?_⟩
    · rcases hsrc.kind with ⟨e', hk⟩ | hk <;> simp [Builtin.append_, run_underlying ht, sizeOf, typeInfo, hi, hsize, hsrc.len, hroom, hsrc.cells, Addr.add_lit, hst]
    · exact Nat.lt_of_lt_of_le hlt2 (setCells_keep _ _ _ _).1.size
    · by_cases hjs : j < s.data.toList.length
      · have hj' : j < s.size := by simpa [ByteArray.size_data] using hjs
        rw [World.cell?_setCells_out _ _ _ _ _ (fun _ _ => .inl hj'), hcell j hjs, List.getElem_append_left hjs]
      · have hsl : s.data.toList.length = s.size := by simp [ByteArray.size_data]
        obtain ⟨k, hk⟩ : ∃ k, j = s.size + k := ⟨j - s.size, by omega⟩
        subst hk
        rw [hlen] at hj
        rw [World.cell?_setCells_in _ _ _ _ (fun j hj => hsome _ (by simp at hj; omega)) k (by simp; omega), List.getElem_append_right (by omega)]
        have hk2 : k = 0 ∨ k = 1 := by omega
        rcases hk2 with rfl | rfl <;> simp [hsl]
    · rw [(setCells_keep _ _ _ _).2]
      exact hfz j (by omega)
    · exact hb2.grown (setCells_keep _ _ _ _).1 hb2.size (fun k hk => by cases hk; exact Nat.le_refl _)
  · have hold := run_firstCells_some (P := Tryd.prog) W.drew 1 s.size ⟨w.heap.size, 0, none⟩ s.size cap (Lib.byteCells s.data.toList) (by simp [Lib.byteCells, ByteArray.size_data]) (fun j u hu => by
      rw [add_plain, Nat.zero_add]
      obtain ⟨hj, e⟩ := List.getElem?_eq_some_iff.1 hu
      have hj' : j < s.data.toList.length := by simpa [Lib.byteCells] using hj
      have := hcell j hj'
      simp only [World.cell?_drew]
      rw [this, ← e]
      simp [Lib.byteCells])
    rw [← hsize] at hold hsrc
    have h63 : ((s.size + 2 : Nat) : Int) ≤ 9223372036854775807 := by omega
    have hr := run_append_grow_src (P := Tryd.prog) W 22 22 ty 5 i (.int .u8 0) ht hi hz (some ⟨w.heap.size, 0, none⟩) s.size cap (Lib.byteCells s.data.toList) hold _ 2 [.int .u8 9, .int .u8 9] hsrc (by omega) h63 (growslice_fits (by omega) (by rw [hby]; omega))
    have hge := grownCap_ge W (s.size + 2) cap 5
    have hcm2 : grownCap W (s.size + 2) cap 5 ≤ maxLen := grownCap_le_maxLen W (s.size + 2) cap 5 (by unfold maxLen; omega)
    have hnew := heap_alloc_new W.drew (.cells ((Lib.byteCells s.data.toList ++ [Value.int .u8 9, Value.int .u8 9]).toArray ++ Builtin.zeroCells (Value.int .u8 0).cells (grownCap W (s.size + 2) cap 5 - (s.size + 2))) 5)
    have hWd : W.drew.heap.size = W.heap.size := rfl
    rw [hWd] at hnew
    refine ⟨_, _, hr, ⟨W.heap.size, _, ⟨by rw [hlen], by omega, by simp, by omega, hcm2, fun j hj => ?_, fun j hj => Lib.frozen_of_heap hnew j⟩⟩, (hb2.drew).alloc (by rw [hWd]; omega) _⟩
    rw [Lib.cell_of_heap hnew]
    have e1 : Lib.byteCells s.data.toList ++ [Value.int .u8 9, Value.int .u8 9] = Lib.byteCells (s.data.toList ++ [9, 9]) := by rw [byteCells_append]; rfl
    rw [e1, Array.getElem?_append_left (by simp [Lib.byteCells]; simp at hj; omega)]
    rw [List.getElem?_toArray, List.getElem?_eq_getElem (by simp [Lib.byteCells]; simp at hj; omega)]
    simp only [Lib.byteCells, List.getElem_map]
end Go.Proofs.YtkgnhimepcihpaaDoor
