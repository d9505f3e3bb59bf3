/-
  The contracts of reply.words, reply.lines, reply.Stream, reply.Last.
-/
import Derived.Test.YtknoimflimhcgaaDoorRepE
import Derived.Lib.SlBytesConst
namespace Go.Proofs.YtknoimflimhcgaaDoor
open Go.RowKit

/-- A status's words. -/
def wordsOf (n : Int) : Byt :=
  if n = 200 then [79, 75] else
  if n = 400 then [66, 97, 100, 32, 82, 101, 113, 117, 101, 115, 116] else
  if n = 404 then [78, 111, 116, 32, 70, 111, 117, 110, 100] else
  if n = 405 then [77, 101, 116, 104, 111, 100, 32, 78, 111, 116, 32, 65, 108, 108, 111, 119, 101, 100] else
  if n = 413 then [67, 111, 110, 116, 101, 110, 116, 32, 84, 111, 111, 32, 76, 97, 114, 103, 101] else
  if n = 431 then [82, 101, 113, 117, 101, 115, 116, 32, 72, 101, 97, 100, 101, 114, 32, 70, 105, 101, 108, 100, 115, 32, 84, 111, 111, 32, 76, 97, 114, 103, 101] else
  if n = 507 then [73, 110, 115, 117, 102, 102, 105, 99, 105, 101, 110, 116, 32, 83, 116, 111, 114, 97, 103, 101] else
  []
theorem wordsOf_cases (n : Int) : n = 200 ∨ n = 400 ∨ n = 404 ∨ n = 405 ∨ n = 413 ∨ n = 431 ∨ n = 507 ∨ (n ≠ 200 ∧ n ≠ 400 ∧ n ≠ 404 ∧ n ≠ 405 ∧ n ≠ 413 ∧ n ≠ 431 ∧ n ≠ 507) := by omega

set_option maxRecDepth 100000 in
set_option maxHeartbeats 4000000 in
theorem reply_words (n : Int) (w : World) : Calls Tryd.prog 19 #[.int .i64 n] w fun e w' => e = .returned (.string ⟨(wordsOf n).toArray⟩) ∧ w = w' := by
  rcases wordsOf_cases n with rfl | rfl | rfl | rfl | rfl | rfl | rfl | ⟨h1, h2, h3, h4, h5, h6, h7⟩
  · go_enter Tryd.func19, Tryd.ntmps19
    go_wp2
    go_ret
    exact ⟨rfl, rfl⟩
  · go_enter Tryd.func19, Tryd.ntmps19
    go_wp2
    go_ret
    exact ⟨rfl, rfl⟩
  · go_enter Tryd.func19, Tryd.ntmps19
    go_wp2
    go_ret
    exact ⟨rfl, rfl⟩
  · go_enter Tryd.func19, Tryd.ntmps19
    go_wp2
    go_ret
    exact ⟨rfl, rfl⟩
  · go_enter Tryd.func19, Tryd.ntmps19
    go_wp2
    go_ret
    exact ⟨rfl, rfl⟩
  · go_enter Tryd.func19, Tryd.ntmps19
    go_wp2
    go_ret
    exact ⟨rfl, rfl⟩
  · go_enter Tryd.func19, Tryd.ntmps19
    go_wp2
    go_ret
    exact ⟨rfl, rfl⟩
  · have hw : wordsOf n = [] := by simp [wordsOf, h1, h2, h3, h4, h5, h6, h7]
    rw [hw]
    have e1 : (n == 200) = false := by simpa using h1
    have e2 : (n == 400) = false := by simpa using h2
    have e3 : (n == 404) = false := by simpa using h3
    have e4 : (n == 405) = false := by simpa using h4
    have e5 : (n == 413) = false := by simpa using h5
    have e6 : (n == 431) = false := by simpa using h6
    have e7 : (n == 507) = false := by simpa using h7
    clear hw h1 h2 h3 h4 h5 h6 h7
    go_enter Tryd.func19, Tryd.ntmps19
    go_wp2
    go_ret
    exact ⟨rfl, rfl⟩

/-- Lines, each with its end, and an empty one. -/
def lineOf (s : Byt) : Byt := if s = [] then [] else s ++ [13, 10]
def linesOf (L : List Byt) : Byt := L.flatMap lineOf ++ [13, 10]
theorem strV_byteCells (l : Byt) : Go.byteCells ⟨l.toArray⟩ = Lib.byteCells l := by
  simp [Go.byteCells, Lib.byteCells]
theorem src_str {P : Program} {tx : TypeId} (hk : P.underlying tx = some .string) (l : Byt) (w : World) : Src P 1 tx (.string ⟨l.toArray⟩) l.length (Lib.byteCells l) w := by
  have h := Src.ofString (P := P) (w := w) hk ⟨l.toArray⟩
  rw [strV_byteCells] at h
  simpa [ByteArray.size] using h
def strVal (l : Byt) : Value := .string ⟨l.toArray⟩
theorem str_ne (l : Byt) : l.isEmpty = decide (l = []) := by
  cases l <;> rfl

set_option maxRecDepth 100000 in
set_option maxHeartbeats 4000000 in
theorem reply_lines (va : Value) (L : List Byt) (w : World) (hrow : argRow w va L.length 1 (L.map strVal)) (hL : L.length ≤ 1000000) (hlen : (linesOf L).length ≤ 2000000000) :
    Calls Tryd.prog 20 #[va] w fun e w' => ∃ v, e = .returned v ∧ Part w' w.heap.size v (linesOf L) ∧ Below w.heap.size w w' := by
  have E8 : ElemT Tryd.prog 22 5 (.int .u8 0) 1 1 := ⟨Tryd.underlying22, info_u8', rfl, by decide⟩
  have HROW := Lib.hid hrow
  obtain ⟨_, a0, cap, rfl, hlc, hcm, hc⟩ := hrow
  clear hc
  obtain ⟨R, hR⟩ : ∃ R, linesOf L = R := ⟨_, rfl⟩
  rw [hR] at hlen ⊢
  have HR := Lib.hid hR
  clear hR
  go_enter Tryd.func20, Tryd.ntmps20
  go_wp2
  go_loopw [3, 8] (fun v i wr => ∃ (k : Nat) (X : Byt), i = .int .i64 k ∧ k ≤ L.length ∧ (L.take k).flatMap lineOf = X ∧ Part wr w.heap.size v X ∧ Below w.heap.size w wr) (fun _ i _ => L.length - (intOf i).toNat)
  case atStart => exact ⟨0, [], rfl, Nat.zero_le _, rfl, World.ownsRow_nil _ _ _ _, Below.refl _ _⟩
  case round =>
    obtain ⟨k, X, rfl, hk, hX, hown, hbr⟩ := hrel
    have HX := Lib.hid hX
    clear hX
    unfold Part at hown
    have hszr := hbr.size
    by_cases hlt : k < L.length
    · obtain ⟨b, off, rfl, hbl, hcs⟩ : ∃ b off, a0 = some ⟨b, off, none⟩ ∧ b < w.heap.size ∧ ∀ j (h : j < (L.map strVal).length), w.cell? ⟨b, off + j, none⟩ = some (L.map strVal)[j] := by
        obtain ⟨_, a, c, e, _, _, hc⟩ := HROW.out
        cases e
        obtain ⟨b, off, e, h1, h2⟩ := hc (by omega)
        exact ⟨b, off, e, h1, h2⟩
      have c1 := hcs k (by simpa using hlt)
      rw [List.getElem_map, ← hbr.cell (p := ⟨b, _, none⟩) hbl] at c1
      unfold strVal at c1
      have htk : (L.take (k + 1)).flatMap lineOf = X ++ lineOf L[k] := by
        rw [List.take_succ_eq_append_getElem hlt, List.flatMap_append, HX.out]
        simp
      have hpre : (X ++ lineOf L[k]).length + 2 ≤ R.length := by
        rw [← htk, ← HR.out, linesOf, List.length_append]
        have : (L.take (k + 1)).flatMap lineOf <+: L.flatMap lineOf := by
          conv => rhs; rw [← List.take_append_drop (k + 1) L]
          rw [List.flatMap_append]
          exact List.prefix_append _ _
        have := this.length_le
        simp only [List.length_cons, List.length_nil]
        omega
      have HTK := Lib.hid htk
      clear htk hcs
      generalize L[k] = x at *
      have i1 : (0 : Int) ≤ (k : Int) := by omega
      have i2 : (k : Int) < (L.length : Int) := by omega
      have hne := str_ne x
      by_cases hx : x = []
      · rw [decide_eq_true hx] at hne
        have hl0 : lineOf x = [] := if_pos hx
        rw [hl0, List.append_nil] at HTK
        clear hx hl0 hpre
        go_wp2
        go_roundw
        case rel => exact ⟨k + 1, X, by go_num, by omega, HTK.out, hown, hbr⟩
        case measure => simp [intOf]; omega
      · rw [decide_eq_false hx] at hne
        have hl0 : lineOf x = x ++ [13, 10] := if_neg hx
        rw [hl0] at HTK hpre
        simp only [List.length_append, List.length_cons, List.length_nil] at hpre
        clear hx hl0
        go_wp2_with (first | (at_builtin; refine wpList_append_src rfl _ (.tmp 15) _ _ rfl w.heap.size E8 _ _ _ rfl hown _ x.length (Lib.byteCells x) rfl (by exact src_str Tryd.underlying9 x _) (by unfold maxLen; omega) (by omega) (by omega) ?_; intro v1 w1 hown1 hgr1 _ _; have hsz1 := hgr1.size) | (at_builtin; refine wpList_append_src rfl (.tmp 16) _ _ _ rfl w.heap.size E8 _ _ _ rfl hown1 _ 2 (Lib.byteCells [13, 10]) rfl (by exact src_str Tryd.underlying9 [13, 10] _) (by unfold maxLen; omega) (by omega) (by omega) ?_; intro v2 w2 hown2 hgr2 _ _))
        go_roundw
        case rel =>
          refine ⟨k + 1, X ++ (x ++ [13, 10]), by go_num, by omega, HTK.out, ?_, (hbr.grown hgr1 hszr (fun j hj => (hown.lt j hj).1)).grown hgr2 (by omega) (fun j hj => (hown1.lt j hj).1)⟩
          unfold Part
          have e : (X ++ (x ++ [13, 10])).length = X.length + x.length + 2 := by simp only [List.length_append, List.length_cons, List.length_nil]; omega
          rw [e, byteCells_append, byteCells_append, ← List.append_assoc]
          exact hown2
        case measure => simp [intOf]; omega
    · have hkL : k = L.length := by omega
      have hfin : X ++ [13, 10] = R := by
        have hX := HX.out
        rw [hkL, List.take_length] at hX
        rw [← HR.out, ← hX]
        rfl
      have hlX : X.length + 2 = R.length := by rw [← hfin]; simp
      have hq1 : ¬ (k : Int) < (L.length : Int) := by omega
      have HFIN := Lib.hid hfin
      clear hfin hkL
      go_wp2_with (at_builtin; refine wpList_append_src rfl (.tmp 19) _ _ _ rfl w.heap.size E8 _ _ _ rfl hown _ 2 (Lib.byteCells [13, 10]) rfl (by exact src_str Tryd.underlying9 [13, 10] _) (by unfold maxLen; omega) (by omega) (by omega) ?_; intro v2 w2 hown2 hgr2 _ _)
      go_ret
      refine ⟨_, rfl, ?_, hbr.grown hgr2 hszr (fun j hj => (hown.lt j hj).1)⟩
      unfold Part
      rw [← HFIN.out, byteCells_append, List.length_append]
      exact hown2

/-- A constant's bytes, as a conversion lays them. -/
theorem row_marked {e : TypeId} {f : Nat × Nat} (w : World) (l : Byt) (hl : l.length ≤ maxLen := by decide) : argRow (w.alloc (.cells (Lib.byteCells l).toArray e f)) (.slice (some ⟨w.heap.size, 0, none⟩) l.length l.length) l.length 1 (Lib.byteCells l) := by
  refine ⟨by simp [Lib.byteCells], _, _, rfl, Nat.le_refl _, hl, fun _ => ⟨_, 0, rfl, by simp, fun j hj => ?_⟩⟩
  rw [Nat.zero_add, cell_of_row _ w.heap.size j _ e f (heap_alloc_new _ _)]
  simp [List.getElem?_eq_getElem hj]
def lastB : Byt := [48, 13, 10, 13, 10]
set_option maxRecDepth 100000 in
theorem reply_Last (w : World) : Calls Tryd.prog 13 #[] w fun e w' => ∃ v, e = .returned v ∧ argRow w' v 5 1 (Lib.byteCells lastB) ∧ Below w.heap.size w w' := by
  have hcv := fun (w : World) (C : Array Value) (n c : Nat) => Lib.run_convert_bytes_const (P := Tryd.prog) w 22 5 C n c Tryd.underlying22 Tryd.underlying5
  go_enter Tryd.func13, Tryd.ntmps13
  go_wp2
  go_ret
  exact ⟨_, rfl, row_marked w lastB, (Below.refl _ _).alloc (Nat.le_refl _) _⟩

def streamL : List Byt := [[72, 84, 84, 80, 47, 49, 46, 49, 32, 50, 48, 48, 32, 79, 75], [67, 111, 110, 116, 101, 110, 116, 45, 84, 121, 112, 101, 58, 32, 97, 112, 112, 108, 105, 99, 97, 116, 105, 111, 110, 47, 106, 115, 111, 110], [84, 114, 97, 110, 115, 102, 101, 114, 45, 69, 110, 99, 111, 100, 105, 110, 103, 58, 32, 99, 104, 117, 110, 107, 101, 100], [67, 111, 110, 110, 101, 99, 116, 105, 111, 110, 58, 32, 99, 108, 111, 115, 101]]
set_option maxRecDepth 100000 in
set_option maxHeartbeats 1000000 in
theorem reply_Stream (w : World) : Calls Tryd.prog 15 #[] w fun e w' => ∃ v, e = .returned v ∧ Part w' w.heap.size v (linesOf streamL) ∧ Below w.heap.size w w' := by
  have cL := fun o => reply_lines (.slice (some ⟨w.heap.size, 0, none⟩) 4 4) streamL (w.alloc o)
  go_enter Tryd.func15, Tryd.ntmps15
  go_wp2_with (go_at_call 20; refine (cL _ (argRow_owns (owns_new w _ _ 4 rfl (by decide))) (by decide) (by decide)).mono ?_; rintro e w1 ⟨v, rfl, hp, hb⟩)
  go_ret
  refine ⟨_, rfl, owns_base hp (by simp), ((Below.refl _ _).alloc (Nat.le_refl _) _).trans (hb.mono (by simp))⟩
end Go.Proofs.YtknoimflimhcgaaDoor
