/-
  label.Write.
-/
import Derived.Test.YtkgnhimepcihpaaDoorBldA
import Derived.Test.YtkgnhimepcihpaaDoorLabE
namespace Go.Proofs.YtkgnhimepcihpaaDoor
open Go.RowKit

def escB (c : UInt8) : List UInt8 := if c = 34 ∨ c = 92 then [92, c] else if c = 10 then [92, 110] else [c]
def escL (l : List UInt8) : List UInt8 := l.flatMap escB
def wGo : Bool → List Lab → List UInt8
  | _, [] => []
  | f, x :: L => (if f then [] else [44]) ++ (x.1.data.toList ++ ([61, 34] ++ (escL x.2.data.toList ++ ([34] ++ wGo false L))))
/-- A list, written. -/
def writeLab (L : List Lab) : List UInt8 := [123] ++ (wGo true L ++ [125])
theorem wGo_at {L : List Lab} {k : Nat} (h : k < L.length) (f : Bool) : wGo f (L.drop k) = (if f then [] else [44]) ++ (L[k].1.data.toList ++ ([61, 34] ++ (escL L[k].2.data.toList ++ ([34] ++ wGo false (L.drop (k + 1)))))) := by
  rw [List.drop_eq_getElem_cons h]
  rfl
theorem escL_at (s : ByteArray) (j : Nat) (h : j < s.size) : escL (s.data.toList.drop j) = escB s[j] ++ escL (s.data.toList.drop (j + 1)) := by
  rw [drop_byte s j h]
  rfl
theorem escL_len : ∀ l : List UInt8, l.length ≤ (escL l).length
  | [] => by simp
  | c :: l => by
    have ih := escL_len l
    show (c :: l).length ≤ (escB c ++ escL l).length
    have : 1 ≤ (escB c).length := by
      unfold escB
      split
      · simp
      · split <;> simp
    simp only [List.length_cons, List.length_append]
    omega
theorem strCells_eq (s : ByteArray) : Lib.strCells s = Lib.byteCells s.data.toList := by
  simp [Lib.strCells, Lib.byteCells]

theorem sz_eq : (⟨#[61, 34]⟩ : ByteArray).size = 2 := rfl
theorem sz_nl : (⟨#[92, 110]⟩ : ByteArray).size = 2 := rfl
/-- The builder at work; beside it a boxed label, perhaps. -/
structure BSt (w : World) (bx : Option (Nat × Array Value)) (bs : List Value) (W : World) : Prop where
  isB : IsB w.heap.size w.heap.size bs W
  bel : Below w.heap.size w W
  box : ∀ q, bx = some q → W.heap[q.1]? = some (.cells q.2 47 (0, 0)) ∧ q.1 ≠ w.heap.size
theorem bst_byte {w : World} (W : World) (bx : Option (Nat × Array Value)) (bs : List Value) (z : Int) (h : BSt w bx bs W) (hl : bs.length + 1 ≤ 140737488355328) :
    Calls Tryd.prog 64 #[.pointer (some ⟨w.heap.size, 0, none⟩), .int .u8 z] W fun e w' => e = .returned .nilIface ∧ BSt w bx (bs ++ [.int .u8 z]) w' :=
  (b_byte w.heap.size w.heap.size bs z W h.isB hl h.bel.size).mono fun e w' ⟨he, hb, hbel, hk⟩ => ⟨he, .inr hb, h.bel.trans hbel, fun q hq => ⟨hk q.1 _ _ _ (h.box q hq).1 (by decide) (h.box q hq).2, (h.box q hq).2⟩⟩
theorem bst_string {w : World} (W : World) (bx : Option (Nat × Array Value)) (bs : List Value) (s : ByteArray) (h : BSt w bx bs W) (hl : bs.length + s.size ≤ 140737488355328) :
    Calls Tryd.prog 65 #[.pointer (some ⟨w.heap.size, 0, none⟩), .string s] W fun e w' => e = .returned (.tuple #[.int .i64 s.size, .nilIface]) ∧ BSt w bx (bs ++ Lib.strCells s) w' :=
  (b_string w.heap.size w.heap.size bs s W h.isB hl h.bel.size).mono fun e w' ⟨he, hb, hbel, hk⟩ => ⟨he, .inr hb, h.bel.trans hbel, fun q hq => ⟨hk q.1 _ _ _ (h.box q hq).1 (by decide) (h.box q hq).2, (h.box q hq).2⟩⟩
theorem BSt.cells {w W : World} {n : Nat} {a b : Value} {bs : List Value} (h : BSt w (some (n, #[a, b])) bs W) : W.cell? ⟨n, 0, none⟩ = some a ∧ W.cell? ⟨n, 1, none⟩ = some b := by
  have := (h.box _ rfl).1
  exact ⟨by rw [Lib.cell_of_heap this]; rfl, by rw [Lib.cell_of_heap this]; rfl⟩
theorem BSt.boxed {w W : World} {bx : Option (Nat × Array Value)} {bs : List Value} (h : BSt w bx bs W) (a b : Value) : BSt w (some (W.heap.size, #[a, b])) bs (W.alloc (.cells #[a, b] 47)) :=
  ⟨isB_alloc h.isB _, h.bel.alloc h.bel.size _, fun q hq => by
    cases hq
    have h2 := h.isB
    have hlt : w.heap.size < W.heap.size := by
      rcases h2 with h2 | h2
      · exact h2.lt
      · exact h2.lt
    exact ⟨heap_alloc_new _ _, by simp only; omega⟩⟩
theorem BSt.drop {w W : World} {bx : Option (Nat × Array Value)} {bs : List Value} (h : BSt w bx bs W) : BSt w none bs W := ⟨h.isB, h.bel, fun q hq => by cases hq⟩
theorem BSt.as {w W : World} {bx : Option (Nat × Array Value)} {bs : List Value} {l : List UInt8} (h : BSt w bx bs W) (e : bs = Lib.byteCells l) : BSt w bx (Lib.byteCells l) W := e ▸ h

theorem mk_hsx {w W : World} {bx : Option (Nat × Array Value)} {acc pre x1 E T R : List UInt8} {bs : List Value} (h : acc ++ (pre ++ (x1 ++ ([61, 34] ++ (E ++ ([34] ++ T)))) ++ [125]) = R) (hb : BSt w bx bs W) (e : bs = Lib.byteCells (acc ++ (pre ++ (x1 ++ [61, 34])))) :
    ∃ a : List UInt8, BSt w bx (Lib.byteCells a) W ∧ a ++ (E ++ ([34] ++ (T ++ [125]))) = R := ⟨_, hb.as e, by rw [← h]; simp⟩
theorem esc_cases (c : UInt8) : ((c = 34 ∨ c = 92) ∧ escB c = [92, c]) ∨ (c = 10 ∧ escB c = [92, 110]) ∨ (c ≠ 34 ∧ c ≠ 92 ∧ c ≠ 10 ∧ escB c = [c]) := by
  unfold escB
  by_cases h1 : c = 34 ∨ c = 92
  · exact .inl ⟨h1, by rw [if_pos h1]⟩
  · by_cases h2 : c = 10
    · exact .inr (.inl ⟨h2, by rw [if_neg h1, if_pos h2]⟩)
    · exact .inr (.inr ⟨fun e => h1 (.inl e), fun e => h1 (.inr e), h2, by rw [if_neg h1, if_neg h2]⟩)

set_option maxRecDepth 100000 in
set_option maxHeartbeats 8000000 in
theorem label_Write (v : Value) (L : List Lab) (w : World) (h : LRow w v L) (hlen : (writeLab L).length ≤ 1099511627776) :
    Calls Tryd.prog 35 #[v] w fun e w' => e = .returned (.string ⟨(writeLab L).toArray⟩) ∧ Below w.heap.size w w' := by
  obtain ⟨aa, ca, rfl, hca, hca2⟩ := h.shape
  unfold maxLen at hca2
  have HA := Lib.hid h
  clear h
  obtain ⟨R, hR⟩ : ∃ R, writeLab L = R := ⟨_, rfl⟩
  rw [hR] at hlen ⊢
  have HR := Lib.hid hR
  clear hR
  have cB := Lib.hid (fun W bx bs z h hl => bst_byte (w := w) W bx bs z h hl)
  have cS := Lib.hid (fun W bx bs s h hl => bst_string (w := w) W bx bs s h hl)
  have hst0 : BSt w none [] (w.alloc (.cells #[.pointer none, .slice none 0 0] 92)) := ⟨isB_new w, (Below.refl _ _).alloc (Nat.le_refl _) _, fun q hq => by cases hq⟩
  go_enter Tryd.func35, Tryd.ntmps35
  go_upto_region 2 with fail
  generalize w.alloc (.cells #[.pointer none, .slice none 0 0] 92) = w1 at *
  go_wp2_with (go_at_call 64; refine (cB.out _ _ _ _ (by assumption) (by simp)).mono ?_; rintro e w2 ⟨rfl, hst2⟩)
  go_loopw [11] (fun iv wr => ∃ (k : Nat) (acc : List UInt8), iv = .int .i64 k ∧ k ≤ L.length ∧ acc ++ (wGo (decide (k = 0)) (L.drop k) ++ [125]) = R ∧ BSt w none (Lib.byteCells acc) wr) (fun iv _ => L.length - (intOf iv).toNat)
  case atStart => exact ⟨0, [123], rfl, Nat.zero_le _, HR.out, hst2.as rfl⟩
  case round =>
    obtain ⟨k, acc, rfl, hk, hacc, hst⟩ := hrel
    by_cases hlt : k < L.length
    · obtain ⟨ba, oa, rfl, hba, ga1, ga2⟩ := HA.out.at hlt
      have hbr := hst.bel
      have g1 : wr.cell? ⟨ba, oa + k * 2, none⟩ = some (.string L[k].1) := by rw [hbr.cell (p := ⟨ba, _, none⟩) hba]; exact ga1
      have g2 : wr.cell? ⟨ba, oa + k * 2 + 1, none⟩ = some (.string L[k].2) := by rw [hbr.cell (p := ⟨ba, _, none⟩) hba]; exact ga2
      rw [wGo_at hlt] at hacc
      have HT : wGo false (L.drop (k + 1)) = wGo (decide (k + 1 = 0)) (L.drop (k + 1)) := rfl
      obtain ⟨T, hTd⟩ : ∃ T, wGo false (L.drop (k + 1)) = T := ⟨_, rfl⟩
      rw [hTd] at HT hacc
      have HTT := Lib.hid HT
      clear HT hTd ga1 ga2 hbr
      generalize L[k] = x at *
      obtain ⟨x1, x2⟩ := x
      simp only at *
      obtain ⟨pre, hpre, hcase⟩ : ∃ pre : List UInt8, (if decide (k = 0) = true then ([] : List UInt8) else [44]) = pre ∧ ((k = 0 ∧ pre = []) ∨ (0 < k ∧ pre = [44])) := by
        by_cases h : k = 0
        · exact ⟨[], by simp [h], .inl ⟨h, rfl⟩⟩
        · exact ⟨[44], by simp [h], .inr ⟨by omega, rfl⟩⟩
      rw [hpre] at hacc
      have hln := congrArg List.length hacc
      simp only [List.length_append, List.length_cons, List.length_nil] at hln
      have hx1 : x1.data.toList.length = x1.size := by simp [ByteArray.size_data]
      have hx2 : x2.data.toList.length = x2.size := by simp [ByteArray.size_data]
      have hesc := escL_len x2.data.toList
      have hlb : acc.length + x1.size + 8 ≤ 1099511627784 := by omega
      have hlb2 : x2.size ≤ 1099511627776 := by omega
      clear hesc
      have HACC := Lib.hid hacc
      have hbx := hst.boxed (.string x1) (.string x2)
      clear hacc hpre hln hst
      have i0 : (0 : Int) ≤ (k : Int) := by omega
      have i1 : (k : Int) < (L.length : Int) := by omega
      go_upto_region 6 with fail
      generalize wr.alloc (.cells #[.string x1, .string x2] 47) = w2 at *
      generalize wr.heap.size = n at *
      clear g1 g2
      obtain ⟨q0, q1⟩ := hbx.cells
      rcases hcase with ⟨hk0, rfl⟩ | ⟨hk0, rfl⟩
      all_goals
        have hkt : (0 : Int) < (k : Int) ∨ ¬ (0 : Int) < (k : Int) := by omega
        first
          | (have hkp : (0 : Int) < (k : Int) := by omega)
          | (have hkp : ¬ (0 : Int) < (k : Int) := by omega)
        first
          | (have hkq : 0 < k := by omega)
          | (have hkq : ¬ 0 < k := by omega)
        clear hkt
        go_upto_region 10 with (first | (go_at_call 64; refine (cB.out _ _ _ _ (by assumption) (by simp [Lib.byteCells_length, Lib.strCells_length, sz_eq, sz_nl]; omega)).mono ?_; rintro e w3 ⟨rfl, hsa⟩; obtain ⟨s0, s1⟩ := hsa.cells) | (go_at_call 65; refine (cS.out _ _ _ _ (by assumption) (by simp [Lib.byteCells_length, Lib.strCells_length, sz_eq, sz_nl]; omega)).mono ?_; rintro e w4 ⟨rfl, hsb⟩; obtain ⟨r0, r1⟩ := hsb.cells))
        obtain ⟨a0, hsx, hRx⟩ := mk_hsx HACC.out hsb (by simp [Lib.byteCells, strCells_eq])
        obtain ⟨z0, z1⟩ := hsx.cells
        have HRX := Lib.hid hRx
        clear hsb hRx HACC q0 q1
        go_wp2
        go_loopw [26] (fun iv wr => ∃ (j : Nat) (a : List UInt8), iv = .int .i64 j ∧ j ≤ x2.size ∧ a ++ (escL (x2.data.toList.drop j) ++ ([34] ++ (T ++ [125]))) = R ∧ BSt w (some (n, #[.string x1, .string x2])) (Lib.byteCells a) wr) (fun iv _ => x2.size - (intOf iv).toNat)
        case atStart => exact ⟨0, a0, rfl, Nat.zero_le _, HRX.out, hsx⟩
        case round =>
          obtain ⟨j, a, rfl, hj, ha, hst⟩ := hrel
          obtain ⟨p0, p1⟩ := hst.cells
          have hla := congrArg List.length ha
          simp only [List.length_append, List.length_cons, List.length_nil] at hla
          have hal : a.length + 8 ≤ 1099511627784 := by omega
          clear hla
          by_cases hjl : j < x2.size
          · have hes := escL_at x2 j hjl
            rw [hes] at ha
            have j0 : (0 : Int) ≤ (j : Int) := by omega
            have j1 : (j : Int) < (x2.size : Int) := by omega
            obtain ⟨c, hc⟩ : ∃ c, x2[j] = c := ⟨_, rfl⟩
            rw [hc] at ha
            have HAA := Lib.hid ha
            clear ha hes
            have k34 : c.toNat = 34 ↔ c = 34 := ⟨fun h => UInt8.toNat_inj.1 h, fun h => by rw [h]; rfl⟩
            have k92 : c.toNat = 92 ↔ c = 92 := ⟨fun h => UInt8.toNat_inj.1 h, fun h => by rw [h]; rfl⟩
            have k10 : c.toNat = 10 ↔ c = 10 := ⟨fun h => UInt8.toNat_inj.1 h, fun h => by rw [h]; rfl⟩
            rcases esc_cases c with ⟨hcc, he⟩ | ⟨hcc, he⟩ | ⟨n34, n92, n10, he⟩
            · rw [he] at HAA
              rcases hcc with rfl | rfl
              all_goals
                clear k34 k92 k10 he
                go_wp2_with (first | (go_at_call 64; refine (cB.out _ _ _ _ (by assumption) (by simp [Lib.byteCells_length, Lib.strCells_length, sz_eq, sz_nl]; omega)).mono ?_; rintro e w3 ⟨rfl, hsa⟩; obtain ⟨s0, s1⟩ := hsa.cells) | (go_at_call 65; refine (cS.out _ _ _ _ (by assumption) (by simp [Lib.byteCells_length, Lib.strCells_length, sz_eq, sz_nl]; omega)).mono ?_; rintro e w4 ⟨rfl, hsb⟩; obtain ⟨r0, r1⟩ := hsb.cells))
                go_roundw
                case rel => exact ⟨j + 1, a ++ [92, x2[j]], by go_num, by omega, by rw [← HAA.out]; simp [hc], hsa.as (by simp [Lib.byteCells, hc])⟩
                case measure => simp [intOf]; omega
            · rw [he] at HAA
              subst hcc
              clear k34 k92 k10 he
              go_wp2_with (first | (go_at_call 64; refine (cB.out _ _ _ _ (by assumption) (by simp [Lib.byteCells_length, Lib.strCells_length, sz_eq, sz_nl]; omega)).mono ?_; rintro e w3 ⟨rfl, hsa⟩; obtain ⟨s0, s1⟩ := hsa.cells) | (go_at_call 65; refine (cS.out _ _ _ _ (by assumption) (by simp [Lib.byteCells_length, Lib.strCells_length, sz_eq, sz_nl]; omega)).mono ?_; rintro e w4 ⟨rfl, hsb⟩; obtain ⟨r0, r1⟩ := hsb.cells))
              go_roundw
              case rel => exact ⟨j + 1, a ++ [92, 110], by go_num, by omega, by rw [← HAA.out]; simp, hsb.as (by simp [Lib.byteCells, strCells_eq])⟩
              case measure => simp [intOf]; omega
            · rw [he] at HAA
              have m34 : c.toNat ≠ 34 := fun h => n34 (k34.1 h)
              have m92 : c.toNat ≠ 92 := fun h => n92 (k92.1 h)
              have m10 : c.toNat ≠ 10 := fun h => n10 (k10.1 h)
              have e34 : ((c.toNat : Int) == 34) = false := by simp; omega
              have e92 : ((c.toNat : Int) == 92) = false := by simp; omega
              have e10 : ((c.toNat : Int) == 10) = false := by simp; omega
              clear he k34 k92 k10 n34 n92 n10 m34 m92 m10
              go_wp2_with (first | (go_at_call 64; refine (cB.out _ _ _ _ (by assumption) (by simp [Lib.byteCells_length, Lib.strCells_length, sz_eq, sz_nl]; omega)).mono ?_; rintro e w3 ⟨rfl, hsa⟩; obtain ⟨s0, s1⟩ := hsa.cells) | (go_at_call 65; refine (cS.out _ _ _ _ (by assumption) (by simp [Lib.byteCells_length, Lib.strCells_length, sz_eq, sz_nl]; omega)).mono ?_; rintro e w4 ⟨rfl, hsb⟩; obtain ⟨r0, r1⟩ := hsb.cells))
              go_roundw
              case rel => exact ⟨j + 1, a ++ [c], by go_num, by omega, by rw [← HAA.out]; simp, hsa.as (by simp [Lib.byteCells])⟩
              case measure => simp [intOf]; omega
          · have hje : j = x2.size := by omega
            rw [List.drop_of_length_le (by omega)] at ha
            have j1 : ¬ (j : Int) < (x2.size : Int) := by omega
            have HAA := Lib.hid ha
            clear ha
            go_wp2_with (first | (go_at_call 64; refine (cB.out _ _ _ _ (by assumption) (by simp [Lib.byteCells_length, Lib.strCells_length, sz_eq, sz_nl]; omega)).mono ?_; rintro e w3 ⟨rfl, hsa⟩; obtain ⟨s0, s1⟩ := hsa.cells) | (go_at_call 65; refine (cS.out _ _ _ _ (by assumption) (by simp [Lib.byteCells_length, Lib.strCells_length, sz_eq, sz_nl]; omega)).mono ?_; rintro e w4 ⟨rfl, hsb⟩; obtain ⟨r0, r1⟩ := hsb.cells))
            go_roundw
            case rel => exact ⟨k + 1, a ++ [34], by go_num, by omega, by rw [← HTT.out, ← HAA.out]; simp [escL], (hsa.drop).as (by simp [Lib.byteCells])⟩
            case measure => simp [intOf]; omega
    · have hke : k = L.length := by omega
      have i1 : ¬ (k : Int) < (L.length : Int) := by omega
      rw [List.drop_of_length_le (by omega)] at hacc
      have hln := congrArg List.length hacc
      simp only [List.length_append, List.length_cons, List.length_nil] at hln
      have hal : acc.length + 1 ≤ 1099511627776 := by omega
      have HAA := Lib.hid hacc
      clear hacc hln
      go_wp2_with (first | (go_at_call 64; refine (cB.out _ _ _ _ (by assumption) (by simp [Lib.byteCells_length]; omega)).mono ?_; rintro e w3 ⟨rfl, hsa⟩; have hfin := hsa.as (l := R) (by rw [← HAA.out]; simp [wGo, Lib.byteCells])) | (go_at_call 66; refine (Tryd.Builder_String_any w.heap.size w.heap.size R _ hfin.isB hfin.bel.size).mono ?_; rintro e w4 ⟨rfl, hb4⟩))
      go_ret
      exact ⟨rfl, hfin.bel.trans hb4⟩
end Go.Proofs.YtkgnhimepcihpaaDoor
