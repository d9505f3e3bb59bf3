/-
  What an answer is, and the contract of reply.Write.
-/
import Derived.Test.YtknoimflimhcgaaDoorRepI
import Derived.Test.YtknoimflimhcgaaDoorShelf
import Derived.Lib.AppendIntMem
import Derived.Deep.RegionHeld3
import Derived.Deep.DeepCutAuto
namespace Go.Proofs.YtknoimflimhcgaaDoor
open Go.RowKit

def bH : Byt := [72, 84, 84, 80, 47, 49, 46, 49, 32]
def bCT : Byt := [67, 111, 110, 116, 101, 110, 116, 45, 84, 121, 112, 101, 58, 32, 97, 112, 112, 108, 105, 99, 97, 116, 105, 111, 110, 47, 106, 115, 111, 110]
def bCL : Byt := [67, 111, 110, 116, 101, 110, 116, 45, 76, 101, 110, 103, 116, 104, 58, 32]
def bCC : Byt := [67, 111, 110, 110, 101, 99, 116, 105, 111, 110, 58, 32, 99, 108, 111, 115, 101]
/-- An answer's lines; the answer. -/
def headOf (st : Int) (n : Nat) (cl : Bool) : List Byt := [bH ++ Lib.itoa st ++ [32] ++ wordsOf st, bCT, bCL ++ Lib.itoa n, if cl then bCC else []]
def writeOf (st : Int) (body : Byt) (cl : Bool) : Option Byt := if wordsOf st = [] then none else some (linesOf (headOf st body.length cl) ++ body)
/-- What the variables that strconv reads hold. -/
structure Tabs27 (w : World) : Prop where
  t16 : Tab16 w
  p10 : Lib.TabBelow Tryd.prog w.heap.size w "internal/strconv.uint64pow10" .u64 Lib.pow10Tab
theorem Tabs27.below {w w' : World} (h : Tabs27 w) (hb : Below w.heap.size w w') : Tabs27 w' := by
  refine ⟨?_, fun w2 h2 => h.p10 w2 (hb.trans (h2.mono hb.size))⟩
  have h1 := h.t16
  unfold Tab16 at h1 ⊢
  rw [hb.cell (p := ⟨_, _, none⟩) (World.block_lt_of_cell? w _ h1)]
  exact h1
theorem below_grown (w : World) (k : Nat) (os : Array Obj) : Below w.heap.size w (Go.Sort.grow (w.drewN k) os) := by
  refine ⟨rfl, rfl, rfl, by simp [Go.Sort.grow, World.drewN], fun i hi => ?_⟩
  simp only [Go.Sort.grow, World.drewN]
  rw [Array.getElem?_append_left hi]
theorem itoa_call (n : Int) (w : World) (h0 : -9223372036854775808 ≤ n) (h1 : n ≤ 9223372036854775807) (hT : Tabs27 w) :
    Calls Tryd.prog 21 #[.int .i64 n] w fun e w' => e = .returned (.string ⟨(Lib.itoa n).toArray⟩) ∧ Below w.heap.size w w' :=
  (Tryd.strconv_Itoa n h0 h1 w hT.p10.here).mono fun e w' ⟨he, k, os, hw⟩ => ⟨he, by rw [hw]; exact below_grown w k os⟩
theorem conv_arg {w : World} {v : Value} {l : Byt} (h : argRow w v l.length 1 (Lib.byteCells l)) : (convert 22 9 v).run Tryd.prog w = .ok (.string ⟨l.toArray⟩) w := by
  by_cases h0 : l = []
  · subst h0
    obtain ⟨_, a, cap, rfl, _⟩ := h
    exact conv_nil Tryd.underlying22 Tryd.underlying5 Tryd.underlying9
  · obtain ⟨b, off, cap, rfl, _, _, _, hc⟩ := cellB h (List.length_pos_iff.2 h0)
    exact conv_cells Tryd.underlying22 Tryd.underlying5 Tryd.underlying9 hc
theorem words_len (n : Int) : (wordsOf n).length ≤ 40 := by
  rcases wordsOf_cases n with rfl | rfl | rfl | rfl | rfl | rfl | rfl | ⟨h1, h2, h3, h4, h5, h6, h7⟩
  all_goals first | decide | (simp [wordsOf, h1, h2, h3, h4, h5, h6, h7])
theorem words_some {n : Int} (h : wordsOf n ≠ []) : 200 ≤ n ∧ n ≤ 507 := by
  rcases wordsOf_cases n with rfl | rfl | rfl | rfl | rfl | rfl | rfl | ⟨h1, h2, h3, h4, h5, h6, h7⟩
  all_goals first | decide | (exact absurd (by simp [wordsOf, h1, h2, h3, h4, h5, h6, h7]) h)
/-- What writing an answer comes to. -/
def WriteEnd (r : Option Byt) (B : Nat) (w' : World) (e : Ending) : Prop := match r with
  | none => e = .returned (.tuple #[.slice none 0 0, .int .i64 1])
  | some b => ∃ v, e = .returned (.tuple #[v, .int .i64 0]) ∧ Part w' B v b

theorem belowA {a W : World} {o : Obj} (h : Below a.heap.size a W) : Below a.heap.size a (W.alloc o) := h.alloc h.size o
theorem keep27 {a W : World} {p q : World → Prop} (h : ∀ W, Below a.heap.size a W → p W ∧ q W) (hb : Below a.heap.size a W) : p W ∧ q W ∧ Below a.heap.size a W := ⟨(h W hb).1, (h W hb).2, hb⟩
theorem linesOf_four (a b c d : Byt) (ha : a ≠ []) (hb : b ≠ []) (hc : c ≠ []) : linesOf [a, b, c, d] = a ++ [13, 10] ++ b ++ [13, 10] ++ c ++ [13, 10] ++ lineOf d ++ [13, 10] := by
  simp [linesOf, lineOf, ha, hb, hc, List.append_assoc]

set_option maxRecDepth 100000 in
set_option maxHeartbeats 8000000 in
theorem reply_Write (st : Int) (vb : Value) (body : Byt) (cl : Bool) (w : World) (hT : Tabs27 w) (hrow : argRow w vb body.length 1 (Lib.byteCells body)) (hb : body.length ≤ 1000000000) :
    Calls Tryd.prog 11 #[.agg #[.int .i64 st, vb, .bool cl]] w fun e w' => WriteEnd (writeOf st body cl) w.heap.size w' e ∧ Below w.heap.size w w' := by
  have E8 : ElemT Tryd.prog 22 5 (.int .u8 0) 1 1 := ⟨Tryd.underlying22, info_u8', rfl, by decide⟩
  have cW := fun W => reply_words st W
  have HROW := Lib.hid hrow
  obtain ⟨_, a0, cap, rfl, hlc, hcm, hcx⟩ := hrow
  clear hcx
  obtain ⟨R, hR⟩ : ∃ R, writeOf st body cl = R := ⟨_, rfl⟩
  rw [hR]
  have HR := Lib.hid hR
  clear hR
  have hwl := words_len st
  by_cases hw0 : wordsOf st = []
  · rw [hw0] at cW
    have hfin : R = none := by rw [← HR.out, writeOf, if_pos hw0]
    have HFIN := Lib.hid hfin
    clear hfin hwl hw0
    go_enter Tryd.func11, Tryd.ntmps11
    go_wp2_with (go_at_call 19; refine (cW _).mono ?_; rintro e w1 ⟨rfl, rfl⟩)
    go_ret2
    exact ⟨by rw [HFIN.out]; rfl, (Below.refl _ _).alloc (Nat.le_refl _) _⟩
  · have hst := words_some hw0
    have hfin : some (linesOf (headOf st body.length cl) ++ body) = R := by rw [← HR.out, writeOf, if_neg hw0]
    have HFIN := Lib.hid hfin
    have hem := str_ne (wordsOf st)
    rw [decide_eq_false hw0] at hem
    clear hfin hw0
    have HH := Lib.hid (show headOf st body.length cl = [bH ++ Lib.itoa st ++ [32] ++ wordsOf st, bCT, bCL ++ Lib.itoa body.length, if cl then bCC else []] from rfl)
    generalize headOf st body.length cl = hd at *
    generalize wordsOf st = wd at *
    have hTn := fun o => hT.below ((Below.refl _ _).alloc (Nat.le_refl w.heap.size) o)
    have hbn := fun o => (Below.refl w.heap.size w).alloc (Nat.le_refl w.heap.size) o
    have hcn : ∀ (a b c : Value) (t : TypeId), (w.alloc (.cells #[a, b, c] t)).cell? ⟨w.heap.size, 0, none⟩ = some a ∧ (w.alloc (.cells #[a, b, c] t)).cell? ⟨w.heap.size, 1, none⟩ = some b ∧ (w.alloc (.cells #[a, b, c] t)).cell? ⟨w.heap.size, 2, none⟩ = some c := fun a b c t => by
      have := fun j => cell_of_row (w.alloc (.cells #[a, b, c] t)) w.heap.size j _ _ _ (heap_alloc_new _ _)
      refine ⟨by rw [this]; rfl, by rw [this]; rfl, by rw [this]; rfl⟩
    have hIl : (Lib.itoa st).length ≤ 21 := Lib.itoa_length_le _ (by omega) (by omega)
    have hIn : (Lib.itoa (body.length : Int)).length ≤ 21 := Lib.itoa_length_le _ (by omega) (by omega)
    go_enter Tryd.func11, Tryd.ntmps11
    go_upto_region 5 with (go_at_call 19; refine (cW _).mono ?_; rintro e w1 ⟨rfl, rfl⟩)
    have c012 := hcn (.int .i64 st) (.slice a0 body.length cap) (.bool cl) 31
    have hT1 := hTn (.cells #[.int .i64 st, .slice a0 body.length cap, .bool cl] 31)
    have hb1 := hbn (.cells #[.int .i64 st, .slice a0 body.length cap, .bool cl] 31)
    have hs1 : (w.alloc (.cells #[.int .i64 st, .slice a0 body.length cap, .bool cl] 31)).heap.size = w.heap.size + 1 := by simp
    generalize w.alloc (.cells #[.int .i64 st, .slice a0 body.length cap, .bool cl] 31) = w1 at *
    obtain ⟨c0, c1, c2⟩ := c012
    clear hTn hbn hcn cW
    have cI := Lib.hid (fun W (hW : Below w1.heap.size w1 W) => (itoa_call st W (by omega) (by omega) (hT1.below hW)).mono (fun e w' h => ⟨h.1, below_seq hW h.2⟩ : ∀ e w', _ → e = .returned (.string ⟨(Lib.itoa st).toArray⟩) ∧ Below w1.heap.size w1 w'))
    have cN := Lib.hid (fun W (hW : Below w1.heap.size w1 W) => (itoa_call (body.length : Int) W (by omega) (by omega) (hT1.below hW)).mono (fun e w' h => ⟨h.1, below_seq hW h.2⟩ : ∀ e w', _ → e = .returned (.string ⟨(Lib.itoa (body.length : Int)).toArray⟩) ∧ Below w1.heap.size w1 w'))
    have hd4 : hd.length = 4 := by rw [HH.out]; rfl
    have hdl : (linesOf hd).length ≤ 1000 := by
      rw [HH.out]
      have h1 : bH.length = 9 := rfl
      have h2 : bCT.length = 30 := rfl
      have h3 : bCL.length = 16 := rfl
      have h4 : bCC.length = 17 := rfl
      have h5 : ∀ x : Byt, (lineOf x).length ≤ x.length + 2 := fun x => by unfold lineOf; split <;> simp
      have h6 : (if cl = true then bCC else []).length ≤ 17 := by split <;> simp [h4]
      have a1 := h5 (bH ++ Lib.itoa st ++ [32] ++ wd)
      have a2 := h5 bCT
      have a3 := h5 (bCL ++ Lib.itoa (body.length : Int))
      have a4 := h5 (if cl = true then bCC else [])
      simp only [linesOf, List.flatMap_cons, List.flatMap_nil, List.append_nil, List.length_append, List.length_cons, List.length_nil] at a1 a2 a3 a4 ⊢
      omega
    have cL := Lib.hid (fun W x1 x2 x3 x4 (hx : [x1, x2, x3, x4] = hd.map strVal) (hW : Below w1.heap.size w1 W) => (reply_lines (.slice (some ⟨W.heap.size, 0, none⟩) 4 4) hd (W.alloc (.cells #[x1, x2, x3, x4] 9)) (by
        rw [← hx, hd4]; exact argRow_owns (owns_new W #[x1, x2, x3, x4] 9 4 rfl (by decide))) (by omega) (by omega)).mono (fun e w' h => by
          obtain ⟨v, he, hp, hb⟩ := h
          have hsz := hW.size
          exact ⟨v, he, owns_base hp (by simp; omega), below_seq (hW.alloc hW.size _) hb⟩ : ∀ e w', _ → ∃ v, e = .returned v ∧ Part w' w1.heap.size v (linesOf hd) ∧ Below w1.heap.size w1 w'))
    have hB0 : Below w1.heap.size w1 w1.drew := (Below.refl _ _).drew
    have hG := Lib.hid (fun W (hW : Below w1.heap.size w1 W) => (⟨(hW.cell (p := ⟨w.heap.size, 0, none⟩) (show w.heap.size < _ by omega)).trans c0, (hW.cell (p := ⟨w.heap.size, 1, none⟩) (show w.heap.size < _ by omega)).trans c1⟩ : W.cell? ⟨w.heap.size, 0, none⟩ = some (.int .i64 st) ∧ W.cell? ⟨w.heap.size, 1, none⟩ = some (.slice a0 body.length cap)))
    have HH4 := HH.out
    clear hd4
    generalize Lib.itoa st = I1 at *
    generalize Lib.itoa (body.length : Int) = I2 at *
    have n1 : ¬ 9223372036854775807 < 9 + I1.length := by omega
    have n2 : ¬ 9223372036854775807 < 9 + I1.length + 1 := by omega
    have n3 : ¬ 9223372036854775807 < 9 + I1.length + 1 + wd.length := by omega
    have n4 : ¬ 9223372036854775807 < 16 + I2.length := by omega
    cases cl
    all_goals
      go_upto_region 7 with fail
      go_region_held3 (fun w' => w'.cell? ⟨w.heap.size, 0, none⟩ = some (.int .i64 st) ∧ w'.cell? ⟨w.heap.size, 1, none⟩ = some (.slice a0 body.length cap) ∧ Below w1.heap.size w1 w')
        (first | exact keep27 hG.out (by first | assumption | exact belowA (by assumption)))
        (first | (go_at_call 21; refine (cI.out _ (by assumption)).mono ?_; rintro e wn ⟨rfl, hBn⟩) | (go_at_call 21; refine (cN.out _ (by assumption)).mono ?_; rintro e wn ⟨rfl, hBn⟩) | (go_at_call 20; refine (cL.out _ _ _ _ _ (by rw [HH4]; simp only [List.map, strVal, bap]; rfl) (by assumption)).mono ?_; rintro e wn ⟨v, rfl, hpart, hBn⟩))
      unfold Part at hpart
      have q1 := (hG.out _ hBn).2
      have hbw := hb1.trans (hBn.mono hb1.size)
      have hrn := argRow_below HROW.out hbw
      have hszn := hBn.size
      go_wp2_with (at_builtin; refine wpList_append_src rfl (.tmp 29) (.tmp 31) _ _ rfl w1.heap.size E8 _ _ _ rfl hpart _ body.length (Lib.byteCells body) rfl (by exact src_arg Tryd.underlying22 hrn (byteCells_one body)) (by unfold maxLen; omega) (by omega) (by omega) ?_; intro v2 w2 hown2 hgr2 _ _)
      go_ret2
      refine ⟨by rw [← HFIN.out]; exact ⟨_, rfl, by unfold Part; rw [List.length_append, byteCells_append]; exact owns_base hown2 (by omega)⟩, hbw.grown hgr2 (by omega) (fun k hk => by have := (hpart.lt k hk).1; omega)⟩
end Go.Proofs.YtknoimflimhcgaaDoor
