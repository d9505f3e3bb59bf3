/-
  Names of labels: what they are; the contracts of label.name and of the reference's Name.
-/
import Derived.Test.YtljnbbdhmlfhjaaGreatDoorUtfAll
import Derived.Test.YtljnbbdhmlfhjaaGreatDoorKit
import Derived.Test.YtljnbbdhmlfhjaaGreatDoorKitC
import Derived.Sort.Walk0
import Derived.Shelf.SlSortCmp.InsertionK
import Derived.Deep.RegionHeld3
import Derived.Deep.DeepCutAuto
import Derived.BigQuiet
import Derived.Laws.StructEq
import Derived.Test.YtljnbbdhmlfhjaaGreatDoorShelf
import Derived.Test.YtljnbbdhmlfhjaaGreatDoorUtfV
namespace Go.Proofs.YtljnbbdhmlfhjaaGreatDoor
open Go.RowKit

theorem decodeN_big (n b0 b1 b2 b3 : Nat) (h : 128 ≤ b0) : 128 ≤ (Lib.decodeN n b0 b1 b2 b3).1 := by
  unfold Lib.decodeN
  rw [if_neg (by omega)]
  repeat' split
  all_goals first | omega | (simp only; omega)
theorem decode_big (s : ByteArray) (i : Nat) (h : 128 ≤ (s.get! i).toNat) : 128 ≤ (Utf8.decode s i).1 := by
  rw [Lib.decode_at]
  exact decodeN_big _ _ _ _ _ h
/-- A name's sign, by its place. -/
def nmC (first : Bool) (c : UInt8) : Bool := decide (c.toNat = 95 ∨ (97 ≤ c.toNat ∧ c.toNat ≤ 122) ∨ (first = false ∧ 48 ≤ c.toNat ∧ c.toNat ≤ 57))
def nmGo : Bool → List UInt8 → Bool
  | _, [] => true
  | f, c :: t => nmC f c && nmGo false t
def nameOk (s : ByteArray) : Bool := decide (1 ≤ s.size ∧ s.size ≤ 32) && nmGo true s.data.toList
theorem drop_byte (s : ByteArray) (i : Nat) (h : i < s.size) : s.data.toList.drop i = s[i] :: s.data.toList.drop (i + 1) := by
  have hl : i < s.data.toList.length := by simpa [ByteArray.size_data] using h
  rw [List.drop_eq_getElem_cons hl]
  rfl
theorem get_byte (s : ByteArray) (i : Nat) (h : i < s.size) : s.get! i = s[i] := by
  have e : s.get! i = s.data[i]! := rfl
  rw [e, getElem!_pos s.data i (by simpa [ByteArray.size_data] using h)]
  rfl
theorem nmGo_at (s : ByteArray) (i : Nat) (f : Bool) (h : i < s.size) : nmGo f (s.data.toList.drop i) = (nmC f s[i] && nmGo false (s.data.toList.drop (i + 1))) := by
  rw [drop_byte s i h]
  rfl
theorem nmGo_end (s : ByteArray) (i : Nat) (f : Bool) (h : ¬ i < s.size) : nmGo f (s.data.toList.drop i) = true := by
  rw [List.drop_of_length_le (by simp [ByteArray.size_data]; omega)]
  rfl

set_option maxRecDepth 100000 in
set_option maxHeartbeats 4000000 in
theorem label_name (s : ByteArray) (w : World) (hs : s.size ≤ maxLen) :
    Calls Tryz.prog 60 #[.string s] w fun e w' => e = .returned (.bool (nameOk s)) ∧ Below w.heap.size w w' := by
  unfold maxLen at hs
  obtain ⟨R, hR⟩ : ∃ R, nameOk s = R := ⟨_, rfl⟩
  rw [hR]
  have HR := Lib.hid hR
  clear hR
  go_enter Tryz.func60, Tryz.ntmps60
  go_wp2
  go_loopw [] (fun wr => ∃ k : Nat, k ≤ s.size ∧ wr.heap[w.heap.size]? = some (.stringIter s k) ∧ nmGo (decide (k = 0)) (s.data.toList.drop k) = nmGo true s.data.toList ∧ Below w.heap.size w wr ∧ w.heap.size < wr.heap.size) (fun w' => s.size - w'.iterPos w.heap.size)
  case atStart => exact ⟨0, by omega, World.iter_heap _ _ _, rfl, below_iter w s 0, by simp [World.iter]⟩
  case round =>
    obtain ⟨k, hk, hit, hG, hb, hsz⟩ := hrel
    by_cases hlt : k < s.size
    · have hnx : ∀ ty, (Instr.next (.pointer (some ⟨w.heap.size, 0, none⟩)) true ty).run Tryz.prog wr = _ := fun ty => Lib.run_next_any_at wr w.heap.size s k ty hit hlt
      have hst := nmGo_at s k (decide (k = 0)) hlt
      rw [hG] at hst
      have hgb := get_byte s k hlt
      have hwd := width_pos' s k
      have hpl := pos_le s k hlt
      have h1c : s[k].toNat < 128 → Utf8.decode s k = (s[k].toNat, 1) := fun h => by rw [← hgb]; exact decode_one s k (by rw [hgb]; exact h)
      have h2c : 128 ≤ s[k].toNat → 128 ≤ (Utf8.decode s k).1 := fun h => decode_big s k (by rw [hgb]; exact h)
      have hsc := decodeL_scalar (s.data.toList.drop k)
      rw [← decode_drop] at hsc
      have hb2 := Lib.below_iterAt hb (Nat.le_refl _) s (k + (Utf8.decode s k).2)
      have hit2 := Lib.iterAt_heap wr w.heap.size s k (k + (Utf8.decode s k).2) hit
      have hsz2 : w.heap.size < (wr.iterAt w.heap.size s (k + (Utf8.decode s k).2)).heap.size := by rw [Lib.iterAt_size]; exact hsz
      have HM := Lib.hid (iterPos_of hit)
      obtain ⟨c, hc⟩ : ∃ c, s[k] = c := ⟨_, rfl⟩
      rw [hc] at hst h1c h2c
      have hT : nmC (decide (k = 0)) c = true → nmGo (decide (k + 1 = 0)) (s.data.toList.drop (k + 1)) = nmGo true s.data.toList := fun h => by
        rw [hst, h, Bool.true_and]
        rfl
      have hF : nmC (decide (k = 0)) c = false → R = false := fun h => by rw [← HR.out, nameOk, hst, h, Bool.false_and, Bool.and_false]
      have HT := Lib.hid hT
      have HF := Lib.hid hF
      have hcs : (c.toNat < 128 ∧ (Utf8.decode s k).1 = c.toNat ∧ (Utf8.decode s k).2 = 1) ∨ (128 ≤ c.toNat ∧ 128 ≤ (Utf8.decode s k).1) := by
        by_cases h : c.toNat < 128
        · exact .inl ⟨h, by rw [h1c h], by rw [h1c h]⟩
        · exact .inr ⟨by omega, h2c (by omega)⟩
      have HCS := Lib.hid hcs
      have hc256 := c.toNat_lt
      have HC := Lib.hid hc
      clear hT hF hst hG h1c h2c hit hb hsz hgb hc hcs
      unfold scalar at hsc
      generalize Utf8.decode s k = d at *
      obtain ⟨r, m⟩ := d
      simp only at *
      generalize hW2 : wr.iterAt w.heap.size s (k + m) = W2 at *
      have HW2 := Lib.hid hW2; clear hW2
      go_wp2
      all_goals try simp only [beq_iff_eq, beq_eq_false_iff_ne, ne_eq, bne_iff_ne, bne_eq_false_iff_eq] at *
      all_goals have hcs := HCS.out
      all_goals first
        | (have hr : c.toNat < 128 ∧ r = c.toNat ∧ m = 1 := by omega
           obtain ⟨_, rfl, rfl⟩ := hr
           refine ⟨⟨k + 1, by omega, hit2, HT.out (decide_eq_true ?_), hb2, hsz2⟩, by rw [HM.out, iterPos_of hit2]; omega⟩
           simp only [decide_eq_false_iff_not]
           omega)
        | (have hf : R = false := HF.out (decide_eq_false (by simp only [decide_eq_false_iff_not]; omega)); go_ret; exact ⟨by rw [hf]; rfl, hb2⟩)
    · have hnx : ∀ ty, (Instr.next (.pointer (some ⟨w.heap.size, 0, none⟩)) true ty).run Tryz.prog wr = _ := fun ty => Lib.run_next_end_at wr w.heap.size s k ty hit hlt
      have hfin : nmGo true s.data.toList = true := by rw [← hG, nmGo_end s k _ hlt]
      have hR : R = decide (1 ≤ s.size ∧ s.size ≤ 32) := by rw [← HR.out, nameOk, hfin, Bool.and_true]
      by_cases h0 : 0 < s.size
      · by_cases h32 : s.size ≤ 32
        · have h0' : (0 : Int) < (s.size : Int) := by omega
          have h32' : (s.size : Int) ≤ 32 := by omega
          have hf : R = true := by rw [hR]; exact decide_eq_true ⟨by omega, h32⟩
          clear hR
          go_wp2
          go_ret
          exact ⟨by first | rfl | (rw [hf]; simp [h0, h32]; done) | (rw [hf]; rfl), hb⟩
        · have h0' : (0 : Int) < (s.size : Int) := by omega
          have h32' : ¬ (s.size : Int) ≤ 32 := by omega
          have hf : R = false := by rw [hR]; exact decide_eq_false (by omega)
          clear hR
          go_wp2
          go_ret
          exact ⟨by first | rfl | (rw [hf]; simp [h0, h32]; done) | (rw [hf]; rfl), hb⟩
      · have h0' : ¬ (0 : Int) < (s.size : Int) := by omega
        have hf : R = false := by rw [hR]; exact decide_eq_false (by omega)
        clear hR
        go_wp2
        go_ret
        exact ⟨by first | rfl | (rw [hf]; simp [h0]; done) | (rw [hf]; rfl), hb⟩
end Go.Proofs.YtljnbbdhmlfhjaaGreatDoor
/-
  Labels: their cells, their order; cmp.Compare at strings, cmp.Or at two, the closures of label, label.Compare and the reference's.
-/
namespace Go.Proofs.YtljnbbdhmlfhjaaGreatDoor
open Go.RowKit Go.Sort Go.Lib Go.Shelf

abbrev Lab := ByteArray × ByteArray
def encLab (x : Lab) : List Value := [.string x.1, .string x.2]
def labCells (L : List Lab) : List Value := L.flatMap encLab
theorem labCells_len (L : List Lab) : (labCells L).length = L.length * 2 := by
  induction L with
  | nil => rfl
  | cons x L ih =>
    show (encLab x ++ labCells L).length = _
    rw [List.length_append, ih, List.length_cons]
    show 2 + _ = _
    omega
theorem labCells_append (A B : List Lab) : labCells (A ++ B) = labCells A ++ labCells B := List.flatMap_append
theorem labCells_one (L : List Lab) : ∀ u ∈ labCells L, u.oneCell' = true := by
  intro u hu
  obtain ⟨x, _, hx⟩ := List.mem_flatMap.1 hu
  simp only [encLab, List.mem_cons, List.mem_nil_iff, or_false] at hx
  rcases hx with rfl | rfl <;> rfl
theorem labCells_get : ∀ (L : List Lab) (k : Nat) (h : k < L.length), (labCells L)[k * 2]? = some (.string L[k].1) ∧ (labCells L)[k * 2 + 1]? = some (.string L[k].2)
  | x :: L, 0, _ => ⟨rfl, rfl⟩
  | x :: L, k + 1, h => by
    have ih := labCells_get L k (by simpa using h)
    have e : ∀ j, (labCells (x :: L))[j + 2]? = (labCells L)[j]? := fun j => rfl
    rw [show (k + 1) * 2 = k * 2 + 2 from by omega, e, show k * 2 + 2 + 1 = (k * 2 + 1) + 2 from by omega, e]
    exact ih
/-- A list of labels that can be read. -/
def LRow (w : World) (v : Value) (L : List Lab) : Prop := argRow w v L.length 2 (labCells L)
theorem LRow.below {w w' : World} {v : Value} {L : List Lab} (h : LRow w v L) (hb : Below w.heap.size w w') : LRow w' v L := argRow_below h hb
theorem LRow.shape {w : World} {v : Value} {L : List Lab} (h : LRow w v L) : ∃ a c, v = .slice a L.length c ∧ L.length ≤ c ∧ c ≤ maxLen := by
  obtain ⟨_, a, c, rfl, h1, h2, _⟩ := h
  exact ⟨a, c, rfl, h1, h2⟩
theorem LRow.at {w : World} {a : Option Addr} {n c : Nat} {L : List Lab} (h : LRow w (.slice a n c) L) {k : Nat} (hk : k < L.length) :
    ∃ b off, a = some ⟨b, off, none⟩ ∧ b < w.heap.size ∧ w.cell? ⟨b, off + k * 2, none⟩ = some (.string L[k].1) ∧ w.cell? ⟨b, off + k * 2 + 1, none⟩ = some (.string L[k].2) := by
  obtain ⟨hl, a', c', e, _, _, hc⟩ := h
  cases e
  obtain ⟨b, off, rfl, hb, hcs⟩ := hc (by omega)
  have hg := labCells_get L k hk
  have hlen := labCells_len L
  have g1 := hcs (k * 2) (by omega)
  have g2 := hcs (k * 2 + 1) (by omega)
  rw [List.getElem?_eq_getElem (by omega)] at hg
  rw [List.getElem?_eq_getElem (by omega)] at hg
  refine ⟨b, off, rfl, hb, by rw [g1, Option.some.inj hg.1], by rw [Nat.add_assoc, g2, Option.some.inj hg.2]⟩

/-! ### The order -/
def cmpB (a b : List UInt8) : Int := if Op.bytesLess a b then -1 else if a == b then 0 else 1
theorem less_irrefl (a : List UInt8) : Op.bytesLess a a = false := by
  rw [bytesLess_eq]
  exact decide_eq_false (List.lt_irrefl a)
theorem bytes_inj {a b : ByteArray} (h : a.toList = b.toList) : a = b := by
  rw [ByteArray.toList_eq, ByteArray.toList_eq] at h
  exact ByteArray.ext (Array.toList_inj.1 h)
set_option maxRecDepth 100000 in
set_option maxHeartbeats 4000000 in
theorem cmp_str (x y : ByteArray) (w : World) :
    Calls Tryz.prog 64 #[.string x, .string y] w fun e w' => e = .returned (.int .i64 (cmpB x.toList y.toList)) ∧ w = w' := by
  have cN : ∀ (s : ByteArray) W, Calls Tryz.prog 99 #[.string s] W fun e w' => e = .returned (.bool false) ∧ W = w' := fun s W => by
    go_enter Tryz.func99, Tryz.ntmps99
    go_wp2
    go_ret
    exact ⟨rfl, rfl⟩
  obtain ⟨b1, h1⟩ : ∃ b, Op.bytesLess x.toList y.toList = b := ⟨_, rfl⟩
  obtain ⟨b2, h2⟩ : ∃ b, (x.toList == y.toList) = b := ⟨_, rfl⟩
  have hR : cmpB x.toList y.toList = if b1 then -1 else if b2 then 0 else 1 := by unfold cmpB; rw [h1, h2]
  rw [hR]
  clear hR
  cases b1 <;> cases b2
  all_goals
    go_enter Tryz.func64, Tryz.ntmps64
    go_wp2_with (go_at_call 99; refine (cN _ _).mono ?_; rintro e w1 ⟨rfl, rfl⟩)
    go_ret
    exact ⟨rfl, rfl⟩

/-- The closure of label.Canon. -/
theorem canon_cmp (x y : Lab) (W : World) : Calls Tryz.prog 63 #[.agg #[.string x.1, .string x.2], .agg #[.string y.1, .string y.2]] W fun e w' =>
    e = .returned (.int .i64 (cmpB x.1.toList y.1.toList)) ∧ ∃ q os', w' = Go.Sort.grow (W.drewN q) os' := by
  have hcon := fun W' => cmp_str x.1 y.1 W'
  generalize cmpB x.1.toList y.1.toList = r at hcon ⊢
  go_enter Tryz.func63, Tryz.ntmps63
  go_wp2_with (go_at_call 64; refine (hcon _).mono ?_; rintro e w' ⟨rfl, rfl⟩)
  go_ret
  exact ⟨rfl, 0, _, by rw [alloc_eq_grow, alloc_eq_grow, grow_grow]; rfl⟩
end Go.Proofs.YtljnbbdhmlfhjaaGreatDoor
/-
  The order of lists of labels: label.Compare.
-/
namespace Go.Proofs.YtljnbbdhmlfhjaaGreatDoor
open Go.RowKit

theorem belowA {a W : World} {o : Obj} (h : Below a.heap.size a W) : Below a.heap.size a (W.alloc o) := h.alloc h.size o
end Go.Proofs.YtljnbbdhmlfhjaaGreatDoor
/-
  The reference's Compare and Same; slices.Equal; Find.
-/
namespace Go.Proofs.YtljnbbdhmlfhjaaGreatDoor
open Go.RowKit

theorem eq_lab (x y : Lab) : (x.1.toList == y.1.toList && x.2.toList == y.2.toList) = decide (x = y) := by
  rw [Bool.eq_iff_iff]
  simp only [Bool.and_eq_true, beq_iff_eq, decide_eq_true_eq]
  exact ⟨fun h => Prod.ext (bytes_inj h.1) (bytes_inj h.2), fun h => by rw [h]; exact ⟨rfl, rfl⟩⟩

theorem lab_guard : Program.eqGuardType Tryz.prog Tryz.prog.depth 55 = false := by kernel_rfl
theorem lab_eq (x1 x2 y1 y2 : ByteArray) (W : World) : (Op.equalIn 10000 55 (.agg #[.string x1, .string x2]) (.agg #[.string y1, .string y2])).run Tryz.prog W = .ok (x1.toList == y1.toList && x2.toList == y2.toList) W := by
  have hf : Tryz.prog.underlying 55 = some (.struct (Tryz.prog.fieldsOf 55)) := by kernel_rfl
  rw [show (10000 : Nat) = 9999 + 1 from rfl, run_equalIn_agg W _ _ _ _ hf (by kernel_rfl)]
  have hu := Tryz.underlying55
  unfold Program.fieldsOf
  rw [hu]
  have hs : Tryz.prog.underlying 9 = some .string := Tryz.underlying9
  have he : ∀ a b (W : World), (Op.equalIn 9999 9 (.string a) (.string b)).run Tryz.prog W = .ok (a.toList == b.toList) W := fun a b W => run_equalIn_string W 9998 9 a b hs
  have h1 := he x1 y1
  have h2 := he x2 y2
  generalize (x1.toList == y1.toList) = p at *
  generalize (x2.toList == y2.toList) = q at *
  clear hu hf he
  simp only [Op.eqFields]
  cases p <;> cases q <;> simp [part, h1, h2]

set_option maxRecDepth 100000 in
set_option maxHeartbeats 4000000 in
theorem slices_Equal (va vb : Value) (A B : List Lab) (w : World) (hA : LRow w va A) (hB : LRow w vb B) :
    Calls Tryz.prog 65 #[va, vb] w fun e w' => e = .returned (.bool (decide (A = B))) ∧ Below w.heap.size w w' := by
  obtain ⟨aa, ca, rfl, hca, hca2⟩ := hA.shape
  obtain ⟨ab, cb, rfl, hcb, hcb2⟩ := hB.shape
  unfold maxLen at hca2 hcb2
  have HA := Lib.hid hA
  have HB := Lib.hid hB
  clear hA hB
  obtain ⟨R, hR⟩ : ∃ R, decide (A = B) = R := ⟨_, rfl⟩
  rw [hR]
  have HR := Lib.hid hR
  clear hR
  by_cases hl : A.length = B.length
  · have e1 : ((A.length : Int) != (B.length : Int)) = false := by simp; omega
    have HL := Lib.hid hl
    clear hl
    go_enter Tryz.func65, Tryz.ntmps65
    go_wp2
    go_loopw [13] (fun iv wr => ∃ k : Nat, iv = .int .i64 k ∧ k ≤ A.length ∧ A.take k = B.take k ∧ Below w.heap.size w wr) (fun iv _ => A.length - (intOf iv).toNat)
    case atStart => exact ⟨0, rfl, Nat.zero_le _, rfl, Below.refl _ _⟩
    case round =>
      obtain ⟨k, rfl, hk, htk, hb⟩ := hrel
      have HTK := Lib.hid htk
      clear htk
      by_cases hlt : k < A.length
      · have hltB : k < B.length := by have := HL.out; omega
        obtain ⟨ba, oa, rfl, hba, ga1, ga2⟩ := HA.out.at hlt
        obtain ⟨bb, ob, rfl, hbb, gb1, gb2⟩ := HB.out.at hltB
        have hdn : ∀ n, Below w.heap.size w (wr.drewN n) := fun n => ⟨hb.os, hb.tape, hb.output, hb.size, hb.block⟩
        have g1 : ∀ n, (wr.drewN n).cell? ⟨ba, oa + k * 2, none⟩ = some (.string A[k].1) := fun n => by rw [(hdn n).cell (p := ⟨ba, _, none⟩) hba]; exact ga1
        have g2 : ∀ n, (wr.drewN n).cell? ⟨ba, oa + k * 2 + 1, none⟩ = some (.string A[k].2) := fun n => by rw [(hdn n).cell (p := ⟨ba, _, none⟩) hba]; exact ga2
        have g3 : ∀ n, (wr.drewN n).cell? ⟨bb, ob + k * 2, none⟩ = some (.string B[k].1) := fun n => by rw [(hdn n).cell (p := ⟨bb, _, none⟩) hbb]; exact gb1
        have g4 : ∀ n, (wr.drewN n).cell? ⟨bb, ob + k * 2 + 1, none⟩ = some (.string B[k].2) := fun n => by rw [(hdn n).cell (p := ⟨bb, _, none⟩) hbb]; exact gb2
        have HDN := Lib.hid hdn
        have ta : A.take (k + 1) = A.take k ++ [A[k]] := List.take_succ_eq_append_getElem hlt
        have tb : B.take (k + 1) = B.take k ++ [B[k]] := List.take_succ_eq_append_getElem hltB
        have hne : A[k] ≠ B[k] → R = false := fun h => by
          rw [← HR.out]
          exact decide_eq_false (fun e => h (by subst e; rfl))
        have heq : A[k] = B[k] → A.take (k + 1) = B.take (k + 1) := fun h => by rw [ta, tb, HTK.out, h]
        have hbe := eq_lab A[k] B[k]
        have HNE := Lib.hid hne
        have HEQ := Lib.hid heq
        clear ta tb hne heq ga1 ga2 gb1 gb2 hdn
        generalize A[k] = x at *
        generalize B[k] = y at *
        obtain ⟨x1, x2⟩ := x
        obtain ⟨y1, y2⟩ := y
        simp only at *
        have hse := lab_eq x1 x2 y1 y2
        have hsg := lab_guard
        have i1 : (0 : Int) ≤ (k : Int) := by omega
        have i2 : (k : Int) < (A.length : Int) := by omega
        have i3 : (k : Int) < (B.length : Int) := by omega
        by_cases hxy : (x1, x2) = (y1, y2)
        · have hfin := HEQ.out hxy
          have HFIN := Lib.hid hfin
          rw [decide_eq_true hxy] at hbe
          clear hfin hxy
          go_wp2_with fail
          go_quiet (fail)
          go_wp2_with fail
          go_roundw
          case rel => exact ⟨k + 1, by go_num, by omega, HFIN.out, HDN.out _⟩
          case measure => simp [intOf]; omega
        · have hfin := HNE.out hxy
          rw [decide_eq_false hxy] at hbe
          clear hxy
          go_wp2_with fail
          go_quiet (fail)
          go_wp2_with fail
          go_ret
          exact ⟨by first | rfl | (rw [hfin]; rfl), HDN.out _⟩
      · have hkA : k = A.length := by omega
        have hfin : R = true := by
          rw [← HR.out]
          refine decide_eq_true ?_
          have h := HTK.out
          rw [hkA, List.take_length, HL.out, List.take_length] at h
          exact h
        have hq : ¬ (k : Int) < (A.length : Int) := by omega
        go_wp2
        go_ret
        exact ⟨by first | rfl | (rw [hfin]; rfl), hb⟩
  · have e1 : ((A.length : Int) != (B.length : Int)) = true := by simp; omega
    have hfin : R = false := by rw [← HR.out]; exact decide_eq_false (fun e => hl (by rw [e]))
    clear hl
    go_enter Tryz.func65, Tryz.ntmps65
    go_wp2
    go_ret
    exact ⟨by first | rfl | (rw [hfin]; rfl), Below.refl _ _⟩
end Go.Proofs.YtljnbbdhmlfhjaaGreatDoor
/-
  The reference's Compare and Same; Find.
-/
namespace Go.Proofs.YtljnbbdhmlfhjaaGreatDoor
open Go.RowKit

end Go.Proofs.YtljnbbdhmlfhjaaGreatDoor
/-
  slices.Clone and slices.SortFunc at labels.
-/
namespace Go.Proofs.YtljnbbdhmlfhjaaGreatDoor
open Go.RowKit Go.Sort Go.Lib Go.Shelf

theorem holds_id {w : World} {g : Nat} {cur : Array Value} {e : TypeId} {xs : List Value} (hb : w.heap[g]? = some (.cells cur e (0, 0))) (ht : cur.toList.take xs.length = xs) : Holds id w g 0 xs.toArray := by
  intro j hj
  have hj' : j < xs.length := by simpa using hj
  refine ⟨?_, by simp [World.frozen?, hb]⟩
  have h1 : (cur.toList.take xs.length)[j]? = xs[j]? := by rw [ht]
  rw [List.getElem?_take_of_lt hj'] at h1
  simp only [World.cell?, hb, Nat.zero_add]
  simp only [Option.isSome_none, Bool.false_eq_true, if_false]
  rw [← Array.getElem?_toList, h1]
  simp [hj']
theorem heap_id {w : World} {g n : Nat} {os : Array Obj} {cur : Array Value} {e : TypeId} {fr : Nat × Nat} (F : Array Value) (hb : w.heap[g]? = some (.cells cur e fr)) :
    (grow (putRow id (Sort.ahead w n) g 0 F) os).heap[g]? = some (.cells (putCells id 0 F cur) e fr) := by
  have hg : g < w.heap.size := (Array.getElem?_eq_some_iff.1 hb).1
  rw [heap_grow_old _ _ (by simpa using hg)]
  simp [putRow, mapBlock, Sort.ahead, Array.getElem?_modify, hb, onCells]
theorem grownBy_id {w : World} {g n : Nat} {os : Array Obj} (F : Array Value) : w.grownBy (grow (putRow id (Sort.ahead w n) g 0 F) os) (some g) := by
  refine ⟨rfl, rfl, rfl, by simp, fun k hk hne => ?_⟩
  rw [heap_grow_old _ _ (by simpa using hk)]
  have : g ≠ k := fun e => hne (by rw [e])
  simp [putRow, mapBlock, Sort.ahead, Array.getElem?_modify, this]
theorem take_id (cur : Array Value) (xs : List Value) (h : xs.length ≤ cur.size) : (putCells id 0 xs.toArray cur).toList.take xs.length = xs := by
  apply List.ext_getElem?
  intro j
  by_cases hj : j < xs.length
  · rw [List.getElem?_take_of_lt hj, Array.getElem?_toList]
    simp [putCells, hj, show j < cur.size by omega]
  · rw [List.getElem?_take_eq_none (by omega), List.getElem?_eq_none (by omega)]
theorem flat_lab (L : List Lab) : flatK encLab 2 L.toArray = (labCells L).toArray := by
  refine ext_get! (by simp [labCells_len]) fun t ht => ?_
  have ht' : t < L.length * 2 := by simpa using ht
  rw [get_flatK _ _ _ t (by simpa using ht')]
  have hk : t / 2 < L.length := by omega
  obtain ⟨h1, h2⟩ := labCells_get L (t / 2) hk
  have e0 : L.toArray[t / 2]! = L[t / 2] := by simp [hk]
  rw [e0]
  have hl := labCells_len L
  have e1 : (labCells L).toArray[t]! = (labCells L)[t]'(by omega) := by
    rw [getElem!_pos _ t (by simp; omega)]
    simp
  rw [e1]
  rcases Nat.mod_two_eq_zero_or_one t with hm | hm
  · have et : t / 2 * 2 = t := by omega
    rw [et, List.getElem?_eq_getElem (by omega)] at h1
    rw [hm, Option.some.inj h1]
    rfl
  · have et : t / 2 * 2 + 1 = t := by omega
    rw [et, List.getElem?_eq_getElem (by omega)] at h2
    rw [hm, Option.some.inj h2]
    rfl

def lessN (x y : Lab) : Bool := Op.bytesLess x.1.toList y.1.toList
theorem lt_cmp (x y : Lab) : ltOf (fun x y : Lab => cmpB x.1.toList y.1.toList) x y = lessN x y := by
  show decide (cmpB x.1.toList y.1.toList < 0) = _
  unfold cmpB lessN
  by_cases h : Op.bytesLess x.1.toList y.1.toList = true
  · simp [h]
  · rw [if_neg h]
    split <;> simp [h]
theorem swoN : SWO (ltOf fun x y : Lab => cmpB x.1.toList y.1.toList) where
  irrefl x := by rw [lt_cmp]; exact less_irrefl _
  trans x y z h1 h2 := by
    rw [lt_cmp] at *
    unfold lessN at *
    rw [bytesLess_eq] at *
    simp only [decide_eq_true_eq] at *
    exact List.lt_trans h1 h2
  ntrans x y z h1 h2 := by
    rw [lt_cmp] at *
    unfold lessN at *
    rw [bytesLess_eq] at *
    simp only [decide_eq_false_iff_not, List.not_lt] at *
    exact List.le_trans h2 h1
/-- Names do not fall. -/
def Rising (L : List Lab) : Prop := ∀ i j (h : i < j) (hj : j < L.length), lessN L[j] (L[i]'(by omega)) = false
theorem label_sort {w : World} {B : Nat} {v : Value} {L : List Lab} (h : w.ownsRow B 55 2 v L.length (labCells L)) (hL : L.length ≤ 1000000) :
    Calls Tryz.prog 62 #[v, .func (.func 63) #[] #[]] w fun e w' => e = .returned (.tuple #[]) ∧
      ∃ L', L'.Perm L ∧ Rising L' ∧ w'.ownsRow B 55 2 v L'.length (labCells L') ∧ w.grownBy w' v.ownBlock := by
  rcases h.2 with ⟨rfl, h0⟩ | ⟨g, cap, cur, rfl, hbase, hb, h1, h2, h3, h4⟩
  · have : L = [] := List.eq_nil_of_length_eq_zero h0
    subst this
    refine (AnyF.slices_SortFunc_none Tryz.sortLab none 0 _ w).mono ?_
    rintro e w' ⟨rfl, rfl⟩
    exact ⟨rfl, [], List.Perm.refl _, fun i j _ hj => by simp at hj, h, World.grownBy.refl _ _⟩
  · have eg : ∀ args w, (callFunc 63 args).run Tryz.prog w = .ok (.enter 63 args) w := enters_of Tryz.func63 (by kernel_rfl) rfl
    have hlen := labCells_len L
    have hH : HoldsK encLab 2 w g 0 L.toArray := by
      unfold HoldsK
      rw [flat_lab]
      exact holds_id hb (by rw [hlen]; exact h4)
    have hcmp : CmpLays Tryz.prog 63 #[] encLab 2 (fun x y => cmpB x.1.toList y.1.toList) g 0 L.toArray.size w := fun m os dk _ x y => canon_cmp x y _
    have hcon := AnyQ.slices_SortFunc Tryz.sortLab 2 Tryz.isAgg55 Tryz.sizeOf55 encLab (fun _ => rfl) (fun x v hv => by simp [encLab] at hv; rcases hv with rfl | rfl <;> rfl) (fun x y => cmpB x.1.toList y.1.toList) swoN 63 #[] g 0 cap L.toArray w eg hcmp hH (Array.getElem?_eq_some_iff.1 hb).1 (by simp; omega)
    have e1 : (L.toArray).size = L.length := by simp
    rw [e1] at hcon
    refine (show Calls Tryz.prog 62 _ _ _ from hcon).mono ?_
    rintro e w' ⟨rfl, d', n, os, hp, hs, rfl⟩
    have hd : d' = d'.toList.toArray := by simp
    have hsz : d'.toList.length = L.length := by have := hp.1; simpa using this
    refine ⟨rfl, d'.toList, ?_, ?_, ?_, ?_⟩
    · have := hp.2.2
      have ex : d'.extract 0 L.length = d' := by rw [← hsz]; simp
      rw [ex] at this
      simpa using this
    · intro i j hij hj
      have := hs i j (Nat.zero_le _) hij (by omega)
      rw [lt_cmp] at this
      have g1 : d'[j]! = d'.toList[j] := by rw [getElem!_pos d' j (by simpa using hj)]; simp
      have g2 : d'[i]! = d'.toList[i] := by rw [getElem!_pos d' i (by have : i < d'.toList.length := by omega
                                                                      simpa using this)]; simp
      rw [g1, g2] at this
      exact this
    · have hfl : flatK encLab 2 d' = (labCells d'.toList).toArray := by
        conv => lhs; rw [hd]
        exact flat_lab _
      have hl2 := labCells_len d'.toList
      unfold sortWorldK putRowK
      rw [hfl]
      refine ⟨by rw [hl2], .inr ⟨g, cap, _, by rw [hsz], hbase, heap_id _ hb, by omega, h2, by simp [putCells, h3], ?_⟩⟩
      rw [← hl2]
      exact take_id cur _ (by rw [h3]; omega)
    · exact grownBy_id _
end Go.Proofs.YtljnbbdhmlfhjaaGreatDoor
/-
  slices.Clone at labels; label.Canon.
-/
namespace Go.Proofs.YtljnbbdhmlfhjaaGreatDoor
open Go.RowKit

theorem eql_nil (a : Option Addr) (l c : Nat) (W : World) : (binOp .eql 32 (.slice a l c) (.slice none 0 0)).run Tryz.prog W = .ok (.bool a.isNone) W := by
  have h := run_equal_slice_nil (P := Tryz.prog) W 32 55 a l c Tryz.underlying32
  simp [binOp, h]
set_option maxRecDepth 100000 in
set_option maxHeartbeats 4000000 in
theorem label_clone (v : Value) (L : List Lab) (w : World) (h : LRow w v L) (hL : L.length ≤ 2000000) :
    Calls Tryz.prog 61 #[v] w fun e w' => ∃ v', e = .returned v' ∧ w'.ownsRow w.heap.size 55 2 v' L.length (labCells L) ∧ Below w.heap.size w w' := by
  have EL : ElemT Tryz.prog 32 55 (.agg #[.string ⟨#[]⟩, .string ⟨#[]⟩]) 2 32 := ⟨Tryz.underlying32, by kernel_rfl, rfl, by decide⟩
  obtain ⟨a, c, rfl, hc, hcm⟩ := h.shape
  unfold maxLen at hcm
  have HR := Lib.hid h
  clear h
  have hnil := fun a l c W => eql_nil a l c W
  cases a with
  | none =>
    have hl : L = [] := by
      refine Classical.byContradiction fun hne => ?_
      obtain ⟨_, _, e, _⟩ := HR.out.at (k := 0) (List.length_pos_iff.2 hne)
      cases e
    subst hl
    go_enter Tryz.func61, Tryz.ntmps61
    go_wp2
    go_ret
    exact ⟨_, rfl, World.ownsRow_nil _ _ _ _, Below.refl _ _⟩
  | some p =>
    go_enter Tryz.func61, Tryz.ntmps61
    go_wp2_with (at_builtin; refine wpList_append_src rfl _ _ _ _ rfl w.heap.size EL _ 0 [] rfl (World.ownsRow_lit w #[] 0 (Nat.le_refl _) (by decide) rfl) _ L.length (labCells L) rfl (by exact src_arg Tryz.underlying32 (argRow_below HR.out (belowA (Below.refl _ _))) (labCells_one L)) (by unfold maxLen; omega) (by omega) (by simp) ?_; intro v1 w1 hown1 hgr1 _ _)
    go_ret
    refine ⟨_, rfl, by simpa using hown1, (belowA (Below.refl _ _)).grown hgr1 (by simp) (fun k hk => ?_)⟩
    cases hk
    exact Nat.le_refl _

/-- What a label lacks. -/
def labBad (x : Lab) : Int := if nameOk x.1 = false then 6 else if 256 < x.2.size then 4 else if Lib.validD x.2.data.toList = false then 8 else 0
def firstBad : List Lab → Int
  | [] => 0
  | x :: L => if labBad x = 0 then firstBad L else labBad x
theorem firstBad_at {L : List Lab} {k : Nat} (h : k < L.length) : firstBad (L.drop k) = if labBad L[k] = 0 then firstBad (L.drop (k + 1)) else labBad L[k] := by
  rw [List.drop_eq_getElem_cons h]
  rfl
/-- Two of one name behind one another. -/
def Twice (L : List Lab) : Prop := ∃ i, ∃ h : i + 1 < L.length, L[i + 1].1.toList = L[i].1.toList

/-- What label.Canon comes to. -/
def CanonEnd (L : List Lab) (B : Nat) (w' : World) (e : Ending) : Prop :=
  if 16 < L.length then e = .returned (.tuple #[.slice none 0 0, .int .i64 3])
  else if firstBad L ≠ 0 then e = .returned (.tuple #[.slice none 0 0, .int .i64 (firstBad L)])
  else ∃ L', L'.Perm L ∧ Rising L' ∧ ((Twice L' ∧ e = .returned (.tuple #[.slice none 0 0, .int .i64 6])) ∨
    (¬ Twice L' ∧ ∃ v, e = .returned (.tuple #[v, .int .i64 0]) ∧ w'.ownsRow B 55 2 v L'.length (labCells L')))

set_option maxRecDepth 100000 in
set_option maxHeartbeats 4000000 in
theorem label_Canon (v : Value) (L : List Lab) (w : World) (h : LRow w v L) (hT : Tabs w) (hs : ∀ x ∈ L, x.1.size ≤ 1000000000 ∧ x.2.size ≤ 1000000000) (hLn : L.length ≤ 1048576) :
    Calls Tryz.prog 28 #[v] w fun e w' => CanonEnd L w.heap.size w' e ∧ Below w.heap.size w w' := by
  obtain ⟨aa, ca, rfl, hca, hca2⟩ := h.shape
  unfold maxLen at hca2
  have HA := Lib.hid h
  have HS := Lib.hid hs
  clear h hs
  by_cases h16 : 16 < L.length
  · have hi : (16 : Int) < (L.length : Int) := by omega
    have hpost : CanonEnd L w.heap.size w (.returned (.tuple #[.slice none 0 0, .int .i64 3])) := by unfold CanonEnd; rw [if_pos h16]
    have HP := Lib.hid hpost
    clear hpost
    go_enter Tryz.func28, Tryz.ntmps28
    go_wp2
    go_ret2
    exact ⟨HP.out, Below.refl _ _⟩
  · have hi : ¬ (16 : Int) < (L.length : Int) := by omega
    obtain ⟨F, hF⟩ : ∃ F, firstBad L = F := ⟨_, rfl⟩
    have HF := Lib.hid hF
    have hbad : F ≠ 0 → ∀ w', CanonEnd L w.heap.size w' (.returned (.tuple #[.slice none 0 0, .int .i64 F])) := fun h w' => by
      unfold CanonEnd
      rw [if_neg h16, hF, if_pos h]
    have hgood : F = 0 → ∀ w' e L', L'.Perm L → Rising L' → ((Twice L' ∧ e = .returned (.tuple #[.slice none 0 0, .int .i64 6])) ∨
      (¬ Twice L' ∧ ∃ v, e = .returned (.tuple #[v, .int .i64 0]) ∧ w'.ownsRow w.heap.size 55 2 v L'.length (labCells L'))) → CanonEnd L w.heap.size w' e := fun h w' e L' h1 h2 h3 => by
      unfold CanonEnd
      rw [if_neg h16, hF, if_neg (by simp [h])]
      exact ⟨L', h1, h2, h3⟩
    have HBAD := Lib.hid hbad
    have HGOOD := Lib.hid hgood
    clear hbad hgood hF
    have cN := Lib.hid (fun (s : ByteArray) W (hs : s.size ≤ 1000000000) => label_name s W (by unfold maxLen; omega))
    have cV := Lib.hid (fun (s : ByteArray) W (hs : s.size ≤ 1000000000) (hW : Below w.heap.size w W) => utf_Valid s W (by unfold maxLen; omega) (Utf8Tabs_below hT hW))
    go_enter Tryz.func28, Tryz.ntmps28
    go_wp2
    go_loopw [13] (fun iv wr => ∃ k : Nat, iv = .int .i64 k ∧ k ≤ L.length ∧ firstBad (L.drop k) = F ∧ Below w.heap.size w wr) (fun iv _ => L.length - (intOf iv).toNat)
    case atStart => exact ⟨0, rfl, Nat.zero_le _, HF.out, Below.refl _ _⟩
    case round =>
      obtain ⟨k, rfl, hk, hf, hb⟩ := hrel
      by_cases hlt : k < L.length
      · obtain ⟨ba, oa, rfl, hba, ga1, ga2⟩ := HA.out.at hlt
        have hst := firstBad_at hlt
        rw [hf] at hst
        have hsz := HS.out _ (List.getElem_mem hlt)
        have g1 : wr.cell? ⟨ba, oa + k * 2, none⟩ = some (.string L[k].1) := by rw [hb.cell (p := ⟨ba, _, none⟩) hba]; exact ga1
        have g2 : wr.cell? ⟨ba, oa + k * 2 + 1, none⟩ = some (.string L[k].2) := by rw [hb.cell (p := ⟨ba, _, none⟩) hba]; exact ga2
        have HST := Lib.hid hst
        clear hst hf ga1 ga2
        generalize L[k] = x at *
        obtain ⟨x1, x2⟩ := x
        simp only at *
        obtain ⟨hs1, hs2⟩ := hsz
        have i0 : (0 : Int) ≤ (k : Int) := by omega
        have i1 : (k : Int) < (L.length : Int) := by omega
        have hb1 : Below w.heap.size w (wr.alloc (.cells #[.string x1, .string x2] 55)) := belowA hb
        have hbox : ∀ W, Below (wr.alloc (.cells #[.string x1, .string x2] 55)).heap.size (wr.alloc (.cells #[.string x1, .string x2] 55)) W → W.cell? ⟨wr.heap.size, 0, none⟩ = some (.string x1) ∧ W.cell? ⟨wr.heap.size, 1, none⟩ = some (.string x2) := fun W hW => by
          have := fun j => cell_of_row (wr.alloc (.cells #[.string x1, .string x2] 55)) wr.heap.size j _ _ _ (heap_alloc_new _ _)
          have hs : (wr.alloc (.cells #[.string x1, .string x2] 55)).heap.size = wr.heap.size + 1 := by simp
          refine ⟨?_, ?_⟩
          · rw [hW.cell (p := ⟨wr.heap.size, 0, none⟩) (show wr.heap.size < _ by omega), this]; rfl
          · rw [hW.cell (p := ⟨wr.heap.size, 1, none⟩) (show wr.heap.size < _ by omega), this]; rfl
        have HBOX := Lib.hid hbox
        clear hbox
        have hval : labBad (x1, x2) = if nameOk x1 = false then 6 else if 256 < x2.size then 4 else if Lib.validD x2.data.toList = false then 8 else 0 := rfl
        have cN1 := Lib.hid (fun W => cN.out x1 W hs1)
        have cV1 := Lib.hid (fun W hW => cV.out x2 W hs2 hW)
        rw [hval] at HST
        clear hval
        obtain ⟨b1, h1⟩ : ∃ b, nameOk x1 = b := ⟨_, rfl⟩
        obtain ⟨b2, h2⟩ : ∃ b, Lib.validD x2.data.toList = b := ⟨_, rfl⟩
        rw [h1, h2] at HST
        rw [h1] at cN1
        rw [h2] at cV1
        clear h1 h2
        go_upto_region 6 with fail
        generalize wr.alloc (.cells #[.string x1, .string x2] 55) = w1 at *
        obtain ⟨q0, q1⟩ := HBOX.out _ (Below.refl _ _)
        cases b1
        · have hF6 : F = 6 := by have := HST.out; simpa using this
          have hp := HBAD.out (by omega)
          rw [hF6] at hp
          have HP := Lib.hid hp
          clear hp hF6
          go_wp2_with (go_at_call 60; refine (cN1.out _).mono ?_; rintro e w2 ⟨rfl, hb2⟩)
          go_ret2
          exact ⟨HP.out _, below_seq hb1 hb2⟩
        · by_cases h256 : 256 < x2.size
          · have hF4 : F = 4 := by have := HST.out; simpa [h256] using this
            have hp := HBAD.out (by omega)
            rw [hF4] at hp
            have HP := Lib.hid hp
            clear hp hF4
            have hz : (256 : Int) < (x2.size : Int) := by omega
            go_wp2_with (go_at_call 60; refine (cN1.out _).mono ?_; rintro e w2 ⟨rfl, hb2⟩; obtain ⟨r0, r1⟩ := HBOX.out _ hb2)
            go_ret2
            exact ⟨HP.out _, below_seq hb1 hb2⟩
          · have hz : ¬ (256 : Int) < (x2.size : Int) := by omega
            cases b2
            · have hF8 : F = 8 := by have := HST.out; simpa [h256] using this
              have hp := HBAD.out (by omega)
              rw [hF8] at hp
              have HP := Lib.hid hp
              clear hp hF8
              go_wp2_with (first | (go_at_call 60; refine (cN1.out _).mono ?_; rintro e w2 ⟨rfl, hb2⟩; obtain ⟨r0, r1⟩ := HBOX.out _ hb2) | (go_at_call 41; refine (cV1.out _ (below_seq hb1 hb2)).mono ?_; rintro e w3 ⟨rfl, hb3⟩))
              go_ret2
              exact ⟨HP.out _, below_seq (below_seq hb1 hb2) hb3⟩
            · have hfin : F = firstBad (L.drop (k + 1)) := by have := HST.out; simpa [h256] using this
              have HFIN := Lib.hid hfin
              clear hfin
              go_wp2_with (first | (go_at_call 60; refine (cN1.out _).mono ?_; rintro e w2 ⟨rfl, hb2⟩; obtain ⟨r0, r1⟩ := HBOX.out _ hb2) | (go_at_call 41; refine (cV1.out _ (below_seq hb1 hb2)).mono ?_; rintro e w3 ⟨rfl, hb3⟩))
              go_roundw
              case rel => exact ⟨k + 1, by go_num, by omega, HFIN.out.symm, below_seq (below_seq hb1 hb2) hb3⟩
              case measure => simp [intOf]; omega
      · have i1 : ¬ (k : Int) < (L.length : Int) := by omega
        rw [List.drop_of_length_le (by omega)] at hf
        have hF0 : F = 0 := hf.symm
        have HG := Lib.hid (HGOOD.out hF0)
        clear hf hF0 HGOOD HBAD cN cV
        obtain ⟨wo, hwo⟩ : ∃ wo : World, wo = wr := ⟨_, rfl⟩
        subst hwo
        go_upto_region 14 with (go_at_call 61; refine (label_clone _ L _ (HA.out.below hb) (by omega)).mono ?_; rintro e w2 ⟨v2, rfl, hown2, hb2⟩)
        have hb02 := below_seq hb hb2
        have cS := label_sort hown2 (by omega)
        go_upto_region 15 with (go_at_call 62; refine cS.mono ?_; rintro e w3 ⟨rfl, L', hperm, hris, hown3, hgr3⟩)
        have hlen' : L'.length = L.length := hperm.length_eq
        have hb3 := hb02.grown hgr3 hb02.size (fun k hk => by have := (hown2.lt k hk).1; have := hb.size; omega)
        have hBase : w.heap.size ≤ wo.heap.size := hb.size
        obtain ⟨a2, c2, rfl⟩ := owns_slice hown3
        have HROW : LRow w3 (.slice a2 L'.length c2) L' := argRow_owns hown3
        have HOWN := Lib.hid (owns_base hown3 hBase)
        have HPR := Lib.hid (And.intro hperm hris)
        have hL16 : L'.length ≤ 16 := by omega
        clear hown2 hown3 hgr3 cS hperm hris hb hb02 hb2 HA HS HF hlen'
        go_wp2
        go_loopw [39] (fun iv wr => ∃ k : Nat, iv = .int .i64 k ∧ k ≤ L'.length ∧ (∀ j (h1 : j + 1 < k) (h2 : j + 1 < L'.length), L'[j + 1].1.toList ≠ L'[j].1.toList) ∧ Below w3.heap.size w3 wr) (fun iv _ => L'.length - (intOf iv).toNat)
        case atStart => exact ⟨0, rfl, Nat.zero_le _, fun j h1 _ => by omega, Below.refl _ _⟩
        case round =>
          obtain ⟨k, rfl, hk, hno, hbz⟩ := hrel
          have HNO := Lib.hid hno
          clear hno
          have hdn : ∀ n, Below w3.heap.size w3 (wr.drewN n) := fun n => ⟨hbz.os, hbz.tape, hbz.output, hbz.size, hbz.block⟩
          by_cases hlt : k < L'.length
          · obtain ⟨ba, oa, rfl, hba, ga1, ga2⟩ := HROW.at hlt
            have g1 : ∀ n, (wr.drewN n).cell? ⟨ba, oa + k * 2, none⟩ = some (.string L'[k].1) := fun n => by rw [(hdn n).cell (p := ⟨ba, _, none⟩) hba]; exact ga1
            have i0 : (0 : Int) ≤ (k : Int) := by omega
            have i1 : (k : Int) < (L'.length : Int) := by omega
            cases k with
            | zero =>
              have HDN := Lib.hid hdn
              clear hdn ga1 ga2 HROW
              go_wp2_with fail
              go_quiet (fail)
              go_wp2_with fail
              go_roundw
              case rel => exact ⟨1, rfl, by omega, fun j h1 _ => by omega, HDN.out _⟩
              case measure => simp [intOf]; omega
            | succ k =>
              obtain ⟨bx, ox, e, _, gb1, _⟩ := HROW.at (k := k) (by omega)
              cases e
              have g2 : ∀ n, (wr.drewN n).cell? ⟨ba, oa + k * 2, none⟩ = some (.string L'[k].1) := fun n => by rw [(hdn n).cell (p := ⟨ba, _, none⟩) hba]; exact gb1
              have HDN := Lib.hid hdn
              have htw : L'[k + 1].1.toList = L'[k].1.toList → Twice L' := fun h => ⟨k, hlt, h⟩
              have hnx : L'[k + 1].1.toList ≠ L'[k].1.toList → ∀ j (h1 : j + 1 < k + 1 + 1) (h2 : j + 1 < L'.length), L'[j + 1].1.toList ≠ L'[j].1.toList := fun h j h1 h2 => by
                by_cases hj : j = k
                · subst hj; exact h
                · exact HNO.out j (by omega) h2
              have HTW := Lib.hid htw
              have HNX := Lib.hid hnx
              clear hdn ga1 ga2 gb1 HROW htw hnx
              generalize L'[k + 1].1 = n1 at *
              generalize L'[k].1 = n2 at *
              obtain ⟨q, hq⟩ : ∃ q, (n1.toList == n2.toList) = q := ⟨_, rfl⟩
              have k0 : (0 : Int) ≤ (k : Int) := by omega
              have k1 : (k : Int) < (L'.length : Int) := by omega
              have kp : (0 : Int) < (k : Int) + 1 := by omega
              have kpn : 0 < k + 1 := by omega
              have kpd : decide ((k : Int) + 1 > 0) = true := decide_eq_true kp
              cases q
              · have hfin := HNX.out (fun h => by rw [h] at hq; simp at hq)
                have HFIN := Lib.hid hfin
                clear hfin
                go_wp2_with fail
                go_quiet (fail)
                go_wp2_with fail
                go_roundw
                case rel => exact ⟨k + 1 + 1, by go_num, by omega, HFIN.out, HDN.out _⟩
                case measure => simp [intOf]; omega
              · have hfin := HTW.out (eq_of_beq hq)
                have HFIN := Lib.hid hfin
                clear hfin
                go_wp2_with fail
                go_quiet (fail)
                go_wp2_with fail
                go_ret2
                exact ⟨HG.out _ _ L' HPR.out.1 HPR.out.2 (.inl ⟨HFIN.out, rfl⟩), below_seq hb3 (HDN.out _)⟩
          · have i1 : ¬ (k : Int) < (L'.length : Int) := by omega
            have hnt : ¬ Twice L' := fun ⟨j, h1, h2⟩ => HNO.out j (by omega) h1 h2
            have HNT := Lib.hid hnt
            clear hnt
            go_wp2
            go_ret2
            exact ⟨HG.out _ _ L' HPR.out.1 HPR.out.2 (.inr ⟨HNT.out, _, rfl, owns_below HOWN.out hbz⟩), below_seq hb3 hbz⟩
end Go.Proofs.YtljnbbdhmlfhjaaGreatDoor
/-
  Plain laws of canonical lists: a rising list with no two of one name is the only one of its kind; labels put in where they belong.
-/
namespace Go.Proofs.YtljnbbdhmlfhjaaGreatDoor

theorem less_trans {x y z : Lab} (h1 : lessN x y = true) (h2 : lessN y z = true) : lessN x z = true := by
  unfold lessN at *
  rw [bytesLess_eq] at *
  simp only [decide_eq_true_eq] at *
  exact List.lt_trans h1 h2
theorem less_asymm {x y : Lab} (h1 : lessN x y = true) : lessN y x = false := by
  cases h : lessN y x
  · rfl
  · have := less_trans h1 h
    rw [show lessN x x = false from less_irrefl _] at this
    cases this
theorem less_ne {x y : Lab} (h1 : lessN x y = true) : x.1.toList ≠ y.1.toList := fun e => by
  unfold lessN at h1
  rw [e, less_irrefl] at h1
  cases h1
theorem less_total {x y : Lab} (h1 : lessN x y = false) (h2 : x.1.toList ≠ y.1.toList) : lessN y x = true := by
  unfold lessN at *
  rw [bytesLess_eq] at *
  simp only [decide_eq_false_iff_not, decide_eq_true_eq] at *
  rw [List.not_lt] at h1
  rcases List.le_iff_lt_or_eq.1 h1 with h | h
  · exact h
  · exact absurd h.symm h2
/-- Each name below the next. -/
def Strict (L : List Lab) : Prop := L.Pairwise fun x y => lessN x y = true
def Distinct (L : List Lab) : Prop := (L.map fun x : Lab => x.1.toList).Nodup
instance (L : List Lab) : Decidable (Distinct L) := inferInstanceAs (Decidable (List.Nodup _))
theorem strict_of {L : List Lab} (hr : Rising L) (ht : ¬ Twice L) : Strict L := by
  have adj : ∀ i (h : i + 1 < L.length), lessN L[i] L[i + 1] = true := fun i h => less_total (hr i (i + 1) (by omega) h) (fun e => ht ⟨i, h, e⟩)
  have all : ∀ d i (h : i + d + 1 < L.length), lessN L[i] L[i + d + 1] = true := by
    intro d
    induction d with
    | zero => intro i h; exact adj i h
    | succ d ih =>
      intro i h
      exact less_trans (ih i (by omega)) (adj (i + d + 1) (by omega))
  unfold Strict
  rw [List.pairwise_iff_getElem]
  intro i j hi hj hij
  obtain ⟨d, rfl⟩ : ∃ d, j = i + d + 1 := ⟨j - i - 1, by omega⟩
  exact all d i hj
theorem strict_distinct {L : List Lab} (h : Strict L) : Distinct L := by
  unfold Distinct List.Nodup
  rw [List.pairwise_map]
  exact h.imp fun hxy => less_ne hxy
theorem strict_unique {A B : List Lab} (hA : Strict A) (hB : Strict B) (h : A.Perm B) : A = B :=
  List.Perm.eq_of_pairwise (le := fun x y => lessN x y = true) (fun a b _ _ h1 h2 => by rw [less_asymm h1] at h2; cases h2) hA hB h
theorem distinct_perm {A B : List Lab} (h : A.Perm B) : Distinct A ↔ Distinct B := (h.map _).nodup_iff
theorem twice_not {L : List Lab} (h : Twice L) : ¬ Distinct L := fun hd => by
  obtain ⟨i, hi, e⟩ := h
  unfold Distinct List.Nodup at hd
  rw [List.pairwise_map] at hd
  exact List.pairwise_iff_getElem.1 hd i (i + 1) (by omega) hi (by omega) e.symm

/-- A label put in where it belongs. -/
def insN (x : Lab) : List Lab → List Lab
  | [] => [x]
  | y :: S => if lessN y x then y :: insN x S else x :: y :: S
def insAll (L : List Lab) : List Lab := L.foldl (fun S x => insN x S) []
theorem insN_perm (x : Lab) : ∀ S : List Lab, (insN x S).Perm (x :: S)
  | [] => List.Perm.refl _
  | y :: S => by
    unfold insN
    split
    · exact ((insN_perm x S).cons y).trans (List.Perm.swap x y S)
    · exact List.Perm.refl _
theorem insN_strict {x : Lab} : ∀ {S : List Lab}, Strict S → (∀ y ∈ S, y.1.toList ≠ x.1.toList) → Strict (insN x S)
  | [], _, _ => List.pairwise_singleton _ _
  | y :: S, h, hn => by
    have h' := List.pairwise_cons.1 h
    unfold insN
    split
    · rename_i hl
      refine List.pairwise_cons.2 ⟨fun z hz => ?_, insN_strict h'.2 fun z hz => hn z (by simp [hz])⟩
      rcases List.mem_cons.1 ((insN_perm x S).mem_iff.1 hz) with rfl | hz
      · exact hl
      · exact h'.1 z hz
    · rename_i hl
      have hxy : lessN x y = true := less_total (by simpa using hl) (hn y (by simp))
      refine List.pairwise_cons.2 ⟨fun z hz => ?_, h⟩
      rcases List.mem_cons.1 hz with rfl | hz
      · exact hxy
      · exact less_trans hxy (h'.1 z hz)
theorem insAll_snoc (L : List Lab) (x : Lab) : insAll (L ++ [x]) = insN x (insAll L) := by simp [insAll]
theorem insAll_perm (L : List Lab) : (insAll L).Perm L := by
  have : ∀ (L S : List Lab), (L.foldl (fun S x => insN x S) S).Perm (S ++ L) := by
    intro L
    induction L with
    | nil => intro S; simp
    | cons x L ih =>
      intro S
      refine (ih (insN x S)).trans ?_
      refine ((insN_perm x S).append_right L).trans ?_
      exact (List.perm_middle (a := x) (l₁ := S) (l₂ := L)).symm
  exact this L []
theorem distinct_snoc {L : List Lab} {x : Lab} : Distinct (L ++ [x]) ↔ Distinct L ∧ ∀ y ∈ L, y.1.toList ≠ x.1.toList := by
  unfold Distinct
  rw [List.map_append, List.nodup_append]
  simp
  exact fun _ => ⟨fun h a b hm => h _ a b hm rfl, fun h l a b hm e => by subst e; exact h a b hm⟩
theorem insAll_strict : ∀ (n : Nat) {L : List Lab}, L.length = n → Distinct L → Strict (insAll L)
  | 0, L, h, _ => by
    obtain rfl := List.eq_nil_of_length_eq_zero h
    exact List.Pairwise.nil
  | n + 1, L, h, hd => by
    obtain ⟨A, x, rfl⟩ : ∃ A x, L = A ++ [x] := ⟨L.dropLast, L.getLast (by intro e; subst e; cases h), (List.dropLast_concat_getLast _).symm⟩
    obtain ⟨h1, h2⟩ := distinct_snoc.1 hd
    rw [insAll_snoc]
    refine insN_strict (insAll_strict n (by simpa using h) h1) fun y hy => h2 y ((insAll_perm A).mem_iff.1 hy)

/-- THE CANONICAL LIST, or what a list lacks. -/
def canonE (L : List Lab) : Int := if 16 < L.length then 3 else if firstBad L ≠ 0 then firstBad L else if Distinct L then 0 else 6
def canonL (L : List Lab) : List Lab := if canonE L = 0 then insAll L else []
theorem canon_end {L : List Lab} {B : Nat} {w' : World} {e : Ending} (h : CanonEnd L B w' e) :
    ∃ v, e = .returned (.tuple #[v, .int .i64 (canonE L)]) ∧ w'.ownsRow B 55 2 v (canonL L).length (labCells (canonL L)) := by
  unfold CanonEnd at h
  have nil : ∀ z : Int, z ≠ 0 → canonE L = z → canonL L = [] := fun z hz he => by unfold canonL; rw [if_neg (by rw [he]; exact hz)]
  split at h
  · rename_i h16
    have he : canonE L = 3 := by unfold canonE; rw [if_pos h16]
    exact ⟨_, by rw [h, he], by rw [nil 3 (by omega) he]; exact World.ownsRow_nil _ _ _ _⟩
  · rename_i h16
    split at h
    · rename_i hb
      have he : canonE L = firstBad L := by unfold canonE; rw [if_neg h16, if_pos hb]
      exact ⟨_, by rw [h, he], by rw [nil _ hb he]; exact World.ownsRow_nil _ _ _ _⟩
    · rename_i hb
      obtain ⟨L', hp, hr, h⟩ := h
      rcases h with ⟨ht, he⟩ | ⟨ht, v, he, ho⟩
      · have hd : ¬ Distinct L := fun hd => twice_not ht ((distinct_perm hp).2 hd)
        have hE : canonE L = 6 := by unfold canonE; rw [if_neg h16, if_neg hb, if_neg hd]
        exact ⟨_, by rw [he, hE], by rw [nil 6 (by omega) hE]; exact World.ownsRow_nil _ _ _ _⟩
      · have hs := strict_of hr ht
        have hd : Distinct L := (distinct_perm hp).1 (strict_distinct hs)
        have hE : canonE L = 0 := by unfold canonE; rw [if_neg h16, if_neg hb, if_pos hd]
        have hl : canonL L = L' := by
          unfold canonL
          rw [if_pos hE]
          exact strict_unique (insAll_strict _ rfl hd) hs ((insAll_perm L).trans hp.symm)
        exact ⟨v, by rw [he, hE], by rw [hl]; exact ho⟩
end Go.Proofs.YtljnbbdhmlfhjaaGreatDoor
