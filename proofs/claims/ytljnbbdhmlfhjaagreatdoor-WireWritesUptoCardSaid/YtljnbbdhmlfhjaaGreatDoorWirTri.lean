/-
  What is written of records, plainly.
-/
import Derived.Test.YtljnbbdhmlfhjaaGreatDoorWirOne
import Derived.Test.YtljnbbdhmlfhjaaGreatDoorWTwo
import Derived.Lib.ItoaLen
import Derived.Test.YtljnbbdhmlfhjaaGreatDoorWirTwo
import Derived.Test.YtljnbbdhmlfhjaaGreatDoorJsLAll
import Derived.Deep.RegionHeld3
import Derived.Test.YtljnbbdhmlfhjaaGreatDoorJsTwo
import Derived.Test.YtljnbbdhmlfhjaaGreatDoorRecAll
import Derived.Lib.SlBytesConst
namespace Go.Proofs.YtljnbbdhmlfhjaaGreatDoor
open Go.RowKit
def bsOf (s : ByteArray) : Bs := s.data.toList
def memOf (x : Lab) : Bs × J := (bsOf x.1, .str (bsOf x.2))
/-- A record as a value. -/
def recJ (r : Rec) : J := .obj [(kTime, .num (Lib.itoa r.time)), (kSeq, .num (Lib.decDigits r.seq)), (kLabels, .obj (r.labs.map memOf)), (kLine, .str (bsOf r.line))]
def underJ (k : Bs) (l : List J) : J := .obj [(k, .arr l)]
def validR (r : Rec) : Bool := Lib.validD (bsOf r.line) && r.labs.all fun x => Lib.validD (bsOf x.1) && Lib.validD (bsOf x.2)
theorem dec_num (n : Nat) : NumS (Lib.decDigits n) := by
  have := itoa_num (n : Int)
  rwa [Lib.itoa_nonneg] at this
theorem numsM_map : ∀ l : List Lab, numsM (l.map memOf)
  | [] => trivial
  | _ :: l => ⟨trivial, numsM_map l⟩
theorem nums_recJ (r : Rec) : numsJ (recJ r) := ⟨itoa_num _, dec_num _, numsM_map _, trivial, trivial⟩
theorem numsL_map : ∀ l : List Rec, numsL (l.map recJ)
  | [] => trivial
  | r :: l => ⟨nums_recJ r, numsL_map l⟩
theorem nums_under {l : List J} (k : Bs) (h : numsL l) : numsJ (underJ k l) := ⟨h, trivial⟩
theorem okNum {s : Bs} (h : NumS s) (d : Nat) : okW d (.num s) = true := by
  obtain ⟨h1, h2⟩ := (num_iff s).1 h
  simp only [okW, Bool.and_eq_true, beq_iff_eq, Bool.not_eq_true', List.isEmpty_eq_false_iff]
  exact ⟨h1, h2⟩
theorem okWM_map (d : Nat) : ∀ l : List Lab, okWM d (l.map memOf) = l.all fun x => Lib.validD (bsOf x.1) && Lib.validD (bsOf x.2)
  | [] => rfl
  | x :: l => by
    simp only [List.map_cons, okWM, okWE, memOf, okW, List.all_cons]
    rw [← okWM_map d l]
theorem okW_recJ (r : Rec) {d : Nat} (hd : d ≤ 14) : okW d (recJ r) = validR r := by
  have k1 : Lib.validD kTime = true := by decide
  have k2 : Lib.validD kSeq = true := by decide
  have k3 : Lib.validD kLabels = true := by decide
  have k4 : Lib.validD kLine = true := by decide
  have a1 := okNum (itoa_num r.time) (d + 1)
  have a2 := okNum (dec_num r.seq) (d + 1)
  have h1 : okW d (recJ r) = (decide (d < 16) && (Lib.validD kTime && okW (d + 1) (.num (Lib.itoa r.time)) && (Lib.validD kSeq && okW (d + 1) (.num (Lib.decDigits r.seq)) && (Lib.validD kLabels && (decide (d + 1 < 16) && okWM (d + 1 + 1) (r.labs.map memOf)) && (Lib.validD kLine && Lib.validD (bsOf r.line) && true))))) := rfl
  rw [h1, a1, a2, k1, k2, k3, k4, okWM_map, decide_eq_true (show d < 16 by omega), decide_eq_true (show d + 1 < 16 by omega)]
  unfold validR
  cases Lib.validD (bsOf r.line) <;> simp
theorem okWL_map : ∀ l : List Rec, okWL 2 (l.map recJ) = l.all validR
  | [] => rfl
  | r :: l => by
    simp only [List.map_cons, okWL, List.all_cons]
    rw [okW_recJ r (by omega), okWL_map l]
theorem okW_recs (l : List Rec) : okW 0 (underJ kRecords (l.map recJ)) = l.all validR := by
  have h : okW 0 (underJ kRecords (l.map recJ)) = (decide (0 < 16) && (Lib.validD kRecords && (decide (1 < 16) && okWL 2 (l.map recJ)) && true)) := rfl
  rw [h, okWL_map, show Lib.validD kRecords = true by decide]
  simp

/-! ### How long -/
theorem labs_form : ∀ l : List Lab, (formU (l.map memOf)).length ≤ 6 * (l.map fun x : Lab => x.1.size + x.2.size + 1).sum
  | [] => Nat.zero_le _
  | x :: l => by
    have ih := labs_form l
    have h1 := quote_len (bsOf x.1)
    have h2 := quote_len (bsOf x.2)
    have e1 : (bsOf x.1).length = x.1.size := by simp [bsOf, ByteArray.size_data]
    have e2 : (bsOf x.2).length = x.2.size := by simp [bsOf, ByteArray.size_data]
    simp only [List.map_cons, List.sum_cons, formU, memOf, formE, formJ, List.length_cons, List.length_append]
    omega
theorem formM_U (l : List (Bs × J)) : (formM l).length ≤ (formU l).length := by
  cases l with
  | nil => exact Nat.le_refl _
  | cons x l => simp only [formM, formU, List.length_cons, List.length_append]; omega
theorem formL_T (l : List J) : (formL l).length ≤ (formT l).length := by
  cases l with
  | nil => exact Nat.le_refl _
  | cons x l => simp only [formL, formT, List.length_cons, List.length_append]; omega
theorem rec_form (r : Rec) (h1 : -9223372036854775808 ≤ r.time ∧ r.time ≤ 9223372036854775807) (h2 : r.seq < 18446744073709551616) : (formJ (recJ r)).length ≤ 6 * sizeR r + 100 := by
  have a1 := Lib.itoa_length_le r.time h1.1 h1.2
  have a2 : (Lib.decDigits r.seq).length ≤ 20 := by rw [Lib.decDigits_length]; exact Lib.nDigits_le20 _ h2
  have a3 := labs_form r.labs
  have a4 := formM_U (r.labs.map memOf)
  have a5 := quote_len (bsOf r.line)
  have e1 : (bsOf r.line).length = r.line.size := by simp [bsOf, ByteArray.size_data]
  have q1 : (quote kTime).length = 6 := by decide
  have q2 : (quote kSeq).length = 5 := by decide
  have q3 : (quote kLabels).length = 8 := by decide
  have q4 : (quote kLine).length = 6 := by decide
  unfold sizeR
  simp only [recJ, formJ, formM, formU, formE, List.length_cons, List.length_append, List.length_nil, q1, q2, q3, q4]
  omega
theorem recs_form : ∀ l : List Rec, (∀ r ∈ l, (-9223372036854775808 ≤ r.time ∧ r.time ≤ 9223372036854775807) ∧ r.seq < 18446744073709551616) → (formT (l.map recJ)).length ≤ (l.map fun r => 6 * sizeR r + 101).sum
  | [], _ => Nat.zero_le _
  | r :: l, h => by
    have ih := recs_form l fun x hx => h x (by simp [hx])
    have h1 := rec_form r (h r (by simp)).1 (h r (by simp)).2
    simp only [List.map_cons, formT, List.sum_cons, List.length_cons, List.length_append]
    omega
theorem under_form (k : Bs) (l : List J) : (formJ (underJ k l)).length ≤ 6 * k.length + (formT l).length + 7 := by
  have h1 := quote_len k
  have h2 := formL_T l
  simp only [underJ, formJ, formM, formU, formE, List.length_cons, List.length_append, List.length_nil]
  omega
end Go.Proofs.YtljnbbdhmlfhjaaGreatDoor
/-
  wire.value: a record as a value, in memory; wire.One.
-/
namespace Go.Proofs.YtljnbbdhmlfhjaaGreatDoor
open Go.RowKit
def memCells (L : List Lab) : List Value := L.flatMap fun x => [.string x.1, .iface 9 (.string x.2)]
theorem memCells_append (A B : List Lab) : memCells (A ++ B) = memCells A ++ memCells B := List.flatMap_append
theorem EMJ : ElemT Tryz.prog 79 93 (.agg #[.string ⟨#[]⟩, .nilIface]) 2 32 := ⟨Tryz.underlying79, by kernel_rfl, rfl, by decide⟩
theorem repM_labs (w : World) (S : Nat → Prop) : ∀ L : List Lab, RepM w S (L.map memOf) (memCells L)
  | [] => rfl
  | x :: L => ⟨.iface 9 (.string x.2), memCells L, by simp only [memCells, List.flatMap_cons, memOf]; rfl, rfl, repM_labs w S L⟩
/-- The members that a record's labels make, in the call's own memory. -/
theorem rep_labs {w : World} {lo : Nat} {v : Value} {L : List Lab} (h : w.ownsRow lo 93 2 v L.length (memCells L)) : RepJ w (Nw lo w) (.obj (L.map memOf)) (.iface 79 v) :=
  ⟨v, memCells L, rfl, by rw [List.length_map]; exact rowS_own h, repM_labs _ _ L⟩
/-- A record as a value, its members laid in one block. -/
theorem rep_rec {w : World} {lo : Nat} {v : Value} {r : Rec} (hlo : lo ≤ w.heap.size) (h : RepJ w (Nw lo w) (.obj (r.labs.map memOf)) (.iface 79 v)) :
    RepJ (w.alloc (.cells #[.string ⟨#[116, 105, 109, 101]⟩, .iface 95 (.string ⟨(Lib.itoa r.time).toArray⟩), .string ⟨#[115, 101, 113]⟩, .iface 95 (.string ⟨(Lib.decDigits r.seq).toArray⟩), .string ⟨#[108, 97, 98, 101, 108, 115]⟩, .iface 79 v, .string ⟨#[108, 105, 110, 101]⟩, .iface 9 (.string r.line)] 93))
      (Nw lo (w.alloc (.cells #[.string ⟨#[116, 105, 109, 101]⟩, .iface 95 (.string ⟨(Lib.itoa r.time).toArray⟩), .string ⟨#[115, 101, 113]⟩, .iface 95 (.string ⟨(Lib.decDigits r.seq).toArray⟩), .string ⟨#[108, 97, 98, 101, 108, 115]⟩, .iface 79 v, .string ⟨#[108, 105, 110, 101]⟩, .iface 9 (.string r.line)] 93))) (recJ r) (.iface 79 (.slice (some ⟨w.heap.size, 0, none⟩) 4 4)) := by
  have ho := World.ownsRow_lit (base := lo) (e := 93) (size := 2) w #[.string ⟨#[116, 105, 109, 101]⟩, .iface 95 (.string ⟨(Lib.itoa r.time).toArray⟩), .string ⟨#[115, 101, 113]⟩, .iface 95 (.string ⟨(Lib.decDigits r.seq).toArray⟩), .string ⟨#[108, 97, 98, 101, 108, 115]⟩, .iface 79 v, .string ⟨#[108, 105, 110, 101]⟩, .iface 9 (.string r.line)] 4 hlo (by decide) rfl
  refine ⟨_, [.string ⟨#[116, 105, 109, 101]⟩, .iface 95 (.string ⟨(Lib.itoa r.time).toArray⟩), .string ⟨#[115, 101, 113]⟩, .iface 95 (.string ⟨(Lib.decDigits r.seq).toArray⟩), .string ⟨#[108, 97, 98, 101, 108, 115]⟩, .iface 79 v, .string ⟨#[108, 105, 110, 101]⟩, .iface 9 (.string r.line)], rfl, rowS_own ho, _, _, rfl, rfl, _, _, rfl, rfl, _, _, rfl, ?_, _, _, rfl, rfl, rfl⟩
  exact RepJ.to (fun k hk => ⟨⟨hk.1, by have := hk.2; simp; omega⟩, fun hk2 => heap_alloc_old w _ hk2⟩) _ _ h
def ValueR (w : World) (r : Rec) (e : Ending) (w' : World) : Prop :=
  ∃ p, e = .returned (.slice (some ⟨p, 0, none⟩) 4 4) ∧ RepJ w' (Nw w.heap.size w') (recJ r) (.iface 79 (.slice (some ⟨p, 0, none⟩) 4 4)) ∧ Below w.heap.size w w'
set_option maxRecDepth 100000 in
set_option maxHeartbeats 40000000 in
theorem wire_value (r : Rec) (lv : Value) (w : World) (hT : T23 w) (hL : LRow w lv r.labs) (ht : -9223372036854775808 ≤ r.time ∧ r.time ≤ 9223372036854775807) (hs : r.seq < 18446744073709551616) (hln : r.labs.length ≤ 1048576) :
    Calls Tryz.prog 39 #[recV r lv] w (ValueR w r) := by
  have CN := Lib.hid (fun (W : World) (hW : Below w.heap.size w W) => wire_number r.time ht.1 ht.2 W (hT.to hW))
  have CU := Lib.hid (fun (W : World) (hW : Below w.heap.size w W) => fmt_uint r.seq hs W (hT.to hW))
  have hb1 := belowAJ (o := .cells #[.int .i64 r.time, .int .u64 (r.seq : Int), lv, .string r.line] 34) (Below.refl w.heap.size w) (Nat.le_refl _)
  have hbox := heap_alloc_new w (.cells #[.int .i64 r.time, .int .u64 (r.seq : Int), lv, .string r.line] 34)
  obtain ⟨a, cap, rfl, hca, hcm⟩ := hL.shape
  have HLAB := Lib.hid (fun (W : World) (hW : Below w.heap.size w W) (k : Nat) (hk : k < r.labs.length) => (hL.below hW).at hk)
  have HREP := Lib.hid (fun (W : World) (lo : Nat) (v : Value) (hlo : lo ≤ W.heap.size) (h : RepJ W (Nw lo W) (.obj (r.labs.map memOf)) (.iface 79 v)) => rep_rec (r := r) hlo h)
  unfold recV
  obtain ⟨n, hn⟩ : ∃ n, r.labs.length = n := ⟨_, rfl⟩
  have HN := Lib.hid hn
  rw [hn] at hln hca hb1 hbox ⊢
  obtain ⟨L, hL2⟩ : ∃ L, r.labs = L := ⟨_, rfl⟩
  have HL2 := Lib.hid hL2
  rw [hL2] at HLAB
  have HLN := Lib.hid (show L.length = n by rw [← hL2, hn])
  clear hT hL ht hs hn hL2
  go_enter Tryz.func39, Tryz.ntmps39
  go_upto_region 1 with fail
  obtain ⟨w1, hw1⟩ : ∃ W, w.alloc (.cells #[.int .i64 r.time, .int .u64 (r.seq : Int), .slice a n cap, .string r.line] 34) = W := ⟨_, rfl⟩
  rw [hw1] at hb1 hbox ⊢
  clear hw1
  have hbb2 := belowAJ (o := .cells #[] 93) (Below.refl w1.heap.size w1) (Nat.le_refl _)
  have ho2 := World.ownsRow_lit (base := w1.heap.size) (e := 93) (size := 2) w1 #[] 0 (Nat.le_refl _) (by decide) rfl
  have hbox2 := block_on hbb2 hbox
  have c2 := (cells4 hbox2).2.2.1
  have HBOX := Lib.hid (fun (W : World) (hW : Below w1.heap.size w1 W) => block_on hW hbox)
  have HB1 := Lib.hid hb1
  clear hbox hbox2
  go_wp2
  go_loopw [3, 10] (fun ov iv wr => ∃ k : Nat, iv = .int .i64 k ∧ k ≤ n ∧ wr.ownsRow w1.heap.size 93 2 ov k (memCells (L.take k)) ∧ Below w1.heap.size w1 wr) (fun _ iv _ => n - (intOf iv).toNat)
  case atStart => exact ⟨0, rfl, by omega, ho2, hbb2⟩
  case round =>
    obtain ⟨k, rfl, hk, ho, hb⟩ := hrel
    have hwr := HB1.out.trans (hb.mono HB1.out.size)
    have HO := Lib.hid ho
    have HB := Lib.hid hb
    have hsz := hb.size
    obtain ⟨va, vc, rfl⟩ := owns_slice ho
    by_cases hkl : k < n
    · have d1 : decide ((k : Int) < (n : Int)) = true := decide_eq_true (by omega)
      have hkL : k < L.length := by rw [HLN.out]; exact hkl
      obtain ⟨b, off, rfl, hbl, q0, q1⟩ := HLAB.out wr hwr k hkL
      have htk : L.take (k + 1) = L.take k ++ [L[k]] := List.take_succ_eq_append_getElem hkL
      obtain ⟨x, hx⟩ : ∃ x, L[k].1 = x := ⟨_, rfl⟩
      obtain ⟨y, hy⟩ : ∃ x, L[k].2 = x := ⟨_, rfl⟩
      rw [hx] at q0
      rw [hy] at q1
      have HTK := Lib.hid (show memCells (L.take (k + 1)) = memCells (L.take k) ++ [.string x, .iface 9 (.string y)] by
        rw [htk, memCells_append, ← hx, ← hy]
        rfl)
      clear htk hx hy ho2 hbb2 c2
      go_upto_region 5 with fail
      have hb3 := belowAJ (o := .cells #[.string x, .string y] 55) (Below.refl wr.heap.size wr) (Nat.le_refl _)
      have hn3 := heap_alloc_new wr (.cells #[.string x, .string y] 55)
      have ho3 := ho.alloc (.cells #[.string x, .string y] 55)
      have e0 : (wr.alloc (.cells #[.string x, .string y] 55)).cell? ⟨wr.heap.size, 0, none⟩ = some (.string x) := by rw [Lib.cell_of_heap hn3]; rfl
      have e1 : (wr.alloc (.cells #[.string x, .string y] 55)).cell? ⟨wr.heap.size, 1, none⟩ = some (.string y) := by rw [Lib.cell_of_heap hn3]; rfl
      obtain ⟨w3, hw3⟩ : ∃ W, wr.alloc (.cells #[.string x, .string y] 55) = W := ⟨_, rfl⟩
      rw [hw3] at hb3 ho3 e0 e1 ⊢
      have hbw3 := hb.trans (hb3.mono hb.size)
      have hsz3 := hbw3.size
      have HB3 := Lib.hid hbw3
      clear hw3 hn3 hb3 hbw3 ho hb q0 q1
      go_wp2_with (at_builtin; go_loud (refine wpList_append_src rfl _ _ _ _ rfl w1.heap.size EMJ _ k (memCells (L.take k)) rfl (ho3.alloc _) _ 1 [.string x, .iface 9 (.string y)] rfl (by exact src_last (cs := #[.string x, .iface 9 (.string y)]) Tryz.underlying79 1 1 2 rfl rfl (by simp [Value.oneCell'])) (by unfold maxLen; omega) (by omega) (by simp; omega) ?_); intro v9 w9 hown9 hgr9 _ _; have H9 := Lib.hid (And.intro hown9 hgr9); clear hown9 hgr9)
      go_roundw
      case rel =>
        refine ⟨k + 1, by go_num, by omega, ?_, ?_⟩
        · rw [HTK.out]
          exact H9.out.1
        · exact (belowAJ HB3.out HB3.out.size).grown H9.out.2 (by simp; omega) (fun j hj => (HO.out.lt j hj).1)
      case measure => simp [intOf]; omega
    · have d1 : decide ((k : Int) < (n : Int)) = false := decide_eq_false (by omega)
      have hkn : k = n := by omega
      subst hkn
      have hfull : wr.ownsRow w.heap.size 93 2 (.slice va k vc) r.labs.length (memCells r.labs) := by
        have h := owns_base HO.out HB1.out.size
        rw [List.take_of_length_le (Nat.le_of_eq HLN.out), ← HL2.out] at h
        rw [HN.out]
        exact h
      have HFULL := Lib.hid (rep_labs hfull)
      have HC := Lib.hid (fun (W : World) (hW : Below wr.heap.size wr W) => (show W.cell? ⟨w.heap.size, 0, none⟩ = some (.int .i64 r.time) ∧ W.cell? ⟨w.heap.size, 1, none⟩ = some (.int .u64 (r.seq : Int)) ∧ W.cell? ⟨w.heap.size, 3, none⟩ = some (.string r.line) ∧ Below wr.heap.size wr W from by
        obtain ⟨z0, z1, -, z3, -, -, -, -⟩ := cells4 (HBOX.out W (HB.out.trans (hW.mono HB.out.size)))
        exact ⟨z0, z1, z3, hW⟩))
      have CN2 := Lib.hid (fun (W : World) (hW : Below wr.heap.size wr W) => CN.out W (hwr.trans (hW.mono hwr.size)))
      have CU2 := Lib.hid (fun (W : World) (hW : Below wr.heap.size wr W) => CU.out W (hwr.trans (hW.mono hwr.size)))
      have HEND := Lib.hid (fun (W : World) (hW : Below wr.heap.size wr W) => (show RepJ W (Nw w.heap.size W) (.obj (r.labs.map memOf)) (.iface 79 (.slice va k vc)) ∧ Below w.heap.size w W from by
        refine ⟨RepJ.to (fun i hi => ⟨⟨hi.1, Nat.lt_of_lt_of_le hi.2 hW.size⟩, fun h => hW.block i h⟩) _ _ HFULL.out, hwr.trans (hW.mono hwr.size)⟩))
      have HREP2 := Lib.hid HREP.out
      clear CN CU HFULL hfull ho hb ho2 hbb2 c2 HLAB HBOX HL2 HREP
      obtain ⟨IT, hIT⟩ : ∃ IT : ByteArray, (⟨(Lib.itoa r.time).toArray⟩ : ByteArray) = IT := ⟨_, rfl⟩
      obtain ⟨IU, hIU⟩ : ∃ IT : ByteArray, (⟨(Lib.decDigits r.seq).toArray⟩ : ByteArray) = IT := ⟨_, rfl⟩
      rw [hIT] at CN2
      rw [hIU] at CU2
      have HI := Lib.hid (And.intro hIT hIU)
      clear hIT hIU
      go_upto_region 7 with fail
      have hbd : Below wr.heap.size wr wr.drew := (Below.refl _ _).drew
      go_region_held3 (fun W => W.cell? ⟨w.heap.size, 0, none⟩ = some (.int .i64 r.time) ∧ W.cell? ⟨w.heap.size, 1, none⟩ = some (.int .u64 (r.seq : Int)) ∧ W.cell? ⟨w.heap.size, 3, none⟩ = some (.string r.line) ∧ Below wr.heap.size wr W)
        (first | exact HC.out _ (by assumption) | exact HC.out _ (belowAJ hbn2 hbn2.size) | exact HC.out _ (belowAJ hbu2 hbu2.size))
        (first
          | (go_at_call 57; refine (CN2.out _ (by assumption)).mono ?_; rintro e wn ⟨rfl, hbn⟩; have hbn2 := below_seq (by assumption) hbn)
          | (go_at_call 73; refine (CU2.out _ (by assumption)).mono ?_; rintro e wu ⟨rfl, hbu⟩; have hbu2 := below_seq (by assumption) hbu))
      · go_wp2
        go_ret
        have h := HREP2.out wu w.heap.size (.slice va k vc) (HEND.out wu hbu2).2.size (HEND.out wu hbu2).1
        rw [HI.out.1, HI.out.2] at h
        exact ⟨_, rfl, h, belowAJ (HEND.out wu hbu2).2 (HEND.out wu hbu2).2.size⟩
end Go.Proofs.YtljnbbdhmlfhjaaGreatDoor
/-
  wire.One, wire.under, wire.Records.
-/
namespace Go.Proofs.YtljnbbdhmlfhjaaGreatDoor
open Go.RowKit
/-- What a write comes to. -/
def WOut (W : World) (v : Value) (E : Int) (j : J) : Prop := if okW 0 j = true then E = 0 ∧ argRow W v (formJ j).length 1 ((formJ j).map bCell) else E = 1 ∧ v = .slice none 0 0
def WrittenX (w : World) (j : J) (e : Ending) (w' : World) : Prop := ∃ a n c E, e = .returned (.tuple #[.slice a n c, .int .i64 E]) ∧ WOut w' (.slice a n c) E j ∧ Below w.heap.size w w'
theorem write_out (j : J) (hn : numsJ j) (S : Nat → Prop) (v : Value) (w : World) (hT : Tabs w) (hr : RepJ w S j v) (hS : ∀ k, S k → k < w.heap.size) (hl : (formJ j).length ≤ 100000000000) :
    Calls Tryz.prog 22 #[v] w (WrittenX w j) := by
  refine (js_Write j hn S v w hT hr hS (by omega)).mono ?_
  rintro e w' ⟨hb, h⟩
  by_cases hok : okW 0 j = true
  · rw [if_pos hok] at h
    obtain ⟨u, rfl, hrow⟩ := h
    have hrow' := hrow
    obtain ⟨_, a, c, rfl, -⟩ := hrow
    exact ⟨a, _, c, 0, rfl, by unfold WOut; rw [if_pos hok]; exact ⟨rfl, hrow'⟩, hb⟩
  · rw [if_neg hok] at h
    exact ⟨none, 0, 0, 1, h, by unfold WOut; rw [if_neg hok]; exact ⟨rfl, rfl⟩, hb⟩
theorem WOut.below {W W' : World} {v : Value} {E : Int} {j : J} (h : WOut W v E j) (hb : Below W.heap.size W W') : WOut W' v E j := by
  unfold WOut at h ⊢
  split at h
  · rename_i hok
    rw [if_pos hok]
    exact ⟨h.1, argRow_below h.2 hb⟩
  · rename_i hok
    rw [if_neg hok]
    exact h
set_option maxRecDepth 100000 in
set_option maxHeartbeats 10000000 in
theorem wire_One (r : Rec) (lv : Value) (w : World) (hT : T23 w) (hL : LRow w lv r.labs) (ht : -9223372036854775808 ≤ r.time ∧ r.time ≤ 9223372036854775807) (hs : r.seq < 18446744073709551616) (hln : r.labs.length ≤ 1048576) (hsz : sizeR r ≤ 1000000000) :
    Calls Tryz.prog 21 #[recV r lv] w (WrittenX w (recJ r)) := by
  have hb1 := belowAJ (o := .cells #[.int .i64 r.time, .int .u64 (r.seq : Int), lv, .string r.line] 34) (Below.refl w.heap.size w) (Nat.le_refl _)
  have hbox := heap_alloc_new w (.cells #[.int .i64 r.time, .int .u64 (r.seq : Int), lv, .string r.line] 34)
  have CV := wire_value r lv _ (hT.to hb1) (hL.below hb1) ht hs hln
  have hform := rec_form r ht hs
  have CW := Lib.hid (fun (W : World) (p : Nat) (S : Nat → Prop) (hS : ∀ k, S k → k < W.heap.size) (hW : Below w.heap.size w W) (h : RepJ W S (recJ r) (.iface 79 (.slice (some ⟨p, 0, none⟩) 4 4))) => write_out (recJ r) (nums_recJ r) S _ W (hT.to hW).tabs h hS (by omega))
  obtain ⟨a, cap, rfl, -, -⟩ := hL.shape
  obtain ⟨c0, c1, c2, c3, -, -, -, -⟩ := cells4 hbox
  unfold recV at CV ⊢
  obtain ⟨j, hj⟩ : ∃ j, recJ r = j := ⟨_, rfl⟩
  rw [hj] at CW ⊢
  have HJ := Lib.hid hj
  clear hform hj hT hL hbox
  go_enter Tryz.func21, Tryz.ntmps21
  go_wp2_with (first
    | (go_at_call 39; refine CV.mono ?_; rintro e w2 ⟨p, rfl, hrep, hb2⟩; rw [HJ.out] at hrep; have h2 := hb1.trans (hb2.mono hb1.size); have CW2 := CW.out w2 p _ (fun k hk => hk.2) h2 hrep; clear hrep)
    | (go_at_call 22; refine CW2.mono ?_; rintro e w3 ⟨wa, wn, wc, E, rfl, ho, hb3⟩))
  go_ret2
  exact ⟨wa, wn, wc, E, rfl, ho, h2.trans (hb3.mono h2.size)⟩
theorem wire_under (nm : ByteArray) (a : Option Addr) (n c : Nat) (w : World) :
    Calls Tryz.prog 40 #[.string nm, .slice a n c] w fun e w' => e = .returned (.slice (some ⟨w.heap.size, 0, none⟩) 1 1) ∧ w' = w.alloc (.cells #[.string nm, .iface 42 (.slice a n c)] 93) := by
  go_enter Tryz.func40, Tryz.ntmps40
  go_wp2
  go_ret
  exact ⟨rfl, rfl⟩
/-- A list of values under way. -/
structure WIt (w : World) (wr : World) (v : Value) (l : List J) (vs : List Value) : Prop where
  own : wr.ownsRow w.heap.size 20 1 v l.length vs
  rep : RepL wr (Nb w.heap.size wr v) l vs
  below : Below w.heap.size w wr
theorem WIt.start (w : World) (hb : Below w.heap.size w (w.alloc (.cells #[] 20))) : WIt w (w.alloc (.cells #[] 20)) (.slice (some ⟨w.heap.size, 0, none⟩) 0 0) [] [] :=
  ⟨World.ownsRow_lit (base := w.heap.size) (e := 20) (size := 1) w #[] 0 (Nat.le_refl _) (by decide) rfl, rfl, hb⟩
theorem WIt.to {w wr w2 : World} {v : Value} {l : List J} {vs : List Value} (h : WIt w wr v l vs) (hb : Below wr.heap.size wr w2) : WIt w w2 v l vs :=
  ⟨own_kept h.own (grown_of_below hb none) (fun k hk => by cases hk), RepL.to (fun k hk => ⟨⟨hk.1, Nat.lt_of_lt_of_le hk.2.1 hb.size, hk.2.2⟩, fun hk2 => hb.block k hk2⟩) l vs h.rep, below_seq h.below hb⟩
theorem WIt.more {w wr w2 w9 : World} {v v9 u : Value} {l : List J} {j : J} {vs : List Value} {o : Obj} {n9 : Nat} {xs9 : List Value} (h : WIt w wr v l vs) (hb : Below wr.heap.size wr w2) (hu : RepJ w2 (Nw wr.heap.size w2) j u)
    (hown : w9.ownsRow w.heap.size 20 1 v9 n9 xs9) (hgr9 : (w2.alloc o).grownBy w9 v.ownBlock) (hloc : v9.ownBlock = v.ownBlock ∨ v9.ownBlock = some (w2.alloc o).heap.size) (hn : n9 = l.length + 1) (hx : xs9 = vs ++ [u]) :
    WIt w w9 v9 (l ++ [j]) (vs ++ [u]) := by
  subst hn hx
  have hba := belowAJ (o := o) hb hb.size
  have hs2 := hb.size
  have hs9 := hgr9.size
  have hsa : (w2.alloc o).heap.size = w2.heap.size + 1 := by simp
  have hsw := h.below.size
  refine ⟨by rw [List.length_append]; exact hown, repL_snoc (RepJ.to (fun k hk => ?_) j u hu) (RepL.to (fun k hk => ?_) l vs h.rep), ((below_seq h.below hba)).grown hgr9 (by omega) (fun k hk => (h.own.lt k hk).1)⟩
  · obtain ⟨h1, h2⟩ := hk
    have h3 : v.ownBlock ≠ some k := fun e => by have := (h.own.lt k e).2; omega
    refine ⟨⟨by omega, by omega, fun e => ?_⟩, fun _ => ?_⟩
    · rcases hloc with h' | h'
      · exact h3 (h' ▸ e)
      · rw [h'] at e
        cases e
        omega
    · rw [hgr9.block k (by omega) (fun e => h3 e.symm), heap_alloc_old _ _ (by omega)]
  · obtain ⟨h1, h2, h3⟩ := hk
    refine ⟨⟨h1, by omega, fun e => ?_⟩, fun _ => ?_⟩
    · rcases hloc with h' | h'
      · exact h3 (h' ▸ e)
      · rw [h'] at e
        cases e
        omega
    · rw [hgr9.block k (by omega) (fun e => h3 e.symm), hba.block k h2]
theorem WIt.done {w wr : World} {v : Value} {l : List J} {vs : List Value} (h : WIt w wr v l vs) : RepJ wr (Nw w.heap.size wr) (.arr l) (.iface 42 v) :=
  ⟨v, vs, rfl, rowS_own h.own, RepL.to (fun k hk => ⟨⟨hk.1, hk.2.1⟩, fun _ => rfl⟩) l vs h.rep⟩
theorem rep_under {w wr : World} {a : Option Addr} {n c : Nat} {l : List J} (k : Bs) (hlo : w.heap.size ≤ wr.heap.size) (h : RepJ wr (Nw w.heap.size wr) (.arr l) (.iface 42 (.slice a n c))) :
    RepJ (wr.alloc (.cells #[.string ⟨k.toArray⟩, .iface 42 (.slice a n c)] 93)) (Nw w.heap.size (wr.alloc (.cells #[.string ⟨k.toArray⟩, .iface 42 (.slice a n c)] 93))) (underJ k l) (.iface 79 (.slice (some ⟨wr.heap.size, 0, none⟩) 1 1)) := rep_obj k hlo h
/-- What all records take, together. -/
def bulkR (l : List Rec) : Nat := (l.map fun r => 6 * sizeR r + 101).sum
set_option maxRecDepth 100000 in
set_option maxHeartbeats 20000000 in
theorem wire_Records (sv : Value) (Z : List RecL) (w : World) (hT : T23 w) (hZ : RRow w sv Z) (hin : ∀ z ∈ Z, inRec z.1) (hbk : bulkR (Z.map Prod.fst) ≤ 10000000000) :
    Calls Tryz.prog 14 #[sv] w (WrittenX w (underJ kRecords ((Z.map Prod.fst).map recJ))) := by
  have EI : ElemT Tryz.prog 42 20 .nilIface 1 16 := ⟨Tryz.underlying42, by kernel_rfl, rfl, by decide⟩
  have hform : (formJ (underJ kRecords ((Z.map Prod.fst).map recJ))).length ≤ 10000001000 := by
    have h1 := under_form kRecords ((Z.map Prod.fst).map recJ)
    have h2 := recs_form (Z.map Prod.fst) (fun r hr => by
      obtain ⟨z, hz, rfl⟩ := List.mem_map.1 hr
      exact ⟨⟨(hin z hz).1, (hin z hz).2.1⟩, (hin z hz).2.2.1⟩)
    have h3 : kRecords.length = 7 := rfl
    unfold bulkR at hbk
    omega
  have hnums := nums_under kRecords (numsL_map (Z.map Prod.fst))
  have hlen : Z.length ≤ 10000000000 := by
    have := sum_one (fun r : Rec => 6 * sizeR r + 100) (Z.map Prod.fst)
    rw [List.length_map] at this
    unfold bulkR at hbk
    exact Nat.le_trans this hbk
  have CW := Lib.hid (fun (W : World) (v : Value) (S : Nat → Prop) (hS : ∀ k, S k → k < W.heap.size) (hW : Below w.heap.size w W) (h : RepJ W S (underJ kRecords ((Z.map Prod.fst).map recJ)) v) => write_out _ hnums S v W (hT.to hW).tabs h hS (by omega))
  have CV := Lib.hid (fun (W : World) (hW : Below w.heap.size w W) (z : RecL) (hz : z ∈ Z) => wire_value z.1 z.2 W (hT.to hW) ((hZ.below hW).2 z hz).1 ⟨(hin z hz).1, (hin z hz).2.1⟩ (hin z hz).2.2.1 ((hZ.below hW).2 z hz).2.2.1)
  have HZ := Lib.hid (fun (W : World) (hW : Below w.heap.size w W) => hZ.below hW)
  obtain ⟨sa, sc, rfl, -, -⟩ := hZ.shape
  obtain ⟨n, hn⟩ : ∃ n, Z.length = n := ⟨_, rfl⟩
  have HN := Lib.hid hn
  have hst := WIt.start w (belowAJ (Below.refl _ _) (Nat.le_refl _))
  rw [hn] at hlen HZ ⊢
  clear hT hZ hin hbk hform hnums hn
  go_enter Tryz.func14, Tryz.ntmps14
  go_wp2
  go_loopw [4, 10] (fun ov iv wr => ∃ (k : Nat) (vs : List Value), iv = .int .i64 k ∧ k ≤ n ∧ WIt w wr ov (((Z.take k).map Prod.fst).map recJ) vs) (fun _ iv _ => n - (intOf iv).toNat)
  case atStart => exact ⟨0, [], rfl, by omega, hst⟩
  case round =>
    obtain ⟨k, vs, rfl, hk, ho⟩ := hrel
    have HO := Lib.hid ho
    have hown := ho.own
    have hb := ho.below
    have hsz := hb.size
    by_cases hkl : k < n
    · have hkz : k < Z.length := by rw [HN.out]; exact hkl
      have hlk : (((Z.take k).map Prod.fst).map recJ).length = k := by rw [List.length_map, List.length_map, List.length_take, Nat.min_eq_left (by omega)]
      have HLK := Lib.hid hlk
      rw [hlk] at hown
      obtain ⟨va, vc, rfl⟩ := owns_slice hown
      have d1 : decide ((k : Int) < (n : Int)) = true := decide_eq_true (by omega)
      obtain ⟨b, off, rfl, hbl, c0, c1, c2, c3⟩ := (HZ.out wr hb).at hkz
      obtain ⟨z, hz⟩ : ∃ z, Z[k] = z := ⟨_, rfl⟩
      rw [hz] at c0 c1 c2 c3
      have hzm : z ∈ Z := by rw [← hz]; exact List.getElem_mem hkz
      obtain ⟨r, lv⟩ := z
      obtain ⟨la, lc, hlv, -, -⟩ := ((HZ.out wr hb).2 _ hzm).1.shape
      simp only at hlv c0 c1 c2 c3
      subst hlv
      have htk : ((Z.take (k + 1)).map Prod.fst).map recJ = ((Z.take k).map Prod.fst).map recJ ++ [recJ r] := by
        rw [List.take_succ_eq_append_getElem hkz, List.map_append, List.map_append, hz]
        rfl
      have HTK := Lib.hid htk
      clear htk hz hlk ho hst
      go_upto_region 5 with fail
      have hb3 := belowAJ (o := .cells #[.int .i64 r.time, .int .u64 (r.seq : Int), .slice la r.labs.length lc, .string r.line] 34) (Below.refl wr.heap.size wr) (Nat.le_refl _)
      have hn3 := heap_alloc_new wr (.cells #[.int .i64 r.time, .int .u64 (r.seq : Int), .slice la r.labs.length lc, .string r.line] 34)
      obtain ⟨w3, hw3⟩ : ∃ W, wr.alloc (.cells #[.int .i64 r.time, .int .u64 (r.seq : Int), .slice la r.labs.length lc, .string r.line] 34) = W := ⟨_, rfl⟩
      rw [hw3] at hb3 hn3 ⊢
      clear hw3 c0 c1 c2 c3
      have h3 := hb.trans (hb3.mono hb.size)
      have CV3 := CV.out w3 h3 _ hzm
      unfold recV at CV3
      simp only at CV3
      obtain ⟨c0, c1, c2, c3, -, -, -, -⟩ := cells4 hn3
      have HB3 := Lib.hid hb3
      clear hn3 hb3
      go_wp2_with (first
        | (go_at_call 39; refine CV3.mono ?_; rintro e w4 ⟨p, rfl, hrep4, hb4⟩; have hb34 := HB3.out.trans (hb4.mono HB3.out.size); have HR4 := Lib.hid (And.intro hrep4 hb34); have hown4 := fun o => (own_kept hown (grown_of_below hb34 none) (fun k hk => by cases hk)).alloc o; have hsz4 := hb34.size; clear hrep4 hb4 hb34)
        | (at_builtin; go_loud (refine wpList_append_src rfl _ _ _ _ rfl w.heap.size EI _ k vs rfl (hown4 _) _ 1 [.iface 79 (.slice (some ⟨p, 0, none⟩) 4 4)] rfl (by exact src_last (cs := #[.iface 79 (.slice (some ⟨p, 0, none⟩) 4 4)]) Tryz.underlying42 1 1 1 (by simp) rfl (by simp [Value.oneCell'])) (by unfold maxLen; omega) (by omega) (by simp; omega) ?_); intro v9 w9 hown9 hgr9 _ hloc9; have H9 := Lib.hid (And.intro hown9 (And.intro hgr9 hloc9)); clear hown9 hgr9 hloc9))
      go_roundw
      case rel =>
        refine ⟨k + 1, vs ++ [.iface 79 (.slice (some ⟨p, 0, none⟩) 4 4)], by go_num, by omega, ?_⟩
        rw [HTK.out]
        refine HO.out.more HR4.out.2 (RepJ.to (fun i hi => ⟨⟨Nat.le_trans HB3.out.size hi.1, hi.2⟩, fun _ => rfl⟩) _ _ HR4.out.1) H9.out.1 H9.out.2.1 H9.out.2.2 (by rw [HLK.out]) rfl
      case measure => simp [intOf]; omega
    · have hkn : k = n := by omega
      subst hkn
      have d1 : decide ((k : Int) < (k : Int)) = false := decide_eq_false (by omega)
      have htk : ((Z.take k).map Prod.fst).map recJ = (Z.map Prod.fst).map recJ := by rw [List.take_of_length_le (by rw [HN.out]; omega)]
      have hlk : (((Z.take k).map Prod.fst).map recJ).length = k := by rw [htk, List.length_map, List.length_map, HN.out]
      rw [hlk] at hown
      obtain ⟨va, vc, rfl⟩ := owns_slice hown
      have hrep := ho.done
      rw [htk] at hrep
      have hun := rep_under kRecords hb.size hrep
      have hbu := belowAJ (o := .cells #[.string ⟨#[114, 101, 99, 111, 114, 100, 115]⟩, .iface 42 (.slice va k vc)] 93) hb hb.size
      have CW2 := CW.out _ _ _ (fun k hk => hk.2) hbu hun
      have CU := wire_under ⟨#[114, 101, 99, 111, 114, 100, 115]⟩ va k vc wr
      have HBU := Lib.hid hbu
      clear hrep hun hbu htk hlk hown ho hst
      obtain ⟨j, hj⟩ : ∃ j, underJ kRecords ((Z.map Prod.fst).map recJ) = j := ⟨_, rfl⟩
      rw [hj] at CW2
      have HJ := Lib.hid hj
      clear hj
      go_wp2_with (first
        | (go_at_call 40; refine CU.mono ?_; rintro e w4 ⟨rfl, rfl⟩)
        | (go_at_call 22; refine CW2.mono ?_; rintro e w5 ⟨xa, xn, xc, E, rfl, hxo, hb5⟩))
      go_ret2
      exact ⟨xa, xn, xc, E, rfl, by rw [HJ.out]; exact hxo, HBU.out.trans (hb5.mono HBU.out.size)⟩
end Go.Proofs.YtljnbbdhmlfhjaaGreatDoor
/-
  wire.Accepted, wire.Problem.
-/
namespace Go.Proofs.YtljnbbdhmlfhjaaGreatDoor
open Go.RowKit
def kAcc : Bs := [97, 99, 99, 101, 112, 116, 101, 100]
def kErr : Bs := [101, 114, 114, 111, 114]
def JustX (w : World) (j : J) (e : Ending) (w' : World) : Prop := ∃ a n c, e = .returned (.slice a n c) ∧ argRow w' (.slice a n c) (formJ j).length 1 ((formJ j).map bCell) ∧ Below w.heap.size w w'
set_option maxRecDepth 100000 in
set_option maxHeartbeats 10000000 in
theorem wire_Accepted (n : Int) (w : World) (hT : T23 w) (h0 : -9223372036854775808 ≤ n) (h1 : n ≤ 9223372036854775807) :
    Calls Tryz.prog 26 #[.int .i64 n] w (JustX w (.obj [(kAcc, .num (Lib.itoa n))])) := by
  have CN := wire_number n h0 h1 w hT
  have hl := Lib.itoa_length_le n h0 h1
  have hform : (formJ (.obj [(kAcc, .num (Lib.itoa n))])).length ≤ 1000 := by
    have hk : (quote kAcc).length ≤ 100 := by decide
    simp only [formJ, formM, formU, formE, List.length_cons, List.length_append, List.length_nil]
    omega
  have hok : okW 0 (.obj [(kAcc, .num (Lib.itoa n))]) = true := by
    have h := okNum (itoa_num n) 1
    have e : okW 0 (.obj [(kAcc, .num (Lib.itoa n))]) = (decide (0 < 16) && (Lib.validD kAcc && okW 1 (.num (Lib.itoa n)) && true)) := rfl
    rw [e, h]
    decide
  have CW := Lib.hid (fun (W : World) (hW : Below w.heap.size w W) => write_out (.obj [(kAcc, .num (Lib.itoa n))]) ⟨itoa_num n, trivial⟩ _ _ _ (hT.to (belowAJ hW hW.size)).tabs (rep_obj kAcc hW.size (show RepJ W (Nw w.heap.size W) (.num (Lib.itoa n)) (.iface 95 (.string ⟨(Lib.itoa n).toArray⟩)) from rfl)) (fun k hk => hk.2) (by omega))
  have HB := Lib.hid (fun (W : World) (hW : Below w.heap.size w W) => belowAJ (o := .cells #[.string ⟨#[97, 99, 99, 101, 112, 116, 101, 100]⟩, .iface 95 (.string ⟨(Lib.itoa n).toArray⟩)] 93) hW hW.size)
  obtain ⟨j, hj⟩ : ∃ j, (.obj [(kAcc, .num (Lib.itoa n))] : J) = j := ⟨_, rfl⟩
  rw [hj] at CW hok
  have HJ := Lib.hid hj
  have HOK := Lib.hid hok
  obtain ⟨I, hI⟩ : ∃ I : ByteArray, (⟨(Lib.itoa n).toArray⟩ : ByteArray) = I := ⟨_, rfl⟩
  rw [hI] at CN CW HB
  clear hj hok hform hl hT hI
  go_enter Tryz.func26, Tryz.ntmps26
  go_wp2_with (first
    | (go_at_call 57; refine CN.mono ?_; rintro e w2 ⟨rfl, hb2⟩; have CW2 := CW.out w2 hb2)
    | (go_at_call 22; refine CW2.mono ?_; rintro e w3 ⟨wa, wn, wc, E, rfl, ho, hb3⟩; have HO := Lib.hid ho; clear ho))
  go_ret
  refine ⟨wa, wn, wc, rfl, ?_, (HB.out w2 hb2).trans (hb3.mono (HB.out w2 hb2).size)⟩
  rw [HJ.out]
  have h := HO.out
  unfold WOut at h
  rw [if_pos HOK.out] at h
  exact h.2
set_option maxRecDepth 100000 in
set_option maxHeartbeats 10000000 in
theorem wire_Problem (n : Int) (w : World) (hT : T23 w) (h0 : -9223372036854775808 ≤ n) (h1 : n ≤ 9223372036854775807) :
    Calls Tryz.prog 53 #[.int .i64 n] w (JustX w (.obj [(kErr, .num (Lib.itoa n))])) := by
  have CN := wire_number n h0 h1 w hT
  have hl := Lib.itoa_length_le n h0 h1
  have hform : (formJ (.obj [(kErr, .num (Lib.itoa n))])).length ≤ 1000 := by
    have hk : (quote kErr).length ≤ 100 := by decide
    simp only [formJ, formM, formU, formE, List.length_cons, List.length_append, List.length_nil]
    omega
  have hok : okW 0 (.obj [(kErr, .num (Lib.itoa n))]) = true := by
    have h := okNum (itoa_num n) 1
    have e : okW 0 (.obj [(kErr, .num (Lib.itoa n))]) = (decide (0 < 16) && (Lib.validD kErr && okW 1 (.num (Lib.itoa n)) && true)) := rfl
    rw [e, h]
    decide
  have CW := Lib.hid (fun (W : World) (hW : Below w.heap.size w W) => write_out (.obj [(kErr, .num (Lib.itoa n))]) ⟨itoa_num n, trivial⟩ _ _ _ (hT.to (belowAJ hW hW.size)).tabs (rep_obj kErr hW.size (show RepJ W (Nw w.heap.size W) (.num (Lib.itoa n)) (.iface 95 (.string ⟨(Lib.itoa n).toArray⟩)) from rfl)) (fun k hk => hk.2) (by omega))
  have HB := Lib.hid (fun (W : World) (hW : Below w.heap.size w W) => belowAJ (o := .cells #[.string ⟨#[101, 114, 114, 111, 114]⟩, .iface 95 (.string ⟨(Lib.itoa n).toArray⟩)] 93) hW hW.size)
  obtain ⟨j, hj⟩ : ∃ j, (.obj [(kErr, .num (Lib.itoa n))] : J) = j := ⟨_, rfl⟩
  rw [hj] at CW hok
  have HJ := Lib.hid hj
  have HOK := Lib.hid hok
  obtain ⟨I, hI⟩ : ∃ I : ByteArray, (⟨(Lib.itoa n).toArray⟩ : ByteArray) = I := ⟨_, rfl⟩
  rw [hI] at CN CW HB
  clear hj hok hform hl hT hI
  go_enter Tryz.func53, Tryz.ntmps53
  go_wp2_with (first
    | (go_at_call 57; refine CN.mono ?_; rintro e w2 ⟨rfl, hb2⟩; have CW2 := CW.out w2 hb2)
    | (go_at_call 22; refine CW2.mono ?_; rintro e w3 ⟨wa, wn, wc, E, rfl, ho, hb3⟩; have HO := Lib.hid ho; clear ho))
  go_ret
  refine ⟨wa, wn, wc, rfl, ?_, (HB.out w2 hb2).trans (hb3.mono (HB.out w2 hb2).size)⟩
  rw [HJ.out]
  have h := HO.out
  unfold WOut at h
  rw [if_pos HOK.out] at h
  exact h.2
end Go.Proofs.YtljnbbdhmlfhjaaGreatDoor
/-
  awake, of layer 23.
-/
namespace Go.Proofs.YtljnbbdhmlfhjaaGreatDoor
open Go.RowKit
def awB : Bs := [123, 34, 114, 101, 99, 111, 114, 100, 115, 34, 58, 91, 123, 34, 116, 105, 109, 101, 34, 58, 53, 44, 34, 108, 105, 110, 101, 34, 58, 34, 104, 105, 34, 44, 34, 108, 97, 98, 101, 108, 115, 34, 58, 123, 34, 98, 34, 58, 34, 50, 34, 44, 34, 97, 34, 58, 34, 49, 34, 125, 125, 93, 125]
def awR : Rec := ⟨5, 0, [(⟨#[97]⟩, ⟨#[49]⟩), (⟨#[98]⟩, ⟨#[50]⟩)], ⟨#[104, 105]⟩⟩
theorem aw_push : pushP awB = (0, [awR]) := by decide +kernel
theorem aw_none : pushP [123, 125] = (6, []) := by decide +kernel
theorem aw_recs : formJ (underJ kRecords []) = [123, 34, 114, 101, 99, 111, 114, 100, 115, 34, 58, 91, 93, 125] := by decide
theorem aw_acc : formJ (.obj [(kAcc, .num (Lib.itoa 3))]) = [123, 34, 97, 99, 99, 101, 112, 116, 101, 100, 34, 58, 51, 125] := by
  rw [show Lib.itoa 3 = [51] by unfold Lib.itoa; rw [if_neg (by decide)]; exact Lib.decDigits_one (by decide)]
  decide
theorem row_lit (w : World) (b : Bs) (cs : Array Value) (fr : Nat × Nat) (hc : cs.toList = b.map bCell) (hm : b.length ≤ maxLen) : argRow (w.alloc (.cells cs 5 fr)) (.slice (some ⟨w.heap.size, 0, none⟩) b.length b.length) b.length 1 (b.map bCell) := by
  refine ⟨by simp, _, _, rfl, Nat.le_refl _, hm, fun _ => ⟨w.heap.size, 0, rfl, by simp, fun j hj => ?_⟩⟩
  rw [Nat.zero_add, Lib.cell_of_heap (heap_alloc_new w _), ← Array.getElem?_toList, hc, List.getElem?_eq_getElem hj]
set_option maxRecDepth 100000 in
set_option maxHeartbeats 20000000 in
theorem law23_awake (w : World) (hT : T23 w) : Calls Tryz.prog 8 #[] w fun e w' => e = .returned (.bool true) ∧ Below w.heap.size w w' := by
  have hb1 := belowAJ (o := .cells #[.int .u8 123, .int .u8 34, .int .u8 114, .int .u8 101, .int .u8 99, .int .u8 111, .int .u8 114, .int .u8 100, .int .u8 115, .int .u8 34, .int .u8 58, .int .u8 91, .int .u8 123, .int .u8 34, .int .u8 116, .int .u8 105, .int .u8 109, .int .u8 101, .int .u8 34, .int .u8 58, .int .u8 53, .int .u8 44, .int .u8 34, .int .u8 108, .int .u8 105, .int .u8 110, .int .u8 101, .int .u8 34, .int .u8 58, .int .u8 34, .int .u8 104, .int .u8 105, .int .u8 34, .int .u8 44, .int .u8 34, .int .u8 108, .int .u8 97, .int .u8 98, .int .u8 101, .int .u8 108, .int .u8 115, .int .u8 34, .int .u8 58, .int .u8 123, .int .u8 34, .int .u8 98, .int .u8 34, .int .u8 58, .int .u8 34, .int .u8 50, .int .u8 34, .int .u8 44, .int .u8 34, .int .u8 97, .int .u8 34, .int .u8 58, .int .u8 34, .int .u8 49, .int .u8 34, .int .u8 125, .int .u8 125, .int .u8 93, .int .u8 125] 5 (63, 64)) (Below.refl w.heap.size w) (Nat.le_refl _)
  have C1 := wire_Push (.slice (some ⟨w.heap.size, 0, none⟩) 63 63) awB _ (hT.to hb1) (row_lit w awB #[.int .u8 123, .int .u8 34, .int .u8 114, .int .u8 101, .int .u8 99, .int .u8 111, .int .u8 114, .int .u8 100, .int .u8 115, .int .u8 34, .int .u8 58, .int .u8 91, .int .u8 123, .int .u8 34, .int .u8 116, .int .u8 105, .int .u8 109, .int .u8 101, .int .u8 34, .int .u8 58, .int .u8 53, .int .u8 44, .int .u8 34, .int .u8 108, .int .u8 105, .int .u8 110, .int .u8 101, .int .u8 34, .int .u8 58, .int .u8 34, .int .u8 104, .int .u8 105, .int .u8 34, .int .u8 44, .int .u8 34, .int .u8 108, .int .u8 97, .int .u8 98, .int .u8 101, .int .u8 108, .int .u8 115, .int .u8 34, .int .u8 58, .int .u8 123, .int .u8 34, .int .u8 98, .int .u8 34, .int .u8 58, .int .u8 34, .int .u8 50, .int .u8 34, .int .u8 44, .int .u8 34, .int .u8 97, .int .u8 34, .int .u8 58, .int .u8 34, .int .u8 49, .int .u8 34, .int .u8 125, .int .u8 125, .int .u8 93, .int .u8 125] (63, 64) rfl (by decide))
  have C1' : Calls Tryz.prog 9 #[.slice (some ⟨w.heap.size, 0, none⟩) 63 63] (w.alloc (.cells #[.int .u8 123, .int .u8 34, .int .u8 114, .int .u8 101, .int .u8 99, .int .u8 111, .int .u8 114, .int .u8 100, .int .u8 115, .int .u8 34, .int .u8 58, .int .u8 91, .int .u8 123, .int .u8 34, .int .u8 116, .int .u8 105, .int .u8 109, .int .u8 101, .int .u8 34, .int .u8 58, .int .u8 53, .int .u8 44, .int .u8 34, .int .u8 108, .int .u8 105, .int .u8 110, .int .u8 101, .int .u8 34, .int .u8 58, .int .u8 34, .int .u8 104, .int .u8 105, .int .u8 34, .int .u8 44, .int .u8 34, .int .u8 108, .int .u8 97, .int .u8 98, .int .u8 101, .int .u8 108, .int .u8 115, .int .u8 34, .int .u8 58, .int .u8 123, .int .u8 34, .int .u8 98, .int .u8 34, .int .u8 58, .int .u8 34, .int .u8 50, .int .u8 34, .int .u8 44, .int .u8 34, .int .u8 97, .int .u8 34, .int .u8 58, .int .u8 34, .int .u8 49, .int .u8 34, .int .u8 125, .int .u8 125, .int .u8 93, .int .u8 125] 5 (63, 64))) fun e w' => ∃ a c lv, e = .returned (.tuple #[.slice a 1 c, .int .i64 0]) ∧ RRow w' (.slice a 1 c) [(awR, lv)] ∧ Below w.heap.size w w' := by
    refine C1.mono ?_
    rintro e w' ⟨v, Z, h1, h2, h3, h4⟩
    rw [aw_push] at h1 h3
    match Z, h3, h2 with
    | [(r, lv)], h3, h2 =>
      have hr : r = awR := by simpa using h3
      subst hr
      obtain ⟨a, c, rfl, -, -⟩ := h2.shape
      exact ⟨a, c, lv, h1, h2, hb1.trans (h4.mono hb1.size)⟩
  have C2 := Lib.hid (show ∀ (W : World), Below w.heap.size w W → Calls Tryz.prog 9 #[.slice (some ⟨W.heap.size, 0, none⟩) 2 2] (W.alloc (.cells #[.int .u8 123, .int .u8 125] 5 (2, 3))) fun e w' => ∃ a n c, e = .returned (.tuple #[.slice a n c, .int .i64 6]) ∧ Below W.heap.size W w' from fun W hW => by
    have hb2 := belowAJ (o := .cells #[.int .u8 123, .int .u8 125] 5 (2, 3)) (Below.refl W.heap.size W) (Nat.le_refl _)
    refine (wire_Push (.slice (some ⟨W.heap.size, 0, none⟩) 2 2) [123, 125] _ (hT.to (belowAJ hW hW.size)) (row_lit W [123, 125] #[.int .u8 123, .int .u8 125] (2, 3) rfl (by decide))).mono ?_
    rintro e w' ⟨v, Z, h1, h2, h3, h4⟩
    rw [aw_none] at h1
    obtain ⟨a, c, rfl, -, -⟩ := h2.shape
    exact ⟨a, _, c, h1, hb2.trans (h4.mono hb2.size)⟩)
  have C3 := Lib.hid (show ∀ (W : World), Below w.heap.size w W → Calls Tryz.prog 14 #[.slice none 0 0] W fun e w' => ∃ a c, e = .returned (.tuple #[.slice a 14 c, .int .i64 0]) ∧ argRow w' (.slice a 14 c) 14 1 (([123, 34, 114, 101, 99, 111, 114, 100, 115, 34, 58, 91, 93, 125] : Bs).map bCell) ∧ Below W.heap.size W w' from fun W hW => by
    refine (wire_Records (.slice none 0 0) [] W (hT.to hW) (ROwn.nil W 0).row (fun z hz => by simp at hz) (by decide)).mono ?_
    rintro e w' ⟨a, n, c, E, h1, h2, h3⟩
    unfold WOut at h2
    rw [if_pos (by decide)] at h2
    obtain ⟨rfl, h2⟩ := h2
    have e1 : formJ (underJ kRecords (List.map recJ (List.map Prod.fst ([] : List RecL)))) = [123, 34, 114, 101, 99, 111, 114, 100, 115, 34, 58, 91, 93, 125] := aw_recs
    rw [e1] at h2
    have h2' := h2
    obtain ⟨_, a', c', e2, -⟩ := h2
    cases e2
    exact ⟨a, c, h1, h2', h3⟩)
  have C4 := Lib.hid (show ∀ (W : World), Below w.heap.size w W → Calls Tryz.prog 26 #[.int .i64 3] W fun e w' => ∃ a c, e = .returned (.slice a 14 c) ∧ argRow w' (.slice a 14 c) 14 1 (([123, 34, 97, 99, 99, 101, 112, 116, 101, 100, 34, 58, 51, 125] : Bs).map bCell) ∧ Below W.heap.size W w' from fun W hW => by
    refine (wire_Accepted 3 W (hT.to hW) (by decide) (by decide)).mono ?_
    rintro e w' ⟨a, n, c, h1, h2, h3⟩
    rw [aw_acc] at h2
    have h2' := h2
    obtain ⟨_, a', c', e2, -⟩ := h2
    cases e2
    exact ⟨a, c, h1, h2', h3⟩)
  have cv1 : (convert 22 22 (.slice (some ⟨w.heap.size, 0, none⟩) 63 63)).run Tryz.prog (w.alloc (.cells #[.int .u8 123, .int .u8 34, .int .u8 114, .int .u8 101, .int .u8 99, .int .u8 111, .int .u8 114, .int .u8 100, .int .u8 115, .int .u8 34, .int .u8 58, .int .u8 91, .int .u8 123, .int .u8 34, .int .u8 116, .int .u8 105, .int .u8 109, .int .u8 101, .int .u8 34, .int .u8 58, .int .u8 53, .int .u8 44, .int .u8 34, .int .u8 108, .int .u8 105, .int .u8 110, .int .u8 101, .int .u8 34, .int .u8 58, .int .u8 34, .int .u8 104, .int .u8 105, .int .u8 34, .int .u8 44, .int .u8 34, .int .u8 108, .int .u8 97, .int .u8 98, .int .u8 101, .int .u8 108, .int .u8 115, .int .u8 34, .int .u8 58, .int .u8 123, .int .u8 34, .int .u8 98, .int .u8 34, .int .u8 58, .int .u8 34, .int .u8 50, .int .u8 34, .int .u8 44, .int .u8 34, .int .u8 97, .int .u8 34, .int .u8 58, .int .u8 34, .int .u8 49, .int .u8 34, .int .u8 125, .int .u8 125, .int .u8 93, .int .u8 125] 5)) = .ok (.slice (some ⟨w.heap.size, 0, none⟩) 63 63) (w.alloc (.cells #[.int .u8 123, .int .u8 34, .int .u8 114, .int .u8 101, .int .u8 99, .int .u8 111, .int .u8 114, .int .u8 100, .int .u8 115, .int .u8 34, .int .u8 58, .int .u8 91, .int .u8 123, .int .u8 34, .int .u8 116, .int .u8 105, .int .u8 109, .int .u8 101, .int .u8 34, .int .u8 58, .int .u8 53, .int .u8 44, .int .u8 34, .int .u8 108, .int .u8 105, .int .u8 110, .int .u8 101, .int .u8 34, .int .u8 58, .int .u8 34, .int .u8 104, .int .u8 105, .int .u8 34, .int .u8 44, .int .u8 34, .int .u8 108, .int .u8 97, .int .u8 98, .int .u8 101, .int .u8 108, .int .u8 115, .int .u8 34, .int .u8 58, .int .u8 123, .int .u8 34, .int .u8 98, .int .u8 34, .int .u8 58, .int .u8 34, .int .u8 50, .int .u8 34, .int .u8 44, .int .u8 34, .int .u8 97, .int .u8 34, .int .u8 58, .int .u8 34, .int .u8 49, .int .u8 34, .int .u8 125, .int .u8 125, .int .u8 93, .int .u8 125] 5 (63, 64))) := Lib.run_convert_bytes_const w 22 5 #[.int .u8 123, .int .u8 34, .int .u8 114, .int .u8 101, .int .u8 99, .int .u8 111, .int .u8 114, .int .u8 100, .int .u8 115, .int .u8 34, .int .u8 58, .int .u8 91, .int .u8 123, .int .u8 34, .int .u8 116, .int .u8 105, .int .u8 109, .int .u8 101, .int .u8 34, .int .u8 58, .int .u8 53, .int .u8 44, .int .u8 34, .int .u8 108, .int .u8 105, .int .u8 110, .int .u8 101, .int .u8 34, .int .u8 58, .int .u8 34, .int .u8 104, .int .u8 105, .int .u8 34, .int .u8 44, .int .u8 34, .int .u8 108, .int .u8 97, .int .u8 98, .int .u8 101, .int .u8 108, .int .u8 115, .int .u8 34, .int .u8 58, .int .u8 123, .int .u8 34, .int .u8 98, .int .u8 34, .int .u8 58, .int .u8 34, .int .u8 50, .int .u8 34, .int .u8 44, .int .u8 34, .int .u8 97, .int .u8 34, .int .u8 58, .int .u8 34, .int .u8 49, .int .u8 34, .int .u8 125, .int .u8 125, .int .u8 93, .int .u8 125] 63 63 Tryz.underlying22 Tryz.underlying5
  have cv2 : ∀ W : World, (convert 22 22 (.slice (some ⟨W.heap.size, 0, none⟩) 2 2)).run Tryz.prog (W.alloc (.cells #[.int .u8 123, .int .u8 125] 5)) = .ok (.slice (some ⟨W.heap.size, 0, none⟩) 2 2) (W.alloc (.cells #[.int .u8 123, .int .u8 125] 5 (2, 3))) := fun W => Lib.run_convert_bytes_const W 22 5 #[.int .u8 123, .int .u8 125] 2 2 Tryz.underlying22 Tryz.underlying5
  clear C1 hT hb1
  go_enter Tryz.func8, Tryz.ntmps8
  go_upto_region 2 with (go_at_call 9; refine C1'.mono ?_; rintro e w1 ⟨a1, c1, lv, rfl, hr1, hw1⟩; have H1 := Lib.hid hr1; clear hr1)
  have C2' := C2.out w1 hw1
  clear C1' C2
  go_upto_region 3 with (go_at_call 9; refine C2'.mono ?_; rintro e w2 ⟨a2, n2, c2, rfl, hb2⟩)
  have hw2 := hw1.trans (hb2.mono hw1.size)
  have C3' := C3.out w2 hw2
  clear C2' C3
  go_upto_region 4 with (go_at_call 14; refine C3'.mono ?_; rintro e w3 ⟨a3, c3, rfl, hr3, hb3⟩)
  have hw3 := hw2.trans (hb3.mono hw2.size)
  have cv3 := conv_arg hr3
  have C4' := C4.out w3 hw3
  have hrr := H1.out.below (hb2.trans (hb3.mono hb2.size))
  obtain ⟨rb, roff, rfl, -, r0, r1, r2, r3⟩ := hrr.at (k := 0) (by simp)
  obtain ⟨la, lc, hlv, -, -⟩ := (hrr.2 (awR, lv) (by simp)).1.shape
  simp only at hlv
  have hlr := (hrr.2 (awR, lv) (by simp)).1
  simp only at hlr
  rw [hlv] at hlr
  obtain ⟨lb, loff, rfl, -, l0, l1⟩ := hlr.at (k := 0) (by simp [awR])
  simp only [List.getElem_cons_zero, Nat.zero_mul, Nat.add_zero] at r0 r1 r2 r3
  rw [hlv] at r2
  have r0' : w3.cell? ⟨rb, roff, none⟩ = some (.int .i64 5) := r0
  have r2' : w3.cell? ⟨rb, roff + 2, none⟩ = some (.slice (some ⟨lb, loff, none⟩) 2 lc) := r2
  have l0' : w3.cell? ⟨lb, loff, none⟩ = some (.string ⟨#[97]⟩) := by simpa [awR] using l0
  have HW3 := Lib.hid hw3
  clear r0 r1 r2 r3 l0 l1 hlv hlr hrr hr3 C3' C4 H1 hb3 hw3 hb2 hw2 hw1
  go_wp2_with (go_at_call 26; refine C4'.mono ?_; rintro e w4 ⟨a4, c4, rfl, hr4, hb4⟩; have cv4 := conv_arg hr4; clear hr4)
  go_ret
  exact ⟨rfl, HW3.out.trans (hb4.mono HW3.out.size)⟩
end Go.Proofs.YtljnbbdhmlfhjaaGreatDoor
/-
  What a push holds, plainly; an append onto a full row that is not the call's own.
-/
namespace Go.Proofs.YtljnbbdhmlfhjaaGreatDoor
open Go.RowKit
section
variable {P : Program} {w : World}
end
end Go.Proofs.YtljnbbdhmlfhjaaGreatDoor
