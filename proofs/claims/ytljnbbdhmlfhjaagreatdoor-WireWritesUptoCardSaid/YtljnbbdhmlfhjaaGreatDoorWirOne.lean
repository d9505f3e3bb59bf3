/-
  A push, plainly: what a value is as records; a record as a value.
-/
import Derived.Test.YtljnbbdhmlfhjaaGreatDoorJnOne
import Derived.Test.YtljnbbdhmlfhjaaGreatDoorJnTwo
import Derived.Test.YtljnbbdhmlfhjaaGreatDoorVarAll
import Derived.Test.YtljnbbdhmlfhjaaGreatDoorKitC
import Derived.Sort.OwnSorted
import Derived.Test.YtljnbbdhmlfhjaaGreatDoorShelf
namespace Go.Proofs.YtljnbbdhmlfhjaaGreatDoor
open Go.RowKit
def toB (s : Bs) : ByteArray := ⟨s.toArray⟩
def kTime : Bs := [116, 105, 109, 101]
def kLine : Bs := [108, 105, 110, 101]
def kLabels : Bs := [108, 97, 98, 101, 108, 115]
def kRecords : Bs := [114, 101, 99, 111, 114, 100, 115]
def kSeq : Bs := [115, 101, 113]
/-- Is it an object, whose names are some of these, each at most once? -/
def onlyB (names : List Bs) (j : J) : Bool := (namesJ j).2 && decide ((namesJ j).1.Nodup ∧ ∀ n ∈ (namesJ j).1, n ∈ names)
def labsM : List (Bs × J) → Option (List Lab)
  | [] => some []
  | (n, x) :: l => match textJ x with
    | (_, false) => none
    | (s, true) => match labsM l with
      | none => none
      | some L => some ((toB n, toB s) :: L)
def labsJ : J → Option (List Lab)
  | .obj l => labsM l
  | _ => none
def optJ : Option J → J
  | some x => x
  | none => .nul
def oneJ (j : J) : Option Rec :=
  if onlyB [kTime, kLine, kLabels] j = true ∧ (intJ (optJ (getJ kTime j))).2 = true ∧ (textJ (optJ (getJ kLine j))).2 = true then
    match getJ kLabels j with
    | none => some ⟨(intJ (optJ (getJ kTime j))).1, 0, [], toB (textJ (optJ (getJ kLine j))).1⟩
    | some x => match labsJ x with
      | none => none
      | some L => some ⟨(intJ (optJ (getJ kTime j))).1, 0, L, toB (textJ (optJ (getJ kLine j))).1⟩
  else none
def onesL : List J → Option (List Rec)
  | [] => some []
  | x :: l => match oneJ x with
    | none => none
    | some r => match onesL l with
      | none => none
      | some R => some (r :: R)
def recsJ (j : J) : Option (List Rec) :=
  if onlyB [kRecords] j = true ∧ (getJ kRecords j).isSome = true ∧ (itemsJ (optJ (getJ kRecords j))).2 = true then onesL (itemsJ (optJ (getJ kRecords j))).1 else none
def canR (r : Rec) : Rec := ⟨r.time, r.seq, canonL r.labs, r.line⟩
def errR (r : Rec) : Int := if canonE r.labs ≠ 0 then canonE r.labs else chkRec (canR r)
def errRs : List Rec → Int
  | [] => 0
  | r :: l => if errR r ≠ 0 then errR r else errRs l
def pushL (l : List Rec) : Int × List Rec := if l.length = 0 ∨ 64 < l.length then (3, []) else if errRs l ≠ 0 then (errRs l, []) else (0, l.map canR)
def pushJ (j : J) : Int × List Rec := match recsJ j with
  | none => (6, [])
  | some l => pushL l
/-- What is made of a push. -/
def pushP (b : Bs) : Int × List Rec := if parseE b ≠ 0 then (parseE b, []) else pushJ (parseJ b)

/-! ### How great it is -/
def sizeR (r : Rec) : Nat := r.line.size + (r.labs.map fun x : Lab => x.1.size + x.2.size + 1).sum
theorem quote_ge (s : Bs) : s.length + 2 ≤ (quote s).length := by
  have : ∀ l : Bs, l.length ≤ (escS l).length := by
    intro l
    induction l with
    | nil => exact Nat.le_refl _
    | cons c l ih =>
      have : 1 ≤ (escB c).length := by
        unfold escB
        repeat' split
        all_goals simp
      rw [escS_cons, List.length_append, List.length_cons]
      omega
  have := this s
  simp only [quote, List.length_cons, List.length_append, List.length_nil]
  omega
theorem formM_ge : ∀ l : List (Bs × J), (l.map fun x => (formE x).length + 1).sum ≤ (formM l).length + 1 := by
  have hu : ∀ l : List (Bs × J), (l.map fun x => (formE x).length + 1).sum = (formU l).length := by
    intro l
    induction l with
    | nil => rfl
    | cons x l ih => simp only [List.map_cons, List.sum_cons, ih, formU, List.length_cons, List.length_append]; omega
  intro l
  cases l with
  | nil => simp
  | cons x l => simp only [List.map_cons, List.sum_cons, hu l, formM, List.length_append]; omega
theorem formL_ge : ∀ l : List J, (l.map fun x => (formJ x).length + 1).sum ≤ (formL l).length + 1 := by
  have hu : ∀ l : List J, (l.map fun x => (formJ x).length + 1).sum = (formT l).length := by
    intro l
    induction l with
    | nil => rfl
    | cons x l ih => simp only [List.map_cons, List.sum_cons, ih, formT, List.length_cons, List.length_append]; omega
  intro l
  cases l with
  | nil => simp
  | cons x l => simp only [List.map_cons, List.sum_cons, hu l, formL, List.length_append]; omega
theorem findM_mem {nm : Bs} : ∀ {l : List (Bs × J)} {x : J}, findM nm l = some x → (nm, x) ∈ l
  | [], _, h => by cases h
  | (n, y) :: l, x, h => by
    simp only [findM] at h
    split at h
    · rename_i e
      cases h
      rw [e]
      exact List.mem_cons_self
    · exact List.mem_cons_of_mem _ (findM_mem h)
theorem sum_mem {α : Type} (f : α → Nat) : ∀ {l : List α} {x : α}, x ∈ l → f x ≤ (l.map f).sum
  | y :: l, x, h => by
    simp only [List.map_cons, List.sum_cons]
    rcases List.mem_cons.1 h with rfl | h
    · omega
    · have := sum_mem f h
      omega
theorem mem_small {l : List (Bs × J)} {m : Bs × J} (h : m ∈ l) : (formJ m.2).length + m.1.length + 5 ≤ (formJ (.obj l)).length := by
  have h1 := formM_ge l
  have h2 := sum_mem (fun x => (formE x).length + 1) h
  obtain ⟨n, x⟩ := m
  have h3 := quote_ge n
  simp only [formE, List.length_append, List.length_cons] at h2
  simp only [formJ, List.length_cons, List.length_append, List.length_nil]
  omega
theorem get_small {nm : Bs} {j x : J} (h : getJ nm j = some x) : (formJ x).length ≤ (formJ j).length := by
  cases j with
  | obj l =>
    have := mem_small (findM_mem h)
    try simp only at this
    omega
  | _ => cases h
theorem item_small {l : List J} {x : J} (h : x ∈ l) : (formJ x).length + 1 ≤ (formJ (.arr l)).length := by
  have h1 := formL_ge l
  have h2 := sum_mem (fun x => (formJ x).length + 1) h
  simp only [formJ, List.length_cons, List.length_append, List.length_nil]
  try simp only at h2
  omega
theorem text_small {j : J} {s : Bs} (h : textJ j = (s, true)) : j = .str s := by
  cases j with
  | str t => simp only [textJ, Prod.mk.injEq, and_true] at h; rw [h]
  | _ => simp [textJ] at h
theorem labsM_small : ∀ {l : List (Bs × J)} {L : List Lab}, labsM l = some L → (L.map fun x : Lab => x.1.size + x.2.size + 1).sum ≤ (l.map fun x => (formE x).length + 1).sum ∧ L.length = l.length
  | [], L, h => by
    simp only [labsM, Option.some.injEq] at h
    subst h
    simp
  | (n, x) :: l, L, h => by
    simp only [labsM] at h
    split at h
    · cases h
    · rename_i s ht
      obtain rfl := text_small ht
      split at h
      · cases h
      · rename_i L' hL'
        obtain rfl := (Option.some.inj h).symm
        obtain ⟨h1, h2⟩ := labsM_small hL'
        have hq1 := quote_ge n
        have hq2 := quote_ge s
        refine ⟨?_, by simp [h2]⟩
        simp only [List.map_cons, List.sum_cons, formE, formJ, List.length_append, List.length_cons]
        have e1 : (toB n).size = n.length := by simp [toB, ByteArray.size]
        have e2 : (toB s).size = s.length := by simp [toB, ByteArray.size]
        rw [e1, e2]
        omega
theorem labs_small {j : J} {L : List Lab} (h : labsJ j = some L) : (L.map fun x : Lab => x.1.size + x.2.size + 1).sum ≤ (formJ j).length := by
  cases j with
  | obj l =>
    have h1 := (labsM_small h).1
    have h2 := formM_ge l
    simp only [formJ, List.length_cons, List.length_append, List.length_nil]
    omega
  | _ => cases h
end Go.Proofs.YtljnbbdhmlfhjaaGreatDoor
/-
  Texts of the call's own, sorted; what stands once in them.
-/
namespace Go.Proofs.YtljnbbdhmlfhjaaGreatDoor
open Go.RowKit
/-- A list of texts of the call's own. -/
def TextsJ (w : World) (B : Nat) (v : Value) (L : List Bs) : Prop := w.ownsRow B 9 1 v L.length (L.map strV)
def sortB (L : List Bs) : List Bs := L.mergeSort fun x y => decide (x ≤ y)
theorem sort_ownJ {w : World} {B : Nat} {v : Value} {L : List Bs} (h : TextsJ w B v L) (hL : L.length ≤ 1000000000000) :
    Calls Tryz.prog 94 #[v] w fun e w' => e = .returned (.tuple #[]) ∧ TextsJ w' B v (sortB L) ∧ w.grownBy w' v.ownBlock := by
  rcases h.2 with ⟨rfl, h0⟩ | ⟨g, cap, cur, rfl, hbase, hb, h1, h2, h3, h4⟩
  · have : L = [] := List.eq_nil_of_length_eq_zero h0
    subst this
    refine (Tryz.slices_Sort_string_none none 0 w).mono ?_
    rintro e w' ⟨rfl, rfl⟩
    exact ⟨rfl, by simpa [TextsJ, sortB] using h, World.grownBy.refl _ _⟩
  · refine (Tryz.slices_Sort_string g 0 cap L w (holds_of_block hb (by rw [Nat.mul_one] at h4; exact h4)) (Array.getElem?_eq_some_iff.1 hb).1 (by omega)).mono ?_
    rintro e w' ⟨rfl, n, os, rfl⟩
    refine ⟨rfl, ?_, grownBy_sorted _⟩
    unfold TextsJ sortB
    rw [List.length_mergeSort]
    exact ownsRow_sorted (List.length_mergeSort _) hbase hb h1 h2 h3
theorem sortB_len (L : List Bs) : (sortB L).length = L.length := List.length_mergeSort _
theorem sortB_perm (L : List Bs) : (sortB L).Perm L := List.mergeSort_perm _ _
theorem sortB_le (L : List Bs) : (sortB L).Pairwise (· ≤ ·) := by
  have := List.pairwise_mergeSort (le := fun x y : Bs => decide (x ≤ y)) (fun a b c h1 h2 => by
    simp only [decide_eq_true_eq] at *
    exact List.le_trans h1 h2) (fun a b => by
    simp only [Bool.or_eq_true, decide_eq_true_eq]
    exact List.le_total a b) L
  exact this.imp (by simp)
/-- What the loop has seen after k of them. -/
def onlyG (names L : List Bs) (k : Nat) : Bool := (List.range k).all fun i => decide (L.getD i [] ∈ names) && (decide (i = 0) || decide (L.getD (i - 1) [] ≠ L.getD i []))
theorem onlyG_step (names L : List Bs) (k : Nat) : onlyG names L (k + 1) = (onlyG names L k && (decide (L.getD k [] ∈ names) && (decide (k = 0) || decide (L.getD (k - 1) [] ≠ L.getD k [])))) := by
  unfold onlyG
  rw [List.range_succ, List.all_append]
  simp
theorem onlyG_sorted (names S : List Bs) (hs : S.Pairwise (· ≤ ·)) : onlyG names S S.length = decide (S.Nodup ∧ ∀ n ∈ S, n ∈ names) := by
  rw [Bool.eq_iff_iff, decide_eq_true_eq]
  unfold onlyG
  rw [List.all_eq_true]
  constructor
  · intro h
    refine ⟨?_, fun n hn => ?_⟩
    · have lt : ∀ i (hi : i + 1 < S.length), S[i] < S[i + 1] := fun i hi => by
        have h1 := h (i + 1) (List.mem_range.2 hi)
        have h2 := List.pairwise_iff_getElem.1 hs i (i + 1) (by omega) hi (by omega)
        simp only [Bool.and_eq_true, Bool.or_eq_true, decide_eq_true_eq] at h1
        rcases h1.2 with h3 | h3
        · omega
        · rw [List.getD_eq_getElem?_getD, List.getD_eq_getElem?_getD, List.getElem?_eq_getElem hi, List.getElem?_eq_getElem (by omega)] at h3
          rcases List.le_iff_lt_or_eq.1 h2 with h4 | h4
          · exact h4
          · exact absurd h4 (by simpa using h3)
      have all : ∀ d i (hi : i + d + 1 < S.length), S[i] < S[i + d + 1] := by
        intro d
        induction d with
        | zero => intro i hi; exact lt i hi
        | succ d ih =>
          intro i hi
          exact List.lt_trans (ih i (by omega)) (lt (i + d + 1) (by omega))
      unfold List.Nodup
      rw [List.pairwise_iff_getElem]
      intro i j hi hj hij
      obtain ⟨d, rfl⟩ : ∃ d, j = i + d + 1 := ⟨j - i - 1, by omega⟩
      intro e
      have := all d i hj
      rw [e] at this
      exact List.lt_irrefl _ this
    · obtain ⟨i, hi, rfl⟩ := List.mem_iff_getElem.1 hn
      have h1 := h i (List.mem_range.2 hi)
      simp only [Bool.and_eq_true, decide_eq_true_eq] at h1
      have h2 := h1.1
      rw [List.getD_eq_getElem?_getD, List.getElem?_eq_getElem hi] at h2
      exact h2
  · rintro ⟨h1, h2⟩ i hi
    have hi := List.mem_range.1 hi
    simp only [Bool.and_eq_true, Bool.or_eq_true, decide_eq_true_eq]
    refine ⟨?_, ?_⟩
    · rw [List.getD_eq_getElem?_getD, List.getElem?_eq_getElem hi]
      exact h2 _ (List.getElem_mem hi)
    · by_cases h0 : i = 0
      · exact .inl h0
      · right
        rw [List.getD_eq_getElem?_getD, List.getD_eq_getElem?_getD, List.getElem?_eq_getElem hi, List.getElem?_eq_getElem (by omega)]
        exact List.pairwise_iff_getElem.1 h1 (i - 1) i (by omega) hi (by omega)
theorem onlyG_end (names L : List Bs) : onlyG names (sortB L) (sortB L).length = decide (L.Nodup ∧ ∀ n ∈ L, n ∈ names) := by
  have hp := sortB_perm L
  rw [onlyG_sorted names (sortB L) (sortB_le L)]
  refine decide_eq_decide.2 ⟨fun h => ⟨hp.nodup_iff.1 h.1, fun n hn => h.2 n (hp.mem_iff.2 hn)⟩, fun h => ⟨hp.nodup_iff.2 h.1, fun n hn => h.2 n (hp.mem_iff.1 hn)⟩⟩
end Go.Proofs.YtljnbbdhmlfhjaaGreatDoor
/-
  wire.only.
-/
namespace Go.Proofs.YtljnbbdhmlfhjaaGreatDoor
open Go.RowKit
theorem text_at {w : World} {a : Option Addr} {n c : Nat} {L : List Bs} (h : argRow w (.slice a n c) L.length 1 (L.map strV)) {k : Nat} (hk : k < L.length) :
    ∃ b off, a = some ⟨b, off, none⟩ ∧ b < w.heap.size ∧ w.cell? ⟨b, off + k, none⟩ = some (.string (toB L[k])) := by
  obtain ⟨_, a', c', e, _, _, hc⟩ := h
  cases e
  obtain ⟨b, off, rfl, hb, hcs⟩ := hc (by omega)
  refine ⟨b, off, rfl, hb, ?_⟩
  have := hcs k (by simpa using hk)
  rw [this]
  simp [strV, toB]
theorem toB_list (s : Bs) : (toB s).toList = s := by rw [ByteArray.toList_eq]; rfl
theorem toB_data (s : Bs) : (toB s).data.toList = s := rfl
theorem contains_call (names : List Bs) (nv : Value) (x : Bs) (w : World) (h : argRow w nv names.length 1 (names.map strV)) (hne : names ≠ []) (hl : names.length ≤ 1000) :
    Calls Tryz.prog 95 #[nv, .string (toB x)] w fun e w' => e = .returned (.bool (decide (x ∈ names))) ∧ w' = w := by
  obtain ⟨_, a, c, rfl, _, _, hc⟩ := h
  obtain ⟨b, off, rfl, hb, hcs⟩ := hc (List.length_pos_iff.2 hne)
  refine (Tryz.slices_Contains_string b off names.length c (names.map toB) (toB x) w (by simp) (by omega) fun j hj => ?_).mono ?_
  · have hj' : j < names.length := by simpa using hj
    have := hcs j (by simpa using hj')
    rw [this]
    simp [strV, toB, List.getD_eq_getElem?_getD, List.getElem?_eq_getElem hj']
  · rintro e w' ⟨rfl, rfl⟩
    refine ⟨?_, rfl⟩
    congr 2
    rw [Bool.eq_iff_iff, Lib.containsS_iff, decide_eq_true_eq, List.take_of_length_le (by simp)]
    constructor
    · intro h
      obtain ⟨y, hy, e⟩ := List.mem_map.1 h
      have := congrArg (fun z : ByteArray => z.data.toList) e
      simp only [toB_data] at this
      rw [← this]
      exact hy
    · intro h
      exact List.mem_map.2 ⟨x, h, rfl⟩
set_option maxRecDepth 100000 in
set_option maxHeartbeats 20000000 in
theorem wire_only (j : J) (S : Nat → Prop) (v nv : Value) (names : List Bs) (w : World) (hr : RepJ w S j v) (hS : ∀ k, S k → k < w.heap.size) (hl : (formJ j).length ≤ 1000000000) (hn : argRow w nv names.length 1 (names.map strV)) (hne : names ≠ []) (hnl : names.length ≤ 1000) :
    Calls Tryz.prog 58 #[v, nv] w fun e w' => e = .returned (.bool (onlyB names j)) ∧ Below w.heap.size w w' := by
  have CN := js_Names j S v w hr hS (by omega)
  have hll : (namesJ j).1.length ≤ 1000000001 := by
    cases j with
    | obj l =>
      have := mem_count l
      simp only [formJ, List.length_cons, List.length_append, List.length_nil] at hl
      simp only [namesJ, List.length_map]
      omega
    | _ => simp [namesJ]
  have hend : onlyB names j = ((namesJ j).2 && onlyG names (sortB (namesJ j).1) (sortB (namesJ j).1).length) := by
    rw [onlyG_end]
    rfl
  obtain ⟨R, hR⟩ : ∃ R, onlyB names j = R := ⟨_, rfl⟩
  rw [hR] at hend ⊢
  obtain ⟨ok, hok⟩ : ∃ ok, (namesJ j).2 = ok := ⟨_, rfl⟩
  obtain ⟨L, hL⟩ : ∃ L, (namesJ j).1 = L := ⟨_, rfl⟩
  have CN2 : Calls Tryz.prog 18 #[v] w fun e w' => ∃ u, e = .returned (.tuple #[u, .bool ok]) ∧ TextsJ w' w.heap.size u L ∧ Below w.heap.size w w' := by
    refine CN.mono ?_
    rintro e w' ⟨u, h1, h2, h3⟩
    rw [hok] at h1
    rw [hL] at h2
    exact ⟨u, h1, h2, h3⟩
  rw [hL] at hll hend
  rw [hok] at hend
  have CS := Lib.hid (fun W u (h : TextsJ W w.heap.size u L) => sort_ownJ h (by omega))
  have CC := Lib.hid (fun W x (hW : Below w.heap.size w W) => contains_call names nv x W (argRow_below hn hW) hne hnl)
  have HEND := Lib.hid hend
  clear CN hR hr hS hl hok hL hn hend
  obtain ⟨P, hP⟩ : ∃ P, sortB L = P := ⟨_, rfl⟩
  rw [hP] at HEND
  have hPl : P.length = L.length := by rw [← hP, sortB_len]
  have hpl : P.length ≤ 1099511627776 := by omega
  have HPP := Lib.hid (And.intro hP hPl)
  clear hP hPl hll
  go_enter Tryz.func58, Tryz.ntmps58
  go_upto_region 2 with (go_at_call 18; refine CN2.mono ?_; rintro e w2 ⟨u, rfl, ho2, hb2⟩)
  have CS2 := CS.out w2 u ho2
  have H2 := Lib.hid (And.intro ho2 hb2)
  clear CN2 ho2 hb2
  go_upto_region 3 with (go_at_call 94; refine CS2.mono ?_; rintro e w3 ⟨rfl, ho3, hg3⟩)
  have hb3 : Below w.heap.size w w3 := H2.out.2.grown hg3 H2.out.2.size (fun k hk => (H2.out.1.lt k hk).1)
  have hrow := argRow_owns ho3
  unfold TextsJ at ho3
  rw [HPP.out.1] at hrow ho3
  obtain ⟨ua, uc, rfl⟩ := owns_slice ho3
  have HROW := Lib.hid hrow
  have HB3 := Lib.hid hb3
  clear CS CS2 ho3 hg3 hrow hb3
  go_wp2
  go_loopw [6, 18] (fun okv iv wr => ∃ k : Nat, iv = .int .i64 k ∧ k ≤ P.length ∧ okv = .bool (ok && onlyG names P k) ∧ wr = w3) (fun _ iv _ => P.length - (intOf iv).toNat)
  case atStart => exact ⟨0, rfl, by omega, by simp [onlyG], rfl⟩
  case round =>
    obtain ⟨k, rfl, hk, rfl, rfl⟩ := hrel
    by_cases hkl : k < P.length
    · have d1 : decide ((k : Int) < (P.length : Int)) = true := decide_eq_true (by omega)
      obtain ⟨b, off, rfl, hbl, hc⟩ := text_at HROW.out hkl
      have hstep := onlyG_step names P k
      have hgk : P.getD k [] = P[k] := by rw [List.getD_eq_getElem?_getD, List.getElem?_eq_getElem hkl]; rfl
      rw [hgk] at hstep
      obtain ⟨x, hx⟩ : ∃ x, P[k] = x := ⟨_, rfl⟩
      rw [hx] at hstep hc
      have CX := CC.out wr x HB3.out
      obtain ⟨c, hcc⟩ : ∃ c, decide (x ∈ names) = c := ⟨_, rfl⟩
      rw [hcc] at hstep CX
      obtain ⟨ok2, hok2⟩ : ∃ o, (ok && onlyG names P k) = o := ⟨_, rfl⟩
      have HST := Lib.hid (show (ok && onlyG names P (k + 1)) = (ok2 && (c && (decide (k = 0) || decide (P.getD (k - 1) [] ≠ x)))) by rw [hstep, ← Bool.and_assoc, hok2])
      rw [hok2]
      clear hstep hgk hcc hok2
      obtain ⟨X, hX⟩ : ∃ X, toB x = X := ⟨_, rfl⟩
      rw [hX] at CX hc
      cases ok2 with
      | false =>
        clear CX
        go_wp2
        go_roundw
        case rel => exact ⟨k + 1, by go_num, by omega, by rw [HST.out]; rfl, by first | trivial | rfl⟩
        case measure => simp [intOf]; omega
      | true =>
        cases c with
        | false =>
          go_wp2_with (go_at_call 95; refine CX.mono ?_; rintro e w5 ⟨rfl, rfl⟩)
          go_roundw
          case rel => exact ⟨k + 1, by go_num, by omega, by rw [HST.out]; rfl, by first | trivial | rfl⟩
          case measure => simp [intOf]; omega
        | true =>
          by_cases h0 : k = 0
          · subst h0
            rw [Nat.add_zero] at hc
            go_wp2_with (go_at_call 95; refine CX.mono ?_; rintro e w5 ⟨rfl, rfl⟩)
            go_roundw
            case rel => exact ⟨0 + 1, by go_num, by omega, by rw [HST.out]; rfl, by first | trivial | rfl⟩
            case measure => simp [intOf]; omega
          · obtain ⟨m, rfl⟩ : ∃ m, k = m + 1 := ⟨k - 1, by omega⟩
            have hml : m < P.length := by omega
            obtain ⟨b', off', e', hbl', hcm⟩ := text_at HROW.out hml
            cases e'
            have hgm : P.getD (m + 1 - 1) [] = P[m] := by rw [Nat.add_sub_cancel, List.getD_eq_getElem?_getD, List.getElem?_eq_getElem hml]; rfl
            have d2 : (((m + 1 : Nat) : Int) == 0) = false := by simp; omega
            have hne1 : decide (m + 1 = 0) = false := by simp
            have hst := HST.out
            rw [hgm, hne1] at hst
            obtain ⟨y, hy⟩ : ∃ y, P[m] = y := ⟨_, rfl⟩
            rw [hy] at hst hcm
            have HST2 := Lib.hid hst
            obtain ⟨Y, hY⟩ : ∃ Y, toB y = Y := ⟨_, rfl⟩
            have hXY : (Y.toList == X.toList) = decide (y = x) := by
              rw [← hX, ← hY, toB_list, toB_list, Bool.eq_iff_iff, beq_iff_eq, decide_eq_true_eq]
            rw [hY] at hcm
            clear hst hgm HST hX hY hne1
            obtain ⟨q, hq⟩ : ∃ q, decide (y = x) = q := ⟨_, rfl⟩
            have HQ := Lib.hid (show decide (y ≠ x) = !q by rw [← hq]; simp)
            rw [hq] at hXY
            clear hq
            go_wp2_with (go_at_call 95; refine CX.mono ?_; rintro e w5 ⟨rfl, rfl⟩)
            go_roundw
            case rel => exact ⟨m + 1 + 1, by go_num, by omega, by rw [HST2.out, HQ.out]; rfl, by first | trivial | rfl⟩
            case measure => simp [intOf]; omega
    · have d1 : decide ((k : Int) < (P.length : Int)) = false := decide_eq_false (by omega)
      have hke : k = P.length := by omega
      have hfin : (ok && onlyG names P k) = R := by rw [HEND.out, hke]
      rw [hfin]
      clear hke hfin
      go_wp2
      go_ret
      exact ⟨rfl, HB3.out⟩
end Go.Proofs.YtljnbbdhmlfhjaaGreatDoor
/-
  wire.labels.
-/
namespace Go.Proofs.YtljnbbdhmlfhjaaGreatDoor
open Go.RowKit
def preLb (A : List Lab) : Option (List Lab) → Option (List Lab)
  | none => none
  | some B => some (A ++ B)
theorem preLb_nil (o : Option (List Lab)) : preLb [] o = o := by cases o <;> rfl
theorem labsM_no {n : Bs} {x : J} {l : List (Bs × J)} {s : Bs} (h : textJ x = (s, false)) : labsM ((n, x) :: l) = none := by
  simp only [labsM, h]
theorem labsM_yes {n : Bs} {x : J} {l : List (Bs × J)} {s : Bs} (A : List Lab) (h : textJ x = (s, true)) : preLb A (labsM ((n, x) :: l)) = preLb (A ++ [(toB n, toB s)]) (labsM l) := by
  simp only [labsM, h]
  cases labsM l <;> simp [preLb]
theorem EJL : ElemT Tryz.prog 32 55 (.agg #[.string ⟨#[]⟩, .string ⟨#[]⟩]) 2 32 := ⟨Tryz.underlying32, by kernel_rfl, rfl, by decide⟩
def LabsR (w : World) (o : Option (List Lab)) (e : Ending) (w' : World) : Prop :=
  Below w.heap.size w w' ∧ match o with
    | none => e = .returned (.tuple #[.slice none 0 0, .bool false])
    | some L => ∃ u, e = .returned (.tuple #[u, .bool true]) ∧ w'.ownsRow w.heap.size 55 2 u L.length (labCells L)
set_option maxRecDepth 100000 in
set_option maxHeartbeats 20000000 in
theorem wire_labels_no (j : J) (S : Nat → Prop) (v : Value) (w : World) (hr : RepJ w S j v) (hS : ∀ k, S k → k < w.heap.size) (hl : (formJ j).length ≤ 1099511627776) (hj : (namesJ j) = ([], false)) :
    Calls Tryz.prog 96 #[v] w (LabsR w none) := by
  have CN := js_Names j S v w hr hS hl
  rw [hj] at CN
  have CN2 : Calls Tryz.prog 18 #[v] w fun e w' => ∃ u, e = .returned (.tuple #[u, .bool false]) ∧ Below w.heap.size w w' := by
    refine CN.mono ?_
    rintro e w' ⟨u, h1, h2, h3⟩
    exact ⟨u, h1, h3⟩
  clear CN hr hS hl hj
  go_enter Tryz.func96, Tryz.ntmps96
  go_wp2_with (go_at_call 18; refine CN2.mono ?_; rintro e w2 ⟨u, rfl, hb2⟩)
  go_ret2
  exact ⟨hb2, rfl⟩
set_option maxRecDepth 100000 in
set_option maxHeartbeats 20000000 in
theorem wire_labels_obj (l : List (Bs × J)) (S : Nat → Prop) (sv : Value) (vs : List Value) (w : World) (hrow : RowS w S sv l.length 2 vs) (hrep : RepM w S l vs) (hS : ∀ k, S k → k < w.heap.size) (hl : l.length ≤ 1048576) :
    Calls Tryz.prog 96 #[.iface 79 sv] w (LabsR w (labsM l)) := by
  have CN := js_Names_obj l S sv vs w hrow hrep hS (by omega)
  have a1 : ∀ W x, (Instr.typeAssert (.iface 79 x) 20 79 false).run Tryz.prog W = .ok x W := fun W x => by kernel_rfl
  have hc0 := fun (W : World) (hb : Below w.heap.size w W) (i : Nat) (hi : i < l.length) => mem_cells hi (hrow.low hS hb) (hrep.low hS hb)
  obtain ⟨⟨-, a, cap, rfl, -⟩, -⟩ := hrow
  have HC := Lib.hid (fun (W : World) (hb : Below w.heap.size w W) (i : Nat) (hi : i < l.length) => (show ∃ b off u, a = some ⟨b, off, none⟩ ∧ W.cell? ⟨b, off + i * 2 + 1, none⟩ = some u ∧ RepJ W S l[i].2 u from by
    obtain ⟨b, off, c, u, e, h⟩ := hc0 W hb i hi
    cases e
    exact ⟨b, off, u, rfl, h.2.1, h.2.2⟩))
  obtain ⟨X, hX⟩ : ∃ X, labsM l = X := ⟨_, rfl⟩
  rw [hX]
  have HX := Lib.hid ((preLb_nil _).trans hX)
  obtain ⟨n, hn⟩ : ∃ n, l.length = n := ⟨_, rfl⟩
  have HN := Lib.hid hn
  have CN2 : Calls Tryz.prog 18 #[.iface 79 (.slice a n cap)] w fun e w' => ∃ na nc, e = .returned (.tuple #[.slice na n nc, .bool true]) ∧ argRow w' (.slice na n nc) (l.map (·.1)).length 1 ((l.map (·.1)).map strV) ∧ Below w.heap.size w w' := by
    rw [hn] at CN
    refine CN.mono ?_
    rintro e w' ⟨u, h1, h2, h3⟩
    have h2' := argRow_owns h2
    have h4 := h2'
    obtain ⟨_, na, nc, rfl, -⟩ := h2'
    simp only [List.length_map, hn] at h1 h4 ⊢
    exact ⟨na, nc, h1, h4, h3⟩
  rw [hn] at hl ⊢
  clear CN hX hrep hS hn hc0
  go_enter Tryz.func96, Tryz.ntmps96
  go_upto_region 5 with (go_at_call 18; refine CN2.mono ?_; rintro e w2 ⟨na, nc, rfl, hrow2, hb2⟩)
  have HR2 := Lib.hid hrow2
  have HB2 := Lib.hid hb2
  clear CN2 hrow2 hb2
  go_wp2
  go_loopw [7, 23] (fun ov iv wr => ∃ (k : Nat) (A : List Lab), iv = .int .i64 k ∧ k ≤ n ∧ A.length = k ∧ wr.ownsRow w2.heap.size 55 2 ov k (labCells A) ∧ preLb A (labsM (l.drop k)) = X ∧ Below w2.heap.size w2 wr) (fun _ iv _ => n - (intOf iv).toNat)
  case atStart => exact ⟨0, [], rfl, by omega, rfl, World.ownsRow_nil _ _ _ _, HX.out, Below.refl _ _⟩
  case round =>
    obtain ⟨k, A, rfl, hk, hAk, ho, hx, hb⟩ := hrel
    have HAK := Lib.hid hAk
    have hbb := HB2.out.trans (hb.mono HB2.out.size)
    have hsz := hb.size
    obtain ⟨va, vc, rfl⟩ := owns_slice ho
    by_cases hkl : k < n
    · have hil : k < l.length := by rw [HN.out]; exact hkl
      have d1 : decide ((k : Int) < (n : Int)) = true := decide_eq_true (by omega)
      obtain ⟨b, off, u, rfl, hc, hu⟩ := HC.out wr hbb k hil
      obtain ⟨nb, noff, rfl, hnb, hnc⟩ := text_at HR2.out (k := k) (by simpa using hil)
      have hnc2 : wr.cell? ⟨nb, noff + k, none⟩ = some (.string (toB l[k].1)) := by
        rw [hb.cell (p := ⟨nb, noff + k, none⟩) hnb, hnc]
        simp
      have CT := js_Text l[k].2 S u wr hu
      have hk' := u_kind hu
      have hdr : l.drop k = l[k] :: l.drop (k + 1) := List.drop_eq_getElem_cons hil
      rw [hdr] at hx
      have HO := Lib.hid ho
      have hown := fun o => ho.alloc o
      obtain ⟨N, hN⟩ : ∃ N, toB l[k].1 = N := ⟨_, rfl⟩
      rw [hN] at hnc2
      have HB := Lib.hid hb
      cases ht : textJ l[k].2 with
      | mk s c =>
        rw [ht] at CT
        cases c with
        | false =>
          obtain rfl : X = none := by
            rw [← hx, show l[k] = (l[k].1, l[k].2) from rfl, labsM_no ht]
            rfl
          clear hu hx hdr hN hnc ht hown ho hb hAk
          rcases hk' with rfl | ⟨T, x, rfl⟩
          · go_wp2_with (go_at_call 20; refine CT.mono ?_; rintro e w5 ⟨rfl, rfl⟩)
            go_ret2
            exact ⟨hbb, rfl⟩
          · go_wp2_with (go_at_call 20; refine CT.mono ?_; rintro e w5 ⟨rfl, rfl⟩)
            go_ret2
            exact ⟨hbb, rfl⟩
        | true =>
          rw [show l[k] = (l[k].1, l[k].2) from rfl, labsM_yes A ht, hN] at hx
          have HXX := Lib.hid hx
          obtain ⟨T', hT'⟩ : ∃ T', toB s = T' := ⟨_, rfl⟩
          rw [hT'] at HXX
          have CT2 : Calls Tryz.prog 20 #[u] wr fun e w' => e = .returned (.tuple #[.string T', .bool true]) ∧ w' = wr := by rw [← hT']; exact CT
          clear CT hu hx hdr hN hnc ht ho hb hT' hAk
          rcases hk' with rfl | ⟨T, x, rfl⟩
          all_goals
            go_wp2_with (first
              | (go_at_call 20; refine CT2.mono ?_; rintro e w5 ⟨rfl, rfl⟩)
              | (at_builtin; go_loud (refine wpList_append_src rfl _ _ _ _ rfl w2.heap.size EJL _ k (labCells A) rfl (hown _) _ 1 [.string N, .string T'] rfl (by exact src_last (cs := #[.string N, .string T']) Tryz.underlying32 1 1 2 rfl rfl (by simp [Value.oneCell'])) (by unfold maxLen; omega) (by omega) (by simp; omega) ?_); intro v9 w9 hown9 hgr9 _ _; have H9 := Lib.hid (And.intro hown9 hgr9); clear hown9 hgr9))
            go_roundw
            case rel =>
              refine ⟨k + 1, A ++ [(N, T')], by go_num, by omega, by rw [List.length_append, HAK.out]; rfl, ?_, HXX.out, ?_⟩
              · rw [labCells_append]
                exact H9.out.1
              · exact (belowAJ HB.out HB.out.size).grown H9.out.2 (by simp; omega) (fun k hk => (HO.out.lt k hk).1)
            case measure => simp [intOf]; omega
    · have d1 : decide ((k : Int) < (n : Int)) = false := decide_eq_false (by omega)
      rw [List.drop_of_length_le (by rw [HN.out]; omega)] at hx
      obtain rfl : X = some A := by
        rw [← hx]
        simp [labsM, preLb]
      have HO := Lib.hid ho
      clear hx ho
      go_wp2
      go_ret2
      refine ⟨hbb, _, rfl, ?_⟩
      rw [HAK.out]
      exact owns_base HO.out HB2.out.size
theorem wire_labels (j : J) (S : Nat → Prop) (v : Value) (w : World) (hr : RepJ w S j v) (hS : ∀ k, S k → k < w.heap.size) (hl : (formJ j).length ≤ 1048570) :
    Calls Tryz.prog 96 #[v] w (LabsR w (labsJ j)) := by
  cases j with
  | obj l =>
    obtain ⟨sv, vs, rfl, h1, h2⟩ := hr
    have hle := mem_count l
    simp only [formJ, List.length_cons, List.length_append, List.length_nil] at hl
    exact wire_labels_obj l S sv vs w h1 h2 hS (by omega)
  | _ => exact wire_labels_no _ S v w hr hS (by omega) rfl
end Go.Proofs.YtljnbbdhmlfhjaaGreatDoor
