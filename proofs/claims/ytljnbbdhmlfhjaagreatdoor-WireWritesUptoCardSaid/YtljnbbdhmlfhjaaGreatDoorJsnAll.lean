/-
  JSON, plainly: values, their one form, and the reading of a text.
-/
import Derived.Test.YtljnbbdhmlfhjaaGreatDoorUtfP
import Derived.Lib.ItoaNum
import Derived.Lib.ItoaMem
import Derived.Lib.ItoaLen
import Derived.Lib.ParseIntBTie
import Derived.Lib.ParseIntBCases
namespace Go.Proofs.YtljnbbdhmlfhjaaGreatDoor
open Go.RowKit
/-- Bytes. -/
abbrev Bs := List UInt8
/-- A value. -/
inductive J where
  | nul
  | bool (b : Bool)
  | num (s : Bs)
  | str (s : Bs)
  | arr (l : List J)
  | obj (l : List (Bs × J))
mutual
/-- How many arrays and objects lie within one another. -/
def deepJ : J → Nat
  | .nul => 0
  | .bool _ => 0
  | .num _ => 0
  | .str _ => 0
  | .arr l => deepL l + 1
  | .obj l => deepM l + 1
def deepL : List J → Nat
  | [] => 0
  | x :: l => max (deepJ x) (deepL l)
def deepM : List (Bs × J) → Nat
  | [] => 0
  | x :: l => max (deepE x) (deepM l)
def deepE : Bs × J → Nat
  | (_, x) => deepJ x
end
def hexD (n : Nat) : UInt8 := if n < 10 then UInt8.ofNat (48 + n) else UInt8.ofNat (87 + n)
/-- A byte of a text, in its one form. -/
def escB (c : UInt8) : Bs :=
  if c = 34 ∨ c = 92 then [92, c]
  else if c = 8 then [92, 98]
  else if c = 12 then [92, 102]
  else if c = 10 then [92, 110]
  else if c = 13 then [92, 114]
  else if c = 9 then [92, 116]
  else if c.toNat < 32 then [92, 117, 48, 48, hexD (c.toNat / 16), hexD (c.toNat % 16)]
  else [c]
def escS (s : Bs) : Bs := s.flatMap escB
def quote (s : Bs) : Bs := 34 :: (escS s ++ [34])
def nullB : Bs := [110, 117, 108, 108]
def trueB : Bs := [116, 114, 117, 101]
def falseB : Bs := [102, 97, 108, 115, 101]
mutual
/-- The one form. -/
def formJ : J → Bs
  | .nul => nullB
  | .bool true => trueB
  | .bool false => falseB
  | .num s => s
  | .str s => quote s
  | .arr l => 91 :: (formL l ++ [93])
  | .obj l => 123 :: (formM l ++ [125])
def formL : List J → Bs
  | [] => []
  | x :: l => formJ x ++ formT l
/-- .. behind the first one. -/
def formT : List J → Bs
  | [] => []
  | x :: l => 44 :: (formJ x ++ formT l)
def formM : List (Bs × J) → Bs
  | [] => []
  | x :: l => formE x ++ formU l
def formU : List (Bs × J) → Bs
  | [] => []
  | x :: l => 44 :: (formE x ++ formU l)
def formE : Bs × J → Bs
  | (n, x) => quote n ++ 58 :: formJ x
end
/-! ### The reading -/
def isW (c : UInt8) : Bool := c == 32 || c == 9 || c == 10 || c == 13
def sp : Bs → Bs
  | [] => []
  | c :: s => if isW c then sp s else c :: s
def isD (c : UInt8) : Bool := decide (48 ≤ c.toNat ∧ c.toNat ≤ 57)
/-- How many digits stand in front. -/
def digs : Bs → Nat
  | [] => 0
  | c :: s => if isD c then digs s + 1 else 0
def fracN (k : Nat) (s : Bs) : Option Nat := if s.head? = some 46 then (if digs (s.drop 1) = 0 then none else some (k + 1 + digs (s.drop 1))) else some k
def signN (s : Bs) : Nat := if s.head? = some 43 ∨ s.head? = some 45 then 1 else 0
def expN (k : Nat) (s : Bs) : Option Nat :=
  if s.head? = some 101 ∨ s.head? = some 69 then
    (if digs (s.drop (1 + signN (s.drop 1))) = 0 then none else some (k + (1 + signN (s.drop 1)) + digs (s.drop (1 + signN (s.drop 1)))))
  else some k
def minusN (s : Bs) : Nat := if s.head? = some 45 then 1 else 0
/-- How many bytes the number in front has; 0: none. -/
def numN (s : Bs) : Nat :=
  if digs (s.drop (minusN s)) = 0 ∨ ((s.drop (minusN s)).head? = some 48 ∧ 1 < digs (s.drop (minusN s))) then 0
  else match fracN (minusN s + digs (s.drop (minusN s))) (s.drop (minusN s + digs (s.drop (minusN s)))) with
    | none => 0
    | some k => match expN k (s.drop k) with
      | none => 0
      | some k' => k'
/-- What an escape of one sign means. -/
def plainE (c : UInt8) : Option UInt8 :=
  if c = 34 then some 34 else if c = 92 then some 92 else if c = 47 then some 47 else if c = 98 then some 8 else if c = 102 then some 12
  else if c = 110 then some 10 else if c = 114 then some 13 else if c = 116 then some 9 else none
def hexV' (c : UInt8) : Option Nat :=
  if 48 ≤ c.toNat ∧ c.toNat ≤ 57 then some (c.toNat - 48) else if 97 ≤ c.toNat ∧ c.toNat ≤ 102 then some (c.toNat - 87)
  else if 65 ≤ c.toNat ∧ c.toNat ≤ 70 then some (c.toNat - 55) else none
/-- Four digits. -/
def hex4 : Bs → Option (Nat × Bs)
  | a :: b :: c :: d :: s => match hexV' a, hexV' b, hexV' c, hexV' d with
    | some a, some b, some c, some d => some (((a * 16 + b) * 16 + c) * 16 + d, s)
    | _, _, _, _ => none
  | _ => none
/-- u and four digits. -/
def hexP : Bs → Option (Nat × Bs)
  | [] => none
  | c :: s => if c = 117 then hex4 s else none
/-- Behind a high surrogate. -/
def lowP (n : Nat) : Bs → Option (Bs × Bs)
  | [] => none
  | c :: s => if c = 92 then (match hexP s with
    | none => none
    | some (m, r) => if 56320 ≤ m ∧ m ≤ 57343 then some (encR (65536 + (n - 55296) * 1024 + (m - 56320)), r) else none) else none
/-- Behind a \. -/
def escP (s : Bs) : Option (Bs × Bs) :=
  match s with
  | [] => none
  | c :: r => match plainE c with
    | some b => some ([b], r)
    | none => match hexP s with
      | none => none
      | some (n, r') => if 55296 ≤ n ∧ n ≤ 56319 then lowP n r' else if 56320 ≤ n ∧ n ≤ 57343 then none else some (encR n, r')
def addS (b : Bs) : Option (Bs × Bs) → Option (Bs × Bs)
  | none => none
  | some (t, r) => some (b ++ t, r)
/-- A text, behind its quote. -/
def strL : Nat → Bs → Option (Bs × Bs)
  | 0, _ => none
  | _ + 1, [] => none
  | k + 1, c :: s => if c = 34 then some ([], s)
    else if c = 92 then (match escP s with
      | none => none
      | some (b, r) => addS b (strL k r))
    else if c.toNat < 32 then none else addS [c] (strL k s)
def textP : Bs → Option (Bs × Bs)
  | [] => none
  | c :: s => if c = 34 then strL (s.length + 1) s else none
def nextB (c : UInt8) : Bs → Option Bs
  | [] => none
  | d :: s => if d = c then some s else none
def wordP : Bs → J → Bs → Option (J × Bs)
  | [], j, s => some (j, s)
  | c :: w, j, s => match nextB c s with
    | none => none
    | some r => wordP w j r
def addL {α : Type} (x : α) : Option (List α × Bs) → Option (List α × Bs)
  | none => none
  | some (l, r) => some (x :: l, r)
/-- Behind an item: the end, or a comma and more. -/
def moreP {α : Type} (e : UInt8) (x : α) (rest : Bs → Option (List α × Bs)) (s : Bs) : Option (List α × Bs) :=
  match nextB e s with
  | some r => some ([x], r)
  | none => match nextB 44 s with
    | none => none
    | some r => addL x (rest r)
def itemsL (val : Bs → Option (J × Bs)) : Nat → Bs → Option (List J × Bs)
  | 0, _ => none
  | n + 1, s => match val s with
    | none => none
    | some (j, r) => moreP 93 j (itemsL val n) r
/-- A member. -/
def memP' (val : Bs → Option (J × Bs)) (s : Bs) : Option ((Bs × J) × Bs) :=
  match textP (sp s) with
  | none => none
  | some (n, r) => match nextB 58 (sp r) with
    | none => none
    | some r' => match val r' with
      | none => none
      | some (j, r'') => some ((n, j), r'')
def memsL (val : Bs → Option (J × Bs)) : Nat → Bs → Option (List (Bs × J) × Bs)
  | 0, _ => none
  | n + 1, s => match memP' val s with
    | none => none
    | some (m, r) => moreP 125 m (memsL val n) r
def arrP (val : Bs → Option (J × Bs)) (s : Bs) : Option (J × Bs) :=
  match nextB 93 (sp s) with
  | some r => some (.arr [], r)
  | none => match itemsL val (s.length + 1) (sp s) with
    | none => none
    | some (l, r) => some (.arr l, r)
def objP (val : Bs → Option (J × Bs)) (s : Bs) : Option (J × Bs) :=
  match nextB 125 (sp s) with
  | some r => some (.obj [], r)
  | none => match memsL val (s.length + 1) (sp s) with
    | none => none
    | some (l, r) => some (.obj l, r)
def strPJ (s : Bs) : Option (J × Bs) :=
  match textP s with
  | none => none
  | some (t, r) => some (.str t, r)
def numP (s : Bs) : Option (J × Bs) := if numN s = 0 then none else some (.num (s.take (numN s)), s.drop (numN s))
/-- A value, no space about it. -/
def barP (val : Bs → Option (J × Bs)) (s : Bs) : Option (J × Bs) :=
  if s.head? = some 110 then wordP nullB .nul s
  else if s.head? = some 116 then wordP trueB (.bool true) s
  else if s.head? = some 102 then wordP falseB (.bool false) s
  else if s.head? = some 34 then strPJ s
  else if s.head? = some 91 then arrP val (s.drop 1)
  else if s.head? = some 123 then objP val (s.drop 1)
  else numP s
def spR : Option (J × Bs) → Option (J × Bs)
  | none => none
  | some (j, r) => some (j, sp r)
def valP : Nat → Bs → Option (J × Bs)
  | 0, _ => none
  | k + 1, s => spR (barP (valP k) (sp s))
/-- A whole text. -/
def docJ (s : Bs) : Option J := match valP (s.length + 1) s with
  | some (j, []) => some j
  | _ => none
def parseE (s : Bs) : Int := if 16384 < s.length then 4 else if Lib.validD s = false then 8 else match docJ s with
  | none => 6
  | some j => if 16 < deepJ j then 9 else 0
def parseJ (s : Bs) : J := if 16384 < s.length ∨ Lib.validD s = false then .nul else match docJ s with
  | none => .nul
  | some j => if 16 < deepJ j then .nul else j
/-- What Parse and Write make of a text. -/
def oneF (s : Bs) : Bs := if parseE s = 0 then formJ (parseJ s) else []
end Go.Proofs.YtljnbbdhmlfhjaaGreatDoor
/-
  JSON, plainly: a number's shape; a value's one form is read as the value.
-/
namespace Go.Proofs.YtljnbbdhmlfhjaaGreatDoor
open Go.RowKit
theorem sp_len : ∀ s : Bs, (sp s).length ≤ s.length
  | [] => Nat.le_refl _
  | c :: s => by
    have := sp_len s
    simp only [sp]
    split <;> simp only [List.length_cons] <;> omega
theorem sp_no {c : UInt8} (s : Bs) (h : isW c = false) : sp (c :: s) = c :: s := by simp [sp, h]
theorem sp_yes {c : UInt8} (s : Bs) (h : isW c = true) : sp (c :: s) = sp s := by simp [sp, h]
/-! ### Numbers -/
theorem digs_le : ∀ s : Bs, digs s ≤ s.length
  | [] => Nat.le_refl _
  | c :: s => by
    have := digs_le s
    simp only [digs]
    split <;> simp only [List.length_cons] <;> omega
theorem digs_all : ∀ (x t : Bs), (∀ c ∈ x, isD c = true) → (∀ c r, t = c :: r → isD c = false) → digs (x ++ t) = x.length
  | [], t, _, h => by
    cases t with
    | nil => rfl
    | cons c t => simp [digs, h c t rfl]
  | c :: x, t, hx, h => by
    simp [digs, hx c (by simp), digs_all x t (fun d hd => hx d (by simp [hd])) h]
theorem digs_take : ∀ (s : Bs), ∀ c ∈ s.take (digs s), isD c = true
  | [], c, h => by simp at h
  | d :: s, c, h => by
    simp only [digs] at h
    split at h
    · rename_i hd
      simp only [List.take_succ_cons, List.mem_cons] at h
      rcases h with rfl | h
      · exact hd
      · exact digs_take s c h
    · simp at h
/-- Digits, at least one. -/
def Digs (x : Bs) : Prop := x ≠ [] ∧ ∀ c ∈ x, isD c = true
theorem Digs.head {x : Bs} (h : Digs x) : ∃ d y, x = d :: y ∧ isD d = true := by
  obtain ⟨h1, h2⟩ := h
  cases x with
  | nil => exact absurd rfl h1
  | cons d y => exact ⟨d, y, rfl, h2 d (by simp)⟩
def FracS (fr : Bs) : Prop := fr = [] ∨ ∃ y, fr = 46 :: y ∧ Digs y
def SignS (sg : Bs) : Prop := sg = [] ∨ sg = [43] ∨ sg = [45]
def ExpS (ex : Bs) : Prop := ex = [] ∨ ∃ e sg z, ex = e :: (sg ++ z) ∧ (e = 101 ∨ e = 69) ∧ SignS sg ∧ Digs z
/-- A number's text. -/
def NumS (a : Bs) : Prop := ∃ sg x fr ex : Bs, a = sg ++ (x ++ (fr ++ ex)) ∧ (sg = [] ∨ sg = [45]) ∧ (Digs x ∧ (x.head? = some 48 → x.length = 1)) ∧ FracS fr ∧ ExpS ex
/-- What may stand behind a number. -/
def numEnd (t : Bs) : Prop := ∀ c r, t = c :: r → isD c = false ∧ c ≠ 46 ∧ c ≠ 101 ∧ c ≠ 69
theorem isD_ne {c d : UInt8} (hc : isD c = true) (hd : isD d = false) : c ≠ d := by
  intro e; rw [e, hd] at hc; cases hc
theorem Digs.no {x t : Bs} (h : Digs x) (ht : ∀ c r, t = c :: r → isD c = false) : digs (x ++ t) = x.length := digs_all x t h.2 ht
theorem Digs.len {x : Bs} (h : Digs x) : 0 < x.length := by
  obtain ⟨d, y, rfl, -⟩ := h.head
  simp
theorem exp_of {ex t : Bs} (h : ExpS ex) (ht : numEnd t) (k : Nat) : expN k (ex ++ t) = some (k + ex.length) := by
  rcases h with rfl | ⟨e, sg, z, rfl, he, hs, hz⟩
  · unfold expN
    cases t with
    | nil => rfl
    | cons c r =>
      obtain ⟨-, -, h1, h2⟩ := ht c r rfl
      simp [h1, h2]
  · have hz' : ∀ c r, t = c :: r → isD c = false := fun c r e => (ht c r e).1
    have hsg : signN (sg ++ (z ++ t)) = sg.length := by
      rcases hs with rfl | rfl | rfl
      · obtain ⟨d, y, rfl, hd⟩ := hz.head
        have h1 := isD_ne (d := 43) hd (by decide)
        have h2 := isD_ne (d := 45) hd (by decide)
        simp [signN, h1, h2]
      · rfl
      · rfl
    have e1 : ((e :: (sg ++ z)) ++ t).drop 1 = sg ++ (z ++ t) := by simp
    have e2 : ((e :: (sg ++ z)) ++ t).drop (1 + sg.length) = z ++ t := by
      rw [← List.drop_drop, e1, List.drop_left]
    have hl := hz.len
    unfold expN
    rw [if_pos (by rcases he with rfl | rfl <;> simp), e1, hsg, e2, hz.no hz', if_neg (by omega)]
    simp only [List.length_cons, List.length_append]
    congr 1; omega
theorem exp_head {ex t : Bs} (h : ExpS ex) (ht : numEnd t) : ∀ c r, ex ++ t = c :: r → isD c = false ∧ c ≠ 46 := by
  intro c r e
  rcases h with rfl | ⟨d, sg, z, rfl, he, -, -⟩
  · exact ⟨(ht c r e).1, (ht c r e).2.1⟩
  · simp only [List.cons_append, List.cons.injEq] at e
    obtain ⟨rfl, -⟩ := e
    rcases he with rfl | rfl <;> exact ⟨by decide, by decide⟩
theorem frac_of {fr u : Bs} (h : FracS fr) (hu : ∀ c r, u = c :: r → isD c = false ∧ c ≠ 46) (k : Nat) : fracN k (fr ++ u) = some (k + fr.length) := by
  rcases h with rfl | ⟨y, rfl, hy⟩
  · unfold fracN
    cases u with
    | nil => rfl
    | cons c r =>
      obtain ⟨-, h1⟩ := hu c r rfl
      simp [h1]
  · have hl := hy.len
    unfold fracN
    rw [if_pos (by simp)]
    have e1 : ((46 :: y) ++ u).drop 1 = y ++ u := by simp
    rw [e1, hy.no (fun c r e => (hu c r e).1), if_neg (by omega)]
    simp only [List.length_cons]
    congr 1; omega
theorem frac_head {fr u : Bs} (h : FracS fr) (hu : ∀ c r, u = c :: r → isD c = false ∧ c ≠ 46) : ∀ c r, fr ++ u = c :: r → isD c = false := by
  intro c r e
  rcases h with rfl | ⟨y, rfl, -⟩
  · exact (hu c r e).1
  · simp only [List.cons_append, List.cons.injEq] at e
    obtain ⟨rfl, -⟩ := e
    decide
theorem num_of {a t : Bs} (h : NumS a) (ht : numEnd t) : numN (a ++ t) = a.length := by
  obtain ⟨sg, x, fr, ex, rfl, hsg, ⟨hx, hx0⟩, hfr, hex⟩ := h
  have e0 : sg ++ (x ++ (fr ++ ex)) ++ t = sg ++ (x ++ (fr ++ (ex ++ t))) := by simp
  have hm : minusN (sg ++ (x ++ (fr ++ (ex ++ t)))) = sg.length := by
    rcases hsg with rfl | rfl
    · obtain ⟨d, y, rfl, hd⟩ := hx.head
      have h2 := isD_ne (d := 45) hd (by decide)
      simp [minusN, h2]
    · rfl
  have hu := exp_head hex ht
  have hd : digs (x ++ (fr ++ (ex ++ t))) = x.length := hx.no (frac_head hfr hu)
  have hl := hx.len
  have e1 : (sg ++ (x ++ (fr ++ (ex ++ t)))).drop (sg.length + x.length) = fr ++ (ex ++ t) := by
    rw [← List.drop_drop, List.drop_left, List.drop_left]
  have e2 : (sg ++ (x ++ (fr ++ (ex ++ t)))).drop (sg.length + x.length + fr.length) = ex ++ t := by
    rw [← List.drop_drop, e1, List.drop_left]
  rw [e0]
  unfold numN
  rw [hm, List.drop_left, hd, e1, frac_of hfr hu]
  simp only []
  rw [e2, exp_of hex ht, if_neg]
  · simp only [List.length_append]; omega
  · rintro (h | ⟨h1, h2⟩)
    · omega
    · obtain ⟨d, y, rfl, -⟩ := hx.head
      have := hx0 (by simpa using h1)
      omega
theorem numEnd_nil : numEnd [] := fun _ _ e => by cases e
theorem num_len {a : Bs} (h : NumS a) : numN a = a.length := by
  have := num_of h numEnd_nil
  simpa using this
theorem exp_inv {k k' : Nat} {s : Bs} (h : expN k s = some k') : ∃ f, k' = k + f ∧ f ≤ s.length ∧ ExpS (s.take f) := by
  unfold expN at h
  split at h
  · rename_i he
    split at h
    · cases h
    · rename_i hd
      cases h
      cases s with
      | nil => simp at he
      | cons e s =>
        simp only [List.drop_succ_cons, List.drop_zero, Nat.add_comm 1] at hd he ⊢
        have hle := digs_le (s.drop (signN s))
        have hz : Digs ((s.drop (signN s)).take (digs (s.drop (signN s)))) := by
          refine ⟨fun e' => hd ?_, digs_take _⟩
          have := congrArg List.length e'
          simp only [List.length_take, List.length_nil] at this
          omega
        have hsl : signN s ≤ s.length := by
          unfold signN
          split
          · rename_i hh
            cases s with
            | nil => simp at hh
            | cons => simp
          · omega
        refine ⟨signN s + 1 + digs (s.drop (signN s)), by omega, ?_, .inr ⟨e, s.take (signN s), (s.drop (signN s)).take (digs (s.drop (signN s))), ?_, ?_, ?_, hz⟩⟩
        · simp only [List.length_drop] at hle
          simp only [List.length_cons]
          omega
        · rw [Nat.add_right_comm, List.take_succ_cons, List.take_add]
        · simpa using he
        · unfold SignS signN
          split
          · rename_i hh
            cases s with
            | nil => simp at hh
            | cons c s =>
              simp only [List.head?_cons, Option.some.injEq] at hh
              rcases hh with rfl | rfl
              · exact .inr (.inl rfl)
              · exact .inr (.inr rfl)
          · exact .inl rfl
  · cases h
    exact ⟨0, rfl, Nat.zero_le _, .inl rfl⟩
theorem frac_inv {k k' : Nat} {s : Bs} (h : fracN k s = some k') : ∃ f, k' = k + f ∧ f ≤ s.length ∧ FracS (s.take f) := by
  unfold fracN at h
  split at h
  · rename_i he
    split at h
    · cases h
    · rename_i hd
      cases h
      cases s with
      | nil => simp at he
      | cons e s =>
        simp only [List.drop_succ_cons, List.drop_zero, List.head?_cons, Option.some.injEq] at hd he ⊢
        subst he
        have hle := digs_le s
        have hz : Digs (s.take (digs s)) := by
          refine ⟨fun e' => hd ?_, digs_take _⟩
          have := congrArg List.length e'
          simp only [List.length_take, List.length_nil] at this
          omega
        exact ⟨digs s + 1, by omega, by simp only [List.length_cons]; omega, .inr ⟨_, by rw [List.take_succ_cons], hz⟩⟩
  · cases h
    exact ⟨0, rfl, Nat.zero_le _, .inl rfl⟩
theorem minus_le (s : Bs) : minusN s ≤ s.length := by
  unfold minusN
  split
  · rename_i hh
    cases s with
    | nil => simp at hh
    | cons => simp
  · omega
theorem num_inv {s : Bs} (h : numN s ≠ 0) : numN s ≤ s.length ∧ NumS (s.take (numN s)) := by
  obtain ⟨m, hm⟩ : ∃ m, minusN s = m := ⟨_, rfl⟩
  obtain ⟨n, hn⟩ : ∃ n, digs (s.drop m) = n := ⟨_, rfl⟩
  have hml := minus_le s
  have hnl := digs_le (s.drop m)
  rw [hm] at hml
  rw [hn] at hnl
  simp only [List.length_drop] at hnl
  have hsg : s.take m = [] ∨ s.take m = [45] := by
    rw [← hm]
    unfold minusN
    split
    · rename_i hh
      cases s with
      | nil => simp at hh
      | cons c s =>
        simp only [List.head?_cons, Option.some.injEq] at hh
        subst hh
        exact .inr rfl
    · exact .inl rfl
  unfold numN at h ⊢
  rw [hm, hn] at h ⊢
  split at h
  · exact absurd rfl h
  · rename_i h0
    rw [if_neg h0]
    simp only [not_or, not_and, Nat.not_lt] at h0
    obtain ⟨h1, h2⟩ := h0
    split at h
    · exact absurd rfl h
    · rename_i k hk
      obtain ⟨f, rfl, hf, hF⟩ := frac_inv hk
      simp only [List.length_drop] at hf
      split at h
      · exact absurd rfl h
      · rename_i k' hk'
        obtain ⟨g, rfl, hg, hG⟩ := exp_inv hk'
        simp only [List.length_drop] at hg
        refine ⟨by omega, s.take m, (s.drop m).take n, (s.drop (m + n)).take f, (s.drop (m + n + f)).take g, ?_, hsg, ⟨⟨fun e' => h1 ?_, ?_⟩, fun e' => ?_⟩, hF, hG⟩
        · rw [List.take_add, List.take_add, List.take_add, List.append_assoc, List.append_assoc]
        · have := congrArg List.length e'
          simp only [List.length_take, List.length_drop, List.length_nil] at this
          omega
        · rw [← hn]; exact digs_take _
        · have : (s.drop m).head? = some 48 := by
            rw [List.head?_take] at e'
            split at e'
            · cases e'
            · exact e'
          have := h2 this
          simp only [List.length_take, List.length_drop]
          omega
theorem num_iff (s : Bs) : NumS s ↔ s ≠ [] ∧ numN s = s.length := by
  constructor
  · intro h
    refine ⟨?_, num_len h⟩
    rintro rfl
    obtain ⟨sg, x, fr, ex, e, -, ⟨hx, -⟩, -⟩ := h
    have := hx.len
    have := congrArg List.length e
    simp only [List.length_append, List.length_nil] at this
    omega
  · rintro ⟨h1, h2⟩
    have h0 : numN s ≠ 0 := by
      intro e
      rw [e] at h2
      exact h1 (List.eq_nil_of_length_eq_zero h2.symm)
    have := (num_inv h0).2
    rwa [h2, List.take_length] at this
theorem num_head {a : Bs} (h : NumS a) : ∃ c r, a = c :: r ∧ (c = 45 ∨ isD c = true) := by
  obtain ⟨sg, x, fr, ex, rfl, hsg, ⟨hx, -⟩, -⟩ := h
  obtain ⟨d, y, rfl, hd⟩ := hx.head
  rcases hsg with rfl | rfl
  · exact ⟨d, _, rfl, .inr hd⟩
  · exact ⟨45, _, rfl, .inl rfl⟩
/-! ### Strings -/
theorem esc_plain {c : UInt8} (h1 : ¬ (c = 34 ∨ c = 92)) (h2 : ¬ c.toNat < 32) : escB c = [c] := by
  have a1 : c ≠ 8 := by rintro rfl; exact h2 (by decide)
  have a2 : c ≠ 12 := by rintro rfl; exact h2 (by decide)
  have a3 : c ≠ 10 := by rintro rfl; exact h2 (by decide)
  have a4 : c ≠ 13 := by rintro rfl; exact h2 (by decide)
  have a5 : c ≠ 9 := by rintro rfl; exact h2 (by decide)
  simp [escB, h1, h2, a1, a2, a3, a4, a5]
theorem escS_cons (c : UInt8) (s : Bs) : escS (c :: s) = escB c ++ escS s := by simp [escS]
/-! ### Values -/
mutual
/-- A value that can be written. -/
def okJ : J → Prop
  | .nul => True
  | .bool _ => True
  | .num s => NumS s
  | .str s => Lib.validD s = true
  | .arr l => okL l
  | .obj l => okM l
def okL : List J → Prop
  | [] => True
  | x :: l => okJ x ∧ okL l
def okM : List (Bs × J) → Prop
  | [] => True
  | x :: l => okE x ∧ okM l
def okE : Bs × J → Prop
  | (n, x) => Lib.validD n = true ∧ okJ x
end
theorem next_yes (c : UInt8) (s : Bs) : nextB c (c :: s) = some s := by simp [nextB]
end Go.Proofs.YtljnbbdhmlfhjaaGreatDoor
/-
  JSON, plainly: what is read can be written, and is no longer than six times what was read.
-/
namespace Go.Proofs.YtljnbbdhmlfhjaaGreatDoor
open Go.RowKit
/-- A reader's step: the rest is shorter, the form no longer than six times what was read, what is valid stays valid. -/
def Rdg (len : Nat) (ok : Prop) (s r : Bs) : Prop := r.length < s.length ∧ len + 6 * r.length ≤ 6 * s.length ∧ (Lib.validD s = true → ok ∧ Lib.validD r = true)
theorem next_inv {c : UInt8} {s r : Bs} (h : nextB c s = some r) : s = c :: r := by
  cases s with
  | nil => cases h
  | cons d s =>
    simp only [nextB] at h
    split at h
    · rename_i e
      cases h
      rw [e]
    · cases h
theorem valid_low {c : UInt8} (h : c.toNat < 128) (s : Bs) : Lib.validD (c :: s) = Lib.validD s := Lib.validD_cons c s h
theorem isW_low {c : UInt8} (h : isW c = true) : c.toNat < 128 := by
  simp only [isW, Bool.or_eq_true, beq_iff_eq] at h
  rcases h with ((rfl | rfl) | rfl) | rfl <;> decide
theorem isD_low {c : UInt8} (h : isD c = true) : c.toNat < 128 := by
  simp only [isD, decide_eq_true_eq] at h
  omega
theorem sp_valid : ∀ s : Bs, Lib.validD (sp s) = Lib.validD s
  | [] => rfl
  | c :: s => by
    cases h : isW c with
    | true => rw [sp_yes s h, valid_low (isW_low h)]; exact sp_valid s
    | false => rw [sp_no s h]
/-! ### Strings -/
theorem escB_len (c : UInt8) : (escB c).length ≤ 6 := by
  unfold escB
  repeat' split
  all_goals simp
theorem escS_len (s : Bs) : (escS s).length ≤ 6 * s.length := by
  induction s with
  | nil => exact Nat.le_refl _
  | cons c s ih =>
    have := escB_len c
    rw [escS_cons, List.length_append, List.length_cons]
    omega
theorem hexV_low {c : UInt8} {n : Nat} (h : hexV' c = some n) : c.toNat < 128 ∧ n < 16 := by
  unfold hexV' at h
  repeat' split at h
  all_goals first
    | (cases h; omega)
    | cases h
theorem hex4_inv {s r : Bs} {n : Nat} (h : hex4 s = some (n, r)) : s.length = r.length + 4 ∧ Lib.validD s = Lib.validD r ∧ n < 65536 := by
  unfold hex4 at h
  split at h
  · split at h
    · rename_i e1 e2 e3 e4
      cases h
      have h1 := hexV_low e1
      have h2 := hexV_low e2
      have h3 := hexV_low e3
      have h4 := hexV_low e4
      refine ⟨by simp, ?_, by omega⟩
      rw [valid_low h1.1, valid_low h2.1, valid_low h3.1, valid_low h4.1]
    · cases h
  · cases h
theorem hex_inv {s r : Bs} {n : Nat} (h : hexP s = some (n, r)) : s.length = r.length + 5 ∧ Lib.validD s = Lib.validD r ∧ n < 65536 := by
  cases s with
  | nil => cases h
  | cons c s =>
    simp only [hexP] at h
    split at h
    · rename_i hc
      subst hc
      obtain ⟨h1, h2, h3⟩ := hex4_inv h
      refine ⟨by rw [List.length_cons, h1], by rw [valid_low (by decide), h2], h3⟩
    · cases h
theorem valid_one (n : Nat) (h : scalar n) : Lib.validD (encR n) = true := by
  have := valid_encode n h []
  rw [List.append_nil] at this
  rw [this]; rfl
theorem plain_inv {c b : UInt8} (h : plainE c = some b) : c.toNat < 128 ∧ b.toNat < 128 := by
  unfold plainE at h
  repeat' split at h
  all_goals first
    | (cases h; rename_i e; subst e; exact ⟨by decide, by decide⟩)
    | cases h
theorem low_inv {n : Nat} {s b r : Bs} (hn : 55296 ≤ n ∧ n ≤ 56319) (h : lowP n s = some (b, r)) : b.length ≤ 4 ∧ r.length < s.length ∧ Lib.validD b = true ∧ Lib.validD s = Lib.validD r := by
  cases s with
  | nil => cases h
  | cons c s =>
    simp only [lowP] at h
    split at h
    · rename_i hc
      subst hc
      split at h
      · cases h
      · rename_i m r' hh
        obtain ⟨h1, h2, h3⟩ := hex_inv hh
        split at h
        · rename_i hm
          simp only [Option.some.injEq, Prod.mk.injEq] at h
          obtain ⟨hb, rfl⟩ := h
          rw [← hb]
          clear hb hh
          have hz : scalar (65536 + (n - 55296) * 1024 + (m - 56320)) := by unfold scalar; omega
          generalize 65536 + (n - 55296) * 1024 + (m - 56320) = z at *
          refine ⟨(encR_len _).2, by rw [List.length_cons, h1]; omega, valid_one _ hz, by rw [valid_low (by decide), h2]⟩
        · cases h
    · cases h
theorem esc_inv {s b r : Bs} (h : escP s = some (b, r)) : b.length + r.length ≤ s.length ∧ r.length < s.length ∧ Lib.validD b = true ∧ Lib.validD s = Lib.validD r := by
  cases s with
  | nil => cases h
  | cons c s =>
    unfold escP at h
    simp only [] at h
    split at h
    · rename_i d hd
      cases h
      obtain ⟨h1, h2⟩ := plain_inv hd
      refine ⟨by simp; omega, by simp, by rw [valid_low h2]; rfl, valid_low h1 _⟩
    · split at h
      · cases h
      · rename_i n r' hh
        obtain ⟨h1, h2, h3⟩ := hex_inv hh
        split at h
        · rename_i hn
          obtain ⟨g1, g2, g3, g4⟩ := low_inv hn h
          exact ⟨by omega, by omega, g3, by rw [h2, g4]⟩
        · split at h
          · cases h
          · cases h
            have := encR_len n
            refine ⟨by omega, by omega, valid_one _ ?_, h2⟩
            unfold scalar
            omega
theorem addS_inv {b t r : Bs} {o : Option (Bs × Bs)} (h : addS b o = some (t, r)) : ∃ t', o = some (t', r) ∧ t = b ++ t' := by
  cases o with
  | none => cases h
  | some p =>
    obtain ⟨t', r'⟩ := p
    simp only [addS, Option.some.injEq, Prod.mk.injEq] at h
    obtain ⟨rfl, rfl⟩ := h
    exact ⟨t', rfl, rfl⟩
theorem str_len : ∀ (k : Nat) (s t r : Bs), strL k s = some (t, r) → t.length + r.length + 1 ≤ s.length
  | 0, s, t, r, h => by cases h
  | k + 1, [], t, r, h => by cases h
  | k + 1, c :: s, t, r, h => by
    simp only [strL] at h
    split at h
    · cases h; simp
    · split at h
      · split at h
        · cases h
        · rename_i b r' hh
          obtain ⟨t', e, rfl⟩ := addS_inv h
          have := str_len k _ _ _ e
          obtain ⟨g1, g2, -⟩ := esc_inv hh
          simp only [List.length_append, List.length_cons]
          omega
      · split at h
        · cases h
        · obtain ⟨t', e, rfl⟩ := addS_inv h
          have := str_len k _ _ _ e
          simp only [List.length_append, List.length_cons, List.length_nil]
          omega
theorem str_high : ∀ (x u : Bs) (k : Nat) (t r : Bs), (∀ c ∈ x, 128 ≤ c.toNat) → strL k (x ++ u) = some (t, r) → ∃ k' t', k' ≤ k ∧ strL k' u = some (t', r) ∧ t = x ++ t'
  | [], u, k, t, r, _, h => ⟨k, t, Nat.le_refl _, h, rfl⟩
  | c :: x, u, 0, t, r, _, h => by cases h
  | c :: x, u, k + 1, t, r, hx, h => by
    have hc : 128 ≤ c.toNat := hx c (by simp)
    have h1 : c ≠ 34 := by rintro rfl; exact absurd hc (by decide)
    have h2 : c ≠ 92 := by rintro rfl; exact absurd hc (by decide)
    simp only [List.cons_append, strL, h1, h2, if_false, if_neg (show ¬ c.toNat < 32 by omega)] at h
    obtain ⟨t', e, rfl⟩ := addS_inv h
    obtain ⟨k', t'', hk, e', rfl⟩ := str_high x u k t' r (fun d hd => hx d (by simp [hd])) e
    exact ⟨k', t'', by omega, e', rfl⟩
theorem enc_high {z : Nat} (hz : scalar z) (h : 128 ≤ z) : ∀ c ∈ encR z, 128 ≤ c.toNat := by
  rcases encR_shape z hz with ⟨hr, -⟩ | ⟨-, hr', a, b, e, ha, hb⟩ | ⟨-, hr', a, b, c, e, ha, hb, hc⟩ | ⟨-, hr', a, b, c, d, e, ha, hb, hc, hd⟩
  · omega
  all_goals
    rw [e]
    intro x hx
    simp only [List.mem_cons, List.not_mem_nil, or_false] at hx
  · rcases hx with rfl | rfl <;> omega
  · rcases hx with rfl | rfl | rfl <;> omega
  · rcases hx with rfl | rfl | rfl | rfl <;> omega
theorem str_valid : ∀ (n k : Nat) (s t r : Bs), k ≤ n → strL k s = some (t, r) → Lib.validD s = true → Lib.validD t = true ∧ Lib.validD r = true := by
  intro n
  induction n with
  | zero =>
    intro k s t r hk h
    obtain rfl : k = 0 := by omega
    cases h
  | succ n ih =>
    intro k s t r hk h hv
    cases k with
    | zero => cases h
    | succ k =>
      cases s with
      | nil => cases h
      | cons c s =>
        by_cases hc : c.toNat < 128
        · rw [valid_low hc] at hv
          simp only [strL] at h
          split at h
          · cases h; exact ⟨rfl, hv⟩
          · split at h
            · split at h
              · cases h
              · rename_i b r' hh
                obtain ⟨t', e, rfl⟩ := addS_inv h
                obtain ⟨g1, g2, g3, g4⟩ := esc_inv hh
                obtain ⟨i1, i2⟩ := ih k _ _ _ (by omega) e (by rw [← g4, hv])
                exact ⟨by rw [valid_append _ _ g3, i1], i2⟩
            · split at h
              · cases h
              · obtain ⟨t', e, rfl⟩ := addS_inv h
                obtain ⟨i1, i2⟩ := ih k _ _ _ (by omega) e hv
                exact ⟨by rw [List.cons_append, List.nil_append, valid_low hc, i1], i2⟩
        · obtain ⟨rs, hrs, e⟩ := (valid_iff _).1 hv
          cases rs with
          | nil => cases e
          | cons z us =>
            obtain ⟨hz, hus⟩ := scalars_cons.1 hrs
            rw [enc_cons] at e
            have hz2 : 128 ≤ z := by
              rcases encR_shape z hz with ⟨hr, a, e1, ha⟩ | ⟨h1, -⟩ | ⟨h1, -⟩ | ⟨h1, -⟩
              · rw [e1] at e
                simp only [List.cons_append, List.cons.injEq] at e
                rw [e.1] at hc
                omega
              all_goals omega
            rw [e] at h
            have hh := enc_high hz hz2
            obtain ⟨x0, x, ex⟩ : ∃ x0 x, encR z = x0 :: x := by
              have := (encR_len z).1
              cases hq : encR z with
              | nil => rw [hq] at this; simp at this
              | cons a b => exact ⟨a, b, rfl⟩
            rw [ex, List.cons_append] at h
            have hx0 : 128 ≤ x0.toNat := hh x0 (by rw [ex]; simp)
            have h1 : x0 ≠ 34 := by rintro rfl; exact absurd hx0 (by decide)
            have h2 : x0 ≠ 92 := by rintro rfl; exact absurd hx0 (by decide)
            simp only [strL, h1, h2, if_false, if_neg (show ¬ x0.toNat < 32 by omega)] at h
            obtain ⟨t', e', rfl⟩ := addS_inv h
            obtain ⟨k', t'', hk', e'', rfl⟩ := str_high x _ k t' r (fun d hd => hh d (by rw [ex]; simp [hd])) e'
            obtain ⟨i1, i2⟩ := ih k' _ _ _ (by omega) e'' (valid_enc us hus)
            refine ⟨?_, i2⟩
            have e3 : [x0] ++ (x ++ t'') = encR z ++ t'' := by rw [ex]; rfl
            rw [e3, valid_encode z hz, i1]
theorem text_rdg {s t r : Bs} (h : textP s = some (t, r)) : Rdg (quote t).length (Lib.validD t = true) s r := by
  cases s with
  | nil => cases h
  | cons c s =>
    simp only [textP] at h
    split at h
    · rename_i hc
      subst hc
      have h1 := str_len _ _ _ _ h
      have h2 := escS_len t
      refine ⟨by simp only [List.length_cons]; omega, by simp only [quote, List.length_cons, List.length_append, List.length_nil]; omega, fun hv => ?_⟩
      rw [valid_low (by decide)] at hv
      exact str_valid _ _ _ _ _ (Nat.le_refl _) h hv
    · cases h
/-! ### Values -/
theorem word_inv : ∀ (w : Bs) (j j' : J) (s r : Bs), wordP w j s = some (j', r) → s = w ++ r ∧ j' = j
  | [], j, j', s, r, h => by cases h; exact ⟨rfl, rfl⟩
  | c :: w, j, j', s, r, h => by
    simp only [wordP] at h
    split at h
    · cases h
    · rename_i r' hh
      obtain ⟨rfl, rfl⟩ := word_inv w j j' r' r h
      exact ⟨next_inv hh, rfl⟩
theorem word_rdg {w : Bs} (hw : ∀ c ∈ w, c.toNat < 128) (h0 : w ≠ []) {j j' : J} (ef : formJ j = w) (ok : okJ j) {s r : Bs} (h : wordP w j s = some (j', r)) : Rdg (formJ j').length (okJ j') s r := by
  obtain ⟨rfl, rfl⟩ := word_inv _ _ _ _ _ h
  have : 0 < w.length := List.length_pos_iff.2 h0
  rw [ef]
  refine ⟨by rw [List.length_append]; omega, by rw [List.length_append]; omega, fun hv => ⟨ok, ?_⟩⟩
  rwa [valid_ascii w hw] at hv
theorem num_low {a : Bs} (h : NumS a) : ∀ c ∈ a, c.toNat < 128 := by
  obtain ⟨sg, x, fr, ex, rfl, hsg, ⟨hx, -⟩, hfr, hex⟩ := h
  intro c hc
  simp only [List.mem_append] at hc
  rcases hc with hc | hc | hc | hc
  · rcases hsg with rfl | rfl
    · simp at hc
    · simp only [List.mem_cons, List.not_mem_nil, or_false] at hc; subst hc; decide
  · exact isD_low (hx.2 c hc)
  · rcases hfr with rfl | ⟨y, rfl, hy⟩
    · simp at hc
    · simp only [List.mem_cons] at hc
      rcases hc with rfl | hc
      · decide
      · exact isD_low (hy.2 c hc)
  · rcases hex with rfl | ⟨e, sg', z, rfl, he, hs, hz⟩
    · simp at hc
    · simp only [List.mem_cons, List.mem_append] at hc
      rcases hc with rfl | hc | hc
      · rcases he with rfl | rfl <;> decide
      · rcases hs with rfl | rfl | rfl
        · simp at hc
        · simp only [List.mem_cons, List.not_mem_nil, or_false] at hc; subst hc; decide
        · simp only [List.mem_cons, List.not_mem_nil, or_false] at hc; subst hc; decide
      · exact isD_low (hz.2 c hc)
theorem num_rdg {s r : Bs} {j : J} (h : numP s = some (j, r)) : Rdg (formJ j).length (okJ j) s r := by
  unfold numP at h
  split at h
  · cases h
  · rename_i h0
    cases h
    obtain ⟨h1, h2⟩ := num_inv h0
    refine ⟨by rw [List.length_drop]; omega, by simp only [formJ, List.length_take, List.length_drop]; omega, fun hv => ⟨h2, ?_⟩⟩
    rw [← List.take_append_drop (numN s) s, valid_ascii _ (num_low h2)] at hv
    exact hv
theorem Rdg.sp {len : Nat} {ok : Prop} {s r : Bs} (h : Rdg len ok (sp s) r) : Rdg len ok s r := by
  obtain ⟨h1, h2, h3⟩ := h
  have := sp_len s
  exact ⟨by omega, by omega, fun hv => h3 (by rw [sp_valid, hv])⟩
theorem Rdg.spR {len : Nat} {ok : Prop} {s r : Bs} (h : Rdg len ok s r) : Rdg len ok s (Go.Proofs.YtljnbbdhmlfhjaaGreatDoor.sp r) := by
  obtain ⟨h1, h2, h3⟩ := h
  have := sp_len r
  exact ⟨by omega, by omega, fun hv => ⟨(h3 hv).1, by rw [sp_valid]; exact (h3 hv).2⟩⟩
theorem Rdg.next {len : Nat} {ok : Prop} {c : UInt8} (hc : c.toNat < 128) {s r : Bs} (h : Rdg len ok s r) : Rdg (len + 1) ok (c :: s) r := by
  obtain ⟨h1, h2, h3⟩ := h
  exact ⟨by simp only [List.length_cons]; omega, by simp only [List.length_cons]; omega, fun hv => h3 (by rwa [valid_low hc] at hv)⟩
theorem more_inv {α : Type} {e : UInt8} {x : α} {rest : Bs → Option (List α × Bs)} {s r : Bs} {l : List α} (h : moreP e x rest s = some (l, r)) :
    (l = [x] ∧ s = e :: r) ∨ ∃ l' s', s = 44 :: s' ∧ nextB e s = none ∧ rest s' = some (l', r) ∧ l = x :: l' := by
  unfold moreP at h
  split at h
  · rename_i r' hh
    cases h
    exact .inl ⟨rfl, next_inv hh⟩
  · rename_i hh
    split at h
    · cases h
    · rename_i r' h2
      right
      cases hr : rest r' with
      | none => rw [hr] at h; cases h
      | some p =>
        rw [hr] at h
        obtain ⟨l', r''⟩ := p
        cases h
        exact ⟨l', r', next_inv h2, hh, hr, rfl⟩
def ValOk (val : Bs → Option (J × Bs)) : Prop := ∀ s j r, val s = some (j, r) → Rdg (formJ j).length (okJ j) s r
theorem items_rdg {val : Bs → Option (J × Bs)} (hv : ValOk val) : ∀ (n : Nat) (s r : Bs) (l : List J), itemsL val n s = some (l, r) → l ≠ [] ∧ Rdg (formL l).length (okL l) s r
  | 0, s, r, l, h => by cases h
  | n + 1, s, r, l, h => by
    simp only [itemsL] at h
    split at h
    · cases h
    · rename_i j r1 hh
      obtain ⟨a1, a2, a3⟩ := hv _ _ _ hh
      rcases more_inv h with ⟨rfl, rfl⟩ | ⟨l', s', rfl, -, hr, rfl⟩
      · refine ⟨by simp, ?_⟩
        simp only [List.length_cons] at a1 a2
        refine ⟨by omega, by simp only [formL, formT, List.length_append, List.length_nil]; omega, fun w => ?_⟩
        obtain ⟨b1, b2⟩ := a3 w
        exact ⟨⟨b1, trivial⟩, by rwa [valid_low (by decide)] at b2⟩
      · obtain ⟨hne, c1, c2, c3⟩ := items_rdg hv n s' r l' hr
        refine ⟨by simp, ?_⟩
        obtain ⟨y, l', rfl⟩ := List.exists_cons_of_ne_nil hne
        simp only [List.length_cons] at a1 a2
        refine ⟨by omega, ?_, fun w => ?_⟩
        · simp only [formL, formT, List.length_append, List.length_cons] at c2 ⊢
          omega
        · obtain ⟨b1, b2⟩ := a3 w
          rw [valid_low (by decide)] at b2
          obtain ⟨d1, d2⟩ := c3 b2
          exact ⟨⟨b1, d1⟩, d2⟩
theorem mem_rdg {val : Bs → Option (J × Bs)} (hv : ValOk val) {s r : Bs} {m : Bs × J} (h : memP' val s = some (m, r)) : Rdg (formE m).length (okE m) s r := by
  unfold memP' at h
  split at h
  · cases h
  · rename_i n r1 hh
    split at h
    · cases h
    · rename_i r2 h2
      split at h
      · cases h
      · rename_i j r3 h3
        cases h
        obtain ⟨a1, a2, a3⟩ := (text_rdg hh).sp.spR
        obtain ⟨c1, c2, c3⟩ := hv _ _ _ h3
        rw [next_inv h2] at a1 a2 a3
        simp only [List.length_cons] at a1 a2
        refine ⟨by omega, by simp only [formE, List.length_append, List.length_cons]; omega, fun w => ?_⟩
        obtain ⟨b1, b2⟩ := a3 w
        rw [valid_low (by decide)] at b2
        obtain ⟨d1, d2⟩ := c3 b2
        exact ⟨⟨b1, d1⟩, d2⟩
theorem mems_rdg {val : Bs → Option (J × Bs)} (hv : ValOk val) : ∀ (n : Nat) (s r : Bs) (l : List (Bs × J)), memsL val n s = some (l, r) → l ≠ [] ∧ Rdg (formM l).length (okM l) s r
  | 0, s, r, l, h => by cases h
  | n + 1, s, r, l, h => by
    simp only [memsL] at h
    split at h
    · cases h
    · rename_i j r1 hh
      obtain ⟨a1, a2, a3⟩ := mem_rdg hv hh
      rcases more_inv h with ⟨rfl, rfl⟩ | ⟨l', s', rfl, -, hr, rfl⟩
      · refine ⟨by simp, ?_⟩
        simp only [List.length_cons] at a1 a2
        refine ⟨by omega, by simp only [formM, formU, List.length_append, List.length_nil]; omega, fun w => ?_⟩
        obtain ⟨b1, b2⟩ := a3 w
        exact ⟨⟨b1, trivial⟩, by rwa [valid_low (by decide)] at b2⟩
      · obtain ⟨hne, c1, c2, c3⟩ := mems_rdg hv n s' r l' hr
        refine ⟨by simp, ?_⟩
        obtain ⟨y, l', rfl⟩ := List.exists_cons_of_ne_nil hne
        simp only [List.length_cons] at a1 a2
        refine ⟨by omega, ?_, fun w => ?_⟩
        · simp only [formM, formU, List.length_append, List.length_cons] at c2 ⊢
          omega
        · obtain ⟨b1, b2⟩ := a3 w
          rw [valid_low (by decide)] at b2
          obtain ⟨d1, d2⟩ := c3 b2
          exact ⟨⟨b1, d1⟩, d2⟩
theorem arr_rdg {val : Bs → Option (J × Bs)} (hv : ValOk val) {s r : Bs} {j : J} (h : arrP val s = some (j, r)) : Rdg (formJ j).length (okJ j) (91 :: s) r := by
  have hsl := sp_len s
  have hsv := sp_valid s
  unfold arrP at h
  split at h
  · rename_i r1 hh
    cases h
    have e := next_inv hh
    rw [e] at hsl hsv
    rw [valid_low (by decide)] at hsv
    simp only [List.length_cons] at hsl
    refine ⟨by simp only [List.length_cons]; omega, by simp only [formJ, formL, List.length_cons, List.nil_append, List.length_nil]; omega, fun w => ⟨trivial, ?_⟩⟩
    rwa [valid_low (by decide), ← hsv] at w
  · split at h
    · cases h
    · rename_i l r1 hh
      cases h
      obtain ⟨-, c1, c2, c3⟩ := items_rdg hv _ _ _ _ hh
      refine ⟨by simp only [List.length_cons]; omega, by simp only [formJ, List.length_cons, List.length_append, List.length_nil]; omega, fun w => ?_⟩
      rw [valid_low (by decide), ← hsv] at w
      exact c3 w
theorem obj_rdg {val : Bs → Option (J × Bs)} (hv : ValOk val) {s r : Bs} {j : J} (h : objP val s = some (j, r)) : Rdg (formJ j).length (okJ j) (123 :: s) r := by
  have hsl := sp_len s
  have hsv := sp_valid s
  unfold objP at h
  split at h
  · rename_i r1 hh
    cases h
    have e := next_inv hh
    rw [e] at hsl hsv
    rw [valid_low (by decide)] at hsv
    simp only [List.length_cons] at hsl
    refine ⟨by simp only [List.length_cons]; omega, by simp only [formJ, formM, List.length_cons, List.nil_append, List.length_nil]; omega, fun w => ⟨trivial, ?_⟩⟩
    rwa [valid_low (by decide), ← hsv] at w
  · split at h
    · cases h
    · rename_i l r1 hh
      cases h
      obtain ⟨-, c1, c2, c3⟩ := mems_rdg hv _ _ _ _ hh
      refine ⟨by simp only [List.length_cons]; omega, by simp only [formJ, List.length_cons, List.length_append, List.length_nil]; omega, fun w => ?_⟩
      rw [valid_low (by decide), ← hsv] at w
      exact c3 w
theorem head_cons {s : Bs} {c : UInt8} (h : s.head? = some c) : s = c :: s.drop 1 := by
  cases s with
  | nil => cases h
  | cons d s => cases h; rfl
theorem bar_rdg {val : Bs → Option (J × Bs)} (hv : ValOk val) : ValOk (barP val) := by
  intro s j r h
  unfold barP at h
  split at h
  · exact word_rdg (w := nullB) (j := .nul) (by decide) (by decide) rfl trivial h
  split at h
  · exact word_rdg (w := trueB) (j := .bool true) (by decide) (by decide) rfl trivial h
  split at h
  · exact word_rdg (w := falseB) (j := .bool false) (by decide) (by decide) rfl trivial h
  split at h
  · unfold strPJ at h
    split at h
    · cases h
    · rename_i t r1 hh
      cases h
      exact text_rdg hh
  split at h
  · rename_i hs
    rw [head_cons hs]
    exact arr_rdg hv h
  split at h
  · rename_i hs
    rw [head_cons hs]
    exact obj_rdg hv h
  · exact num_rdg h
theorem val_rdg : ∀ k, ValOk (valP k)
  | 0 => fun _ _ _ h => by cases h
  | k + 1 => fun s j r h => by
    rw [valP] at h
    cases hb : barP (valP k) (sp s) with
    | none => rw [hb] at h; cases h
    | some p =>
      obtain ⟨j', r'⟩ := p
      rw [hb] at h
      cases h
      exact (bar_rdg (val_rdg k) _ _ _ hb).sp.spR
/-! ### The one form is valid -/
end Go.Proofs.YtljnbbdhmlfhjaaGreatDoor
/-
  JSON, plainly: the one form of a text is its own; values within one another; unclosed ones.
-/
namespace Go.Proofs.YtljnbbdhmlfhjaaGreatDoor
open Go.RowKit
theorem parse_zero {s : Bs} (h : parseE s = 0) : s.length ≤ 16384 ∧ Lib.validD s = true ∧ ∃ j, docJ s = some j ∧ deepJ j ≤ 16 ∧ parseJ s = j ∧ oneF s = formJ j := by
  have h0 := h
  unfold parseE at h
  split at h
  · cases h
  · rename_i h1
    split at h
    · cases h
    · rename_i h2
      have h2' : Lib.validD s = true := by simpa using h2
      split at h
      · cases h
      · rename_i j hj
        split at h
        · cases h
        · rename_i h3
          have hp : parseJ s = j := by
            unfold parseJ
            rw [if_neg (by simp [h1, h2']), hj]
            simp only []
            rw [if_neg h3]
          exact ⟨by omega, h2', j, hj, by omega, hp, by unfold oneF; rw [if_pos h0, hp]⟩
theorem doc_ok {s : Bs} {j : J} (hv : Lib.validD s = true) (h : docJ s = some j) : okJ j ∧ (formJ j).length ≤ 6 * s.length := by
  unfold docJ at h
  split at h
  · rename_i j' hh
    cases h
    obtain ⟨-, h2, h3⟩ := val_rdg _ _ _ _ hh
    exact ⟨(h3 hv).1, by simpa using h2⟩
  · cases h
/-! ### Within one another -/
/-- Nothing behind it, or no value. -/
def Cut (s : Bs) : Prop := ∀ k, s.length < k → valP k s = none ∨ ∃ j, valP k s = some (j, [])
end Go.Proofs.YtljnbbdhmlfhjaaGreatDoor
/-
  Numerals, plainly: they are JSON's numbers, and are read as what they are.
-/
namespace Go.Proofs.YtljnbbdhmlfhjaaGreatDoor
open Go.RowKit
theorem dec_digit (d : Nat) (h : d < 10) : (UInt8.ofNat (48 + d)).toNat = 48 + d := by rw [UInt8.toNat_ofNat']; omega
theorem dec_all : ∀ u : Nat, ∀ c ∈ Lib.decDigits u, isD c = true := by
  intro u
  induction u using Nat.strongRecOn with
  | _ u ih =>
    by_cases h : u < 10
    · rw [Lib.decDigits, dif_pos h]
      intro c hc
      simp only [List.mem_cons, List.not_mem_nil, or_false] at hc
      subst hc
      simp only [isD, decide_eq_true_eq, dec_digit u h]
      omega
    · rw [Lib.decDigits, dif_neg h]
      intro c hc
      simp only [List.mem_append, List.mem_cons, List.not_mem_nil, or_false] at hc
      rcases hc with hc | rfl
      · exact ih (u / 10) (by omega) c hc
      · simp only [isD, decide_eq_true_eq, dec_digit (u % 10) (by omega)]
        omega
theorem dec_head : ∀ u : Nat, ∃ c r, Lib.decDigits u = c :: r ∧ (c = 48 → u = 0 ∧ r = []) := by
  intro u
  induction u using Nat.strongRecOn with
  | _ u ih =>
    by_cases h : u < 10
    · rw [Lib.decDigits, dif_pos h]
      refine ⟨_, [], rfl, fun e => ⟨?_, rfl⟩⟩
      have := congrArg UInt8.toNat e
      rw [dec_digit u h] at this
      have h48 : (48 : UInt8).toNat = 48 := rfl
      omega
    · rw [Lib.decDigits, dif_neg h]
      obtain ⟨c, r, e, hc⟩ := ih (u / 10) (by omega)
      rw [e]
      exact ⟨c, _, rfl, fun h0 => by have := (hc h0).1; omega⟩
theorem dec_Digs (u : Nat) : Digs (Lib.decDigits u) ∧ ((Lib.decDigits u).head? = some 48 → (Lib.decDigits u).length = 1) := by
  obtain ⟨c, r, e, hc⟩ := dec_head u
  refine ⟨⟨by rw [e]; simp, dec_all u⟩, fun h => ?_⟩
  rw [e] at h ⊢
  obtain rfl : c = 48 := by simpa using h
  rw [(hc rfl).2]; rfl
/-- A numeral as a number's text. -/
theorem itoa_parts (n : Int) : ∃ sg : Bs, Lib.itoa n = sg ++ Lib.decDigits n.natAbs ∧ (sg = [] ∧ 0 ≤ n ∨ sg = [45] ∧ n < 0) := by
  unfold Lib.itoa
  split
  · exact ⟨[45], rfl, .inr ⟨rfl, by omega⟩⟩
  · exact ⟨[], by rw [show n.toNat = n.natAbs by omega]; rfl, .inl ⟨rfl, by omega⟩⟩
theorem itoa_num (n : Int) : NumS (Lib.itoa n) := by
  obtain ⟨sg, e, hs⟩ := itoa_parts n
  exact ⟨sg, Lib.decDigits n.natAbs, [], [], by rw [e]; simp, by rcases hs with ⟨h, -⟩ | ⟨h, -⟩ <;> simp [h], dec_Digs _, .inl rfl, .inl rfl⟩
/-- The law's loop over a number's digits. -/
def restD (u : Int) (ds : Bs) : Bs := if u = 0 ∧ ds ≠ [] then [] else Lib.decDigits u.natAbs
theorem rest_step (u : Int) (ds : Bs) (h : u ≠ 0 ∨ ds = []) : restD u ds = restD (u.tdiv 10) (UInt8.ofNat (48 + (u.tmod 10).natAbs) :: ds) ++ [UInt8.ofNat (48 + (u.tmod 10).natAbs)] := by
  have e1 : restD u ds = Lib.decDigits u.natAbs := by
    unfold restD
    rw [if_neg (by rintro ⟨h1, h2⟩; rcases h with h | h; exact h h1; exact h2 h)]
  have e2 : (u.tmod 10).natAbs = u.natAbs % 10 := by rw [Int.natAbs_tmod]; rfl
  have e3 : (u.tdiv 10).natAbs = u.natAbs / 10 := by rw [Int.natAbs_tdiv]; rfl
  rw [e1, e2]
  unfold restD
  by_cases hq : u.natAbs < 10
  · have : u.tdiv 10 = 0 := by
      have : (u.tdiv 10).natAbs = 0 := by rw [e3]; omega
      omega
    rw [if_pos ⟨this, by simp⟩, Lib.decDigits, dif_pos hq, Nat.mod_eq_of_lt hq]
    rfl
  · have : u.tdiv 10 ≠ 0 := by
      intro e
      rw [e] at e3
      simp at e3
      omega
    rw [if_neg (fun e => this e.1), e3, Lib.decDigits, dif_neg hq]
end Go.Proofs.YtljnbbdhmlfhjaaGreatDoor
