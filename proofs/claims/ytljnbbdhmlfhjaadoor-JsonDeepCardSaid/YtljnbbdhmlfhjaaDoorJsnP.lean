/-
  JSON, plainly: values, their one form, and the reading of a text.
-/
import Derived.Test.YtljnbbdhmlfhjaaDoorUtfP
namespace Go.Proofs.YtljnbbdhmlfhjaaDoor
open Go.RowKit
/-- Bytes. -/
abbrev Bs := List UInt8
/-- A value. -/
inductive J where
  | nul
  | bool (b : Bool)
  | num (s : Bs)
  | str (s : Bs)
  | arr (l : List J)
  | obj (l : List (Bs × J))
mutual
/-- How many arrays and objects lie within one another. -/
def deepJ : J → Nat
  | .nul => 0
  | .bool _ => 0
  | .num _ => 0
  | .str _ => 0
  | .arr l => deepL l + 1
  | .obj l => deepM l + 1
def deepL : List J → Nat
  | [] => 0
  | x :: l => max (deepJ x) (deepL l)
def deepM : List (Bs × J) → Nat
  | [] => 0
  | x :: l => max (deepE x) (deepM l)
def deepE : Bs × J → Nat
  | (_, x) => deepJ x
end
def hexD (n : Nat) : UInt8 := if n < 10 then UInt8.ofNat (48 + n) else UInt8.ofNat (87 + n)
/-- A byte of a text, in its one form. -/
def escB (c : UInt8) : Bs :=
  if c = 34 ∨ c = 92 then [92, c]
  else if c = 8 then [92, 98]
  else if c = 12 then [92, 102]
  else if c = 10 then [92, 110]
  else if c = 13 then [92, 114]
  else if c = 9 then [92, 116]
  else if c.toNat < 32 then [92, 117, 48, 48, hexD (c.toNat / 16), hexD (c.toNat % 16)]
  else [c]
def escS (s : Bs) : Bs := s.flatMap escB
def quote (s : Bs) : Bs := 34 :: (escS s ++ [34])
def nullB : Bs := [110, 117, 108, 108]
def trueB : Bs := [116, 114, 117, 101]
def falseB : Bs := [102, 97, 108, 115, 101]
mutual
/-- The one form. -/
def formJ : J → Bs
  | .nul => nullB
  | .bool true => trueB
  | .bool false => falseB
  | .num s => s
  | .str s => quote s
  | .arr l => 91 :: (formL l ++ [93])
  | .obj l => 123 :: (formM l ++ [125])
def formL : List J → Bs
  | [] => []
  | x :: l => formJ x ++ formT l
/-- .. behind the first one. -/
def formT : List J → Bs
  | [] => []
  | x :: l => 44 :: (formJ x ++ formT l)
def formM : List (Bs × J) → Bs
  | [] => []
  | x :: l => formE x ++ formU l
def formU : List (Bs × J) → Bs
  | [] => []
  | x :: l => 44 :: (formE x ++ formU l)
def formE : Bs × J → Bs
  | (n, x) => quote n ++ 58 :: formJ x
end
/-! ### The reading -/
def isW (c : UInt8) : Bool := c == 32 || c == 9 || c == 10 || c == 13
def sp : Bs → Bs
  | [] => []
  | c :: s => if isW c then sp s else c :: s
def isD (c : UInt8) : Bool := decide (48 ≤ c.toNat ∧ c.toNat ≤ 57)
/-- How many digits stand in front. -/
def digs : Bs → Nat
  | [] => 0
  | c :: s => if isD c then digs s + 1 else 0
def fracN (k : Nat) (s : Bs) : Option Nat := if s.head? = some 46 then (if digs (s.drop 1) = 0 then none else some (k + 1 + digs (s.drop 1))) else some k
def signN (s : Bs) : Nat := if s.head? = some 43 ∨ s.head? = some 45 then 1 else 0
def expN (k : Nat) (s : Bs) : Option Nat :=
  if s.head? = some 101 ∨ s.head? = some 69 then
    (if digs (s.drop (1 + signN (s.drop 1))) = 0 then none else some (k + (1 + signN (s.drop 1)) + digs (s.drop (1 + signN (s.drop 1)))))
  else some k
def minusN (s : Bs) : Nat := if s.head? = some 45 then 1 else 0
/-- How many bytes the number in front has; 0: none. -/
def numN (s : Bs) : Nat :=
  if digs (s.drop (minusN s)) = 0 ∨ ((s.drop (minusN s)).head? = some 48 ∧ 1 < digs (s.drop (minusN s))) then 0
  else match fracN (minusN s + digs (s.drop (minusN s))) (s.drop (minusN s + digs (s.drop (minusN s)))) with
    | none => 0
    | some k => match expN k (s.drop k) with
      | none => 0
      | some k' => k'
/-- What an escape of one sign means. -/
def plainE (c : UInt8) : Option UInt8 :=
  if c = 34 then some 34 else if c = 92 then some 92 else if c = 47 then some 47 else if c = 98 then some 8 else if c = 102 then some 12
  else if c = 110 then some 10 else if c = 114 then some 13 else if c = 116 then some 9 else none
def hexV' (c : UInt8) : Option Nat :=
  if 48 ≤ c.toNat ∧ c.toNat ≤ 57 then some (c.toNat - 48) else if 97 ≤ c.toNat ∧ c.toNat ≤ 102 then some (c.toNat - 87)
  else if 65 ≤ c.toNat ∧ c.toNat ≤ 70 then some (c.toNat - 55) else none
/-- Four digits. -/
def hex4 : Bs → Option (Nat × Bs)
  | a :: b :: c :: d :: s => match hexV' a, hexV' b, hexV' c, hexV' d with
    | some a, some b, some c, some d => some (((a * 16 + b) * 16 + c) * 16 + d, s)
    | _, _, _, _ => none
  | _ => none
/-- u and four digits. -/
def hexP : Bs → Option (Nat × Bs)
  | [] => none
  | c :: s => if c = 117 then hex4 s else none
/-- Behind a high surrogate. -/
def lowP (n : Nat) : Bs → Option (Bs × Bs)
  | [] => none
  | c :: s => if c = 92 then (match hexP s with
    | none => none
    | some (m, r) => if 56320 ≤ m ∧ m ≤ 57343 then some (encR (65536 + (n - 55296) * 1024 + (m - 56320)), r) else none) else none
/-- Behind a \. -/
def escP (s : Bs) : Option (Bs × Bs) :=
  match s with
  | [] => none
  | c :: r => match plainE c with
    | some b => some ([b], r)
    | none => match hexP s with
      | none => none
      | some (n, r') => if 55296 ≤ n ∧ n ≤ 56319 then lowP n r' else if 56320 ≤ n ∧ n ≤ 57343 then none else some (encR n, r')
def addS (b : Bs) : Option (Bs × Bs) → Option (Bs × Bs)
  | none => none
  | some (t, r) => some (b ++ t, r)
/-- A text, behind its quote. -/
def strL : Nat → Bs → Option (Bs × Bs)
  | 0, _ => none
  | _ + 1, [] => none
  | k + 1, c :: s => if c = 34 then some ([], s)
    else if c = 92 then (match escP s with
      | none => none
      | some (b, r) => addS b (strL k r))
    else if c.toNat < 32 then none else addS [c] (strL k s)
def textP : Bs → Option (Bs × Bs)
  | [] => none
  | c :: s => if c = 34 then strL (s.length + 1) s else none
def nextB (c : UInt8) : Bs → Option Bs
  | [] => none
  | d :: s => if d = c then some s else none
def wordP : Bs → J → Bs → Option (J × Bs)
  | [], j, s => some (j, s)
  | c :: w, j, s => match nextB c s with
    | none => none
    | some r => wordP w j r
def addL {α : Type} (x : α) : Option (List α × Bs) → Option (List α × Bs)
  | none => none
  | some (l, r) => some (x :: l, r)
/-- Behind an item: the end, or a comma and more. -/
def moreP {α : Type} (e : UInt8) (x : α) (rest : Bs → Option (List α × Bs)) (s : Bs) : Option (List α × Bs) :=
  match nextB e s with
  | some r => some ([x], r)
  | none => match nextB 44 s with
    | none => none
    | some r => addL x (rest r)
def itemsL (val : Bs → Option (J × Bs)) : Nat → Bs → Option (List J × Bs)
  | 0, _ => none
  | n + 1, s => match val s with
    | none => none
    | some (j, r) => moreP 93 j (itemsL val n) r
/-- A member. -/
def memP' (val : Bs → Option (J × Bs)) (s : Bs) : Option ((Bs × J) × Bs) :=
  match textP (sp s) with
  | none => none
  | some (n, r) => match nextB 58 (sp r) with
    | none => none
    | some r' => match val r' with
      | none => none
      | some (j, r'') => some ((n, j), r'')
def memsL (val : Bs → Option (J × Bs)) : Nat → Bs → Option (List (Bs × J) × Bs)
  | 0, _ => none
  | n + 1, s => match memP' val s with
    | none => none
    | some (m, r) => moreP 125 m (memsL val n) r
def arrP (val : Bs → Option (J × Bs)) (s : Bs) : Option (J × Bs) :=
  match nextB 93 (sp s) with
  | some r => some (.arr [], r)
  | none => match itemsL val (s.length + 1) (sp s) with
    | none => none
    | some (l, r) => some (.arr l, r)
def objP (val : Bs → Option (J × Bs)) (s : Bs) : Option (J × Bs) :=
  match nextB 125 (sp s) with
  | some r => some (.obj [], r)
  | none => match memsL val (s.length + 1) (sp s) with
    | none => none
    | some (l, r) => some (.obj l, r)
def strP (s : Bs) : Option (J × Bs) :=
  match textP s with
  | none => none
  | some (t, r) => some (.str t, r)
def numP (s : Bs) : Option (J × Bs) := if numN s = 0 then none else some (.num (s.take (numN s)), s.drop (numN s))
/-- A value, no space about it. -/
def barP (val : Bs → Option (J × Bs)) (s : Bs) : Option (J × Bs) :=
  if s.head? = some 110 then wordP nullB .nul s
  else if s.head? = some 116 then wordP trueB (.bool true) s
  else if s.head? = some 102 then wordP falseB (.bool false) s
  else if s.head? = some 34 then strP s
  else if s.head? = some 91 then arrP val (s.drop 1)
  else if s.head? = some 123 then objP val (s.drop 1)
  else numP s
def spR : Option (J × Bs) → Option (J × Bs)
  | none => none
  | some (j, r) => some (j, sp r)
def valP : Nat → Bs → Option (J × Bs)
  | 0, _ => none
  | k + 1, s => spR (barP (valP k) (sp s))
/-- A whole text. -/
def docJ (s : Bs) : Option J := match valP (s.length + 1) s with
  | some (j, []) => some j
  | _ => none
def parseE (s : Bs) : Int := if 16384 < s.length then 4 else if Lib.validD s = false then 8 else match docJ s with
  | none => 6
  | some j => if 16 < deepJ j then 9 else 0
def parseJ (s : Bs) : J := if 16384 < s.length ∨ Lib.validD s = false then .nul else match docJ s with
  | none => .nul
  | some j => if 16 < deepJ j then .nul else j
/-- What Parse and Write make of a text. -/
def oneF (s : Bs) : Bs := if parseE s = 0 then formJ (parseJ s) else []
theorem aw_one : parseE [32, 123, 32, 34, 97, 34, 32, 58, 32, 91, 49, 44, 32, 45, 48, 46, 53, 101, 51, 44, 32, 34, 120, 92, 117, 48, 48, 52, 49, 92, 110, 34, 93, 32, 125, 32] = 0 ∧
    oneF [32, 123, 32, 34, 97, 34, 32, 58, 32, 91, 49, 44, 32, 45, 48, 46, 53, 101, 51, 44, 32, 34, 120, 92, 117, 48, 48, 52, 49, 92, 110, 34, 93, 32, 125, 32] =
      [123, 34, 97, 34, 58, 91, 49, 44, 45, 48, 46, 53, 101, 51, 44, 34, 120, 65, 92, 110, 34, 93, 125] ∧ parseE [48, 49] = 6 := by decide +kernel
end Go.Proofs.YtljnbbdhmlfhjaaDoor
