/-
  The plain grammar of patterns: parts of a tree, read by descent.
-/
namespace Go.Proofs.YthmhmckkkceclaaDoor
/-- A node: the numbers of its kids, how often, the pairs of its set. -/
structure Nd where
  kind : Int
  kids : List Nat
  lo : Int
  hi : Int
  set : List Int
/-- A part of a tree: its nodes, the root last, and how deep its parentheses are. -/
structure Frag where
  nodes : List Nd
  deep : Nat
def Nd.mv (k : Nat) (n : Nd) : Nd := { n with kids := n.kids.map (· + k) }
def mv (k : Nat) (l : List Nd) : List Nd := l.map (Nd.mv k)
theorem mv_length (k : Nat) (l : List Nd) : (mv k l).length = l.length := List.length_map _
theorem mv_append (k : Nat) (a b : List Nd) : mv k (a ++ b) = mv k a ++ mv k b := List.map_append
theorem Nd.mv_mv (a b : Nat) (n : Nd) : (n.mv a).mv b = n.mv (a + b) := by
  unfold Nd.mv
  simp [Nat.add_assoc]
theorem mv_mv (a b : Nat) (l : List Nd) : mv b (mv a l) = mv (a + b) l := by
  unfold mv
  rw [List.map_map]
  exact List.map_congr_left fun n _ => Nd.mv_mv a b n
theorem Nd.mv_zero (n : Nd) : n.mv 0 = n := by
  unfold Nd.mv
  simp
theorem mv_zero (l : List Nd) : mv 0 l = l := by
  unfold mv
  rw [show Nd.mv 0 = id from funext Nd.mv_zero, List.map_id]
abbrev Res (α : Type) := Option (α × List Int)
/-! ### Numbers, escapes, classes -/
def digP : List Int → Res Int
  | [] => none
  | c :: r => if 48 ≤ c ∧ c ≤ 56 then some (c - 48, r) else none
/-- The runes that mean something: \ ( ) [ ] { } * + ? | . ^ $ -/
def special : List Int := [92, 40, 41, 91, 93, 123, 125, 42, 43, 63, 124, 46, 94, 36]
def escP : List Int → Res (List Int)
  | [] => none
  | c :: r => if c = 110 then some ([10, 10], r) else if c = 116 then some ([9, 9], r) else if c = 100 then some ([48, 57], r) else if c = 119 then some ([48, 57, 65, 90, 95, 95, 97, 122], r)
    else if c = 115 then some ([9, 10, 13, 13, 32, 32], r) else if c ∈ special ∨ c = 45 then some ([c, c], r) else none
def memP : List Int → Res (List Int)
  | [] => none
  | c :: r => if c = 92 then escP r else if c = 91 ∨ c = 93 ∨ c = 94 ∨ c = 45 then none else some ([c, c], r)
/-- A set of one rune: that rune. -/
def oneOf : List Int → Option Int
  | [a, b] => if a = b then some a else none
  | _ => none
/-- Is it the next rune? What is behind it then. -/
def nextP (c : Int) : List Int → Option (List Int)
  | [] => none
  | x :: r => if x = c then some r else none
/-- Two members with - between them. -/
def spanP (m t : List Int) : Option (List Int) :=
  match oneOf m with
  | none => none
  | some a => match oneOf t with
    | none => none
    | some b => if a ≤ b then some [a, b] else none
/-- A member of a class, or two with - between them. -/
def rngP (s : List Int) : Res (List Int) :=
  match memP s with
  | none => none
  | some (m, r) =>
    match nextP 45 r with
    | none => some (m, r)
    | some r1 =>
      match memP r1 with
      | none => none
      | some (t, r2) =>
        match spanP m t with
        | none => none
        | some u => some (u, r2)
def clsL : Nat → List Int → Res (List Int)
  | 0, _ => none
  | k + 1, s =>
    match rngP s with
    | none => none
    | some (m, r) =>
      match nextP 93 r with
      | some r1 => some (m, r1)
      | none =>
        match clsL k r with
        | none => none
        | some (t, r2) => some (m ++ t, r2)
def hasS : List Int → Int → Bool
  | a :: b :: l, x => (decide (a ≤ x) && decide (x ≤ b)) || hasS l x
  | _, _ => false
/-- The places at which a set may change. -/
def cutsOf : List Int → List Int
  | a :: b :: l => a :: (b + 1) :: cutsOf l
  | _ => []
def insI (x : Int) : List Int → List Int
  | [] => [x]
  | y :: l => if x < y then x :: y :: l else y :: insI x l
def sortI (l : List Int) : List Int := l.foldl (fun s x => insI x s) []
/-- One pair more, laid to the last one where no gap is between. -/
def joinP (out : List Int) (a b : Int) : List Int := if out.getLast? = some (a - 1) then out.dropLast ++ [b - 1] else out ++ [a, b - 1]
def cleanL (set : List Int) (no : Bool) : List Int → List Int → List Int
  | out, a :: b :: l => cleanL set no (if a = b ∨ hasS set a = no then out else joinP out a b) (b :: l)
  | out, _ => out
def cleanP (set : List Int) (no : Bool) : List Int := cleanL set no [] (sortI (0 :: 1114112 :: cutsOf set))
def clsN (no : Bool) (r : List Int) : Res (List Int) :=
  match clsL (r.length + 1) r with
  | none => none
  | some (t, r') => some (cleanP t no, r')
def clsP (s : List Int) : Res (List Int) :=
  match nextP 94 s with
  | some r => clsN true r
  | none => clsN false s
/-! ### Parts -/
def leaf (kind : Int) (set : List Int) : Frag := ⟨[⟨kind, [], 0, 0, set⟩], 0⟩
def setF : Res (List Int) → Res Frag
  | none => none
  | some (t, r) => some (leaf 2 t, r)
def catN : List Frag → List Nd
  | [] => []
  | f :: fs => f.nodes ++ mv f.nodes.length (catN fs)
def rootsN : Nat → List Frag → List Nat
  | _, [] => []
  | b, f :: fs => (b + f.nodes.length - 1) :: rootsN (b + f.nodes.length) fs
def deepF : List Frag → Nat
  | [] => 0
  | f :: fs => max f.deep (deepF fs)
def manyP (kind : Int) : List Frag → Frag
  | [f] => f
  | fs => ⟨catN fs ++ [⟨kind, rootsN 0 fs, 0, 0, []⟩], deepF fs⟩
def repF (f : Frag) (lo hi : Int) : Frag := ⟨f.nodes ++ [⟨5, [f.nodes.length - 1], lo, hi, []⟩], f.deep⟩
def upF (f : Frag) : Frag := ⟨f.nodes, f.deep + 1⟩
section
variable (alt : List Int → Res Frag)
def parP (r : List Int) : Res Frag :=
  match alt r with
  | none => none
  | some (f, r1) =>
    match nextP 41 r1 with
    | none => none
    | some r2 => some (upF f, r2)
def atomP : List Int → Res Frag
  | [] => none
  | c :: r => if c = 40 then parP alt r else if c = 91 then setF (clsP r) else if c = 46 then some (leaf 2 [0, 9, 11, 1114111], r) else if c = 94 then some (leaf 6 [], r) else if c = 36 then some (leaf 7 [], r)
    else if c = 92 then setF (escP r) else if c ∈ special then none else some (leaf 2 [c, c], r)
def brEnd (lo hi : Int) (r : List Int) : Res (Int × Int) :=
  if lo ≤ hi then
    match nextP 125 r with
    | none => none
    | some r1 => some ((lo, hi), r1)
  else none
/-- What stands between braces. -/
def braP (r : List Int) : Res (Int × Int) :=
  match digP r with
  | none => none
  | some (lo, r1) =>
    match nextP 44 r1 with
    | none => brEnd lo lo r1
    | some r2 =>
      match digP r2 with
      | none => none
      | some (hi, r3) => brEnd lo hi r3
/-- How often, if that is said. -/
def repP (s : List Int) : Res (Option (Int × Int)) :=
  match nextP 42 s with
  | some r => some (some (0, -1), r)
  | none =>
    match nextP 43 s with
    | some r => some (some (1, -1), r)
    | none =>
      match nextP 63 s with
      | some r => some (some (0, 1), r)
      | none =>
        match nextP 123 s with
        | none => some (none, s)
        | some r =>
          match braP r with
          | none => none
          | some (x, r1) => some (some x, r1)
def repV (f : Frag) : Option (Int × Int) → Frag
  | none => f
  | some (lo, hi) => repF f lo hi
def itemP (s : List Int) : Res Frag :=
  match atomP alt s with
  | none => none
  | some (f, r) =>
    match repP r with
    | none => none
    | some (x, r1) => some (repV f x, r1)
def rowL : Nat → List Int → Res (List Frag)
  | _, [] => some ([], [])
  | k, c :: r =>
    if c = 124 ∨ c = 41 then some ([], c :: r) else
      match k with
      | 0 => none
      | k + 1 =>
        match itemP alt (c :: r) with
        | none => none
        | some (f, r1) =>
          match rowL k r1 with
          | none => none
          | some (fs, r2) => some (f :: fs, r2)
def rowF : List Frag → Frag
  | [] => leaf 1 []
  | fs => manyP 3 fs
def rowP (s : List Int) : Res Frag :=
  match rowL alt s.length s with
  | none => none
  | some (fs, r) => some (rowF fs, r)
def altL : Nat → List Int → Res (List Frag)
  | k, s =>
    match rowP alt s with
    | none => none
    | some (f, r) =>
      match nextP 124 r with
      | none => some ([f], r)
      | some r1 =>
        match k with
        | 0 => none
        | k + 1 =>
          match altL k r1 with
          | none => none
          | some (fs, r2) => some (f :: fs, r2)
def altB (s : List Int) : Res Frag :=
  match altL alt s.length s with
  | none => none
  | some (fs, r) => some (manyP 4 fs, r)
end
def altN : Nat → List Int → Res Frag
  | 0, _ => none
  | n + 1, s => altB (altN n) s
def patP (s : List Int) : Option Frag :=
  match altN (s.length + 1) s with
  | none => none
  | some (f, r) => if r = [] then some f else none
/-! ### Sizes -/
def timesOf (n : Nd) : Int := if n.kind = 5 then if n.hi < 0 then n.lo + 1 else max n.hi 1 else 1
def sizeK (sz : List Int) (t : Int) : List Nat → Int → Int
  | [], n => n
  | k :: ks, n => sizeK sz t ks (min 2000 (n + t * sz.getD k 0))
def sizesL : List Int → List Nd → List Int
  | sz, [] => sz
  | sz, n :: l => sizesL (sz ++ [sizeK sz (timesOf n) n.kids 1]) l
def sizeP (l : List Nd) : Int := (sizesL [] l).getLastD 0
/-! ### What a pattern's runes come to -/
def treeE (s : List Int) : Int :=
  match patP s with
  | none => 40
  | some f => if 16 < f.deep then 9 else if 1000 < sizeP f.nodes then 3 else 0
def treeL (s : List Int) : List Nd :=
  match patP s with
  | none => []
  | some f => if treeE s = 0 then f.nodes else []
end Go.Proofs.YthmhmckkkceclaaDoor
/-
  What a part of a pattern bears: its runes are a beginning, its nodes are few, kids stand ahead.
-/
namespace Go.Proofs.YthmhmckkkceclaaDoor
/-- Kids stand ahead of their node. -/
def Wf (l : List Nd) : Prop := ∀ (i : Nat) (n : Nd), l[i]? = some n → ∀ k ∈ n.kids, k < i
theorem wf_nil : Wf [] := fun i n h => by simp at h
theorem wf_one (n : Nd) (h : n.kids = []) : Wf [n] := fun i m hm k hk => by
  cases i with
  | zero =>
    have : n = m := by simpa using hm
    subst this
    rw [h] at hk
    simp at hk
  | succ i => simp at hm
theorem wf_mv {a b : List Nd} (ha : Wf a) (hb : Wf b) : Wf (a ++ mv a.length b) := fun i n h k hk => by
  by_cases hi : i < a.length
  · rw [List.getElem?_append_left hi] at h
    exact ha i n h k hk
  · rw [List.getElem?_append_right (by omega)] at h
    unfold mv at h
    rw [List.getElem?_map] at h
    obtain ⟨m, hm, rfl⟩ := Option.map_eq_some_iff.1 h
    have hk' : k ∈ m.kids.map (· + a.length) := hk
    obtain ⟨j, hj, rfl⟩ := List.mem_map.1 hk'
    have := hb _ _ hm j hj
    omega
theorem wf_snoc {a : List Nd} {n : Nd} (ha : Wf a) (h : ∀ k ∈ n.kids, k < a.length) : Wf (a ++ [n]) := fun i m hm k hk => by
  by_cases hi : i < a.length
  · rw [List.getElem?_append_left hi] at hm
    exact ha i m hm k hk
  · rw [List.getElem?_append_right (by omega)] at hm
    have h0 : i - a.length = 0 := by
      cases hh : i - a.length with
      | zero => rfl
      | succ j => rw [hh] at hm; simp at hm
    rw [h0] at hm
    have : n = m := by simpa using hm
    subst this
    have := h k hk
    omega
/-- What a part bears, s runes ahead of it and r behind; b nodes more than four a rune. -/
structure Part (b : Int) (s : List Int) (f : Frag) (r : List Int) : Prop where
  suf : r <:+ s
  few : (f.nodes.length : Int) + 4 * r.length ≤ 4 * s.length + b
  some : f.nodes ≠ []
  wf : Wf f.nodes
theorem Part.le {b : Int} {s r : List Int} {f : Frag} (h : Part b s f r) : r.length ≤ s.length := h.suf.length_le
theorem Part.pos {b : Int} {s r : List Int} {f : Frag} (h : Part b s f r) : 0 < f.nodes.length := List.length_pos_iff.2 h.some
theorem part_leaf {s r : List Int} (kind : Int) (set : List Int) (h : r <:+ s) (hl : r.length < s.length) : Part (-3) s (leaf kind set) r :=
  ⟨h, by show (1 : Int) + _ ≤ _; omega, by simp [leaf], wf_one _ rfl⟩
theorem suf_cons {r s : List Int} (c : Int) (h : r <:+ s) : r <:+ (c :: s) := h.trans (List.suffix_cons c s)
/-- A reading's rest is behind its runes. -/
def Ends {α : Type} (s : List Int) (x : Res α) : Prop := ∀ y r, x = some (y, r) → r <:+ s ∧ r.length < s.length
theorem ends_none {α : Type} (s : List Int) : Ends s (none : Res α) := fun y r h => by cases h
theorem ends_some {α : Type} {s r : List Int} {y : α} (h : r <:+ s) (hl : r.length < s.length) : Ends s (some (y, r)) := fun y' r' e => by
  cases e
  exact ⟨h, hl⟩
theorem ends_cons {α : Type} (c : Int) (r : List Int) (y : α) : Ends (c :: r) (some (y, r)) := ends_some (List.suffix_cons c r) (by simp)
theorem dig_ends (s : List Int) : Ends s (digP s) := by
  cases s with
  | nil => exact ends_none _
  | cons c r =>
    simp only [digP]
    split
    · exact ends_cons c r _
    · exact ends_none _
theorem esc_ends (s : List Int) : Ends s (escP s) := by
  cases s with
  | nil => exact ends_none _
  | cons c r =>
    simp only [escP]
    repeat' split
    all_goals first | exact ends_cons c r _ | exact ends_none _
theorem ends_in {α : Type} {s s' : List Int} {x : Res α} (h : Ends s' x) (hs : s' <:+ s) : Ends s x := fun y r e => ⟨(h y r e).1.trans hs, Nat.lt_of_lt_of_le (h y r e).2 hs.length_le⟩
theorem mem_ends (s : List Int) : Ends s (memP s) := by
  cases s with
  | nil => exact ends_none _
  | cons c r =>
    simp only [memP]
    repeat' split
    all_goals first | exact ends_in (esc_ends r) (List.suffix_cons c r) | exact ends_cons c r _ | exact ends_none _
theorem next_ends {c : Int} {s r : List Int} (h : nextP c s = some r) : s = c :: r := by
  cases s with
  | nil => cases h
  | cons x s =>
    simp only [nextP] at h
    split at h
    · rename_i e
      cases h
      rw [e]
    · cases h
theorem next_suf {c : Int} {s r : List Int} (h : nextP c s = some r) : r <:+ s ∧ r.length < s.length := by
  rw [next_ends h]
  exact ⟨List.suffix_cons c r, by simp⟩
theorem rng_ends (s : List Int) : Ends s (rngP s) := by
  have hm := mem_ends s
  unfold rngP
  split
  · exact ends_none _
  · rename_i m r e
    have h1 := hm _ _ e
    split
    · exact ends_some h1.1 h1.2
    · rename_i r1 e1
      have h2 := next_suf e1
      split
      · exact ends_none _
      · rename_i t r2 e2
        have h3 := mem_ends _ _ _ e2
        split
        · exact ends_none _
        · exact ends_some (h3.1.trans (h2.1.trans h1.1)) (by omega)
theorem cls_ends (k : Nat) : ∀ s, Ends s (clsL k s) := by
  induction k with
  | zero => exact fun s => ends_none _
  | succ k ih =>
    intro s
    have hm := rng_ends s
    unfold clsL
    split
    · exact ends_none _
    · rename_i m r e
      have h1 := hm _ _ e
      split
      · rename_i r1 e1
        have h2 := next_suf e1
        exact ends_some (h2.1.trans h1.1) (by omega)
      · split
        · exact ends_none _
        · rename_i t r' e'
          have h2 := ih r _ _ e'
          exact ends_some (h2.1.trans h1.1) (by omega)
theorem clsN_ends (no : Bool) (s : List Int) : Ends s (clsN no s) := by
  unfold clsN
  split
  · exact ends_none _
  · rename_i t r' e
    have h2 := cls_ends _ _ _ _ e
    exact ends_some h2.1 h2.2
theorem clsP_ends (s : List Int) : Ends s (clsP s) := by
  unfold clsP
  split
  · rename_i r e
    exact ends_in (clsN_ends true r) (next_suf e).1
  · exact clsN_ends false s
theorem setF_part {c : Int} {s : List Int} {x : Res (List Int)} (h : Ends s x) {f : Frag} {r : List Int} (e : setF x = some (f, r)) : Part (-3) (c :: s) f r := by
  unfold setF at e
  split at e
  · cases e
  · rename_i t r'
    cases e
    have h1 := h _ _ rfl
    exact part_leaf _ _ (suf_cons c h1.1) (by simp only [List.length_cons]; omega)
section
variable {alt : List Int → Res Frag}
theorem atom_part (s : List Int) (hp : ∀ s f r, alt s = some (f, r) → Part 1 s f r) {f : Frag} {r : List Int} (h : atomP alt s = some (f, r)) : Part (-3) s f r := by
  cases s with
  | nil => cases h
  | cons c s =>
    simp only [atomP] at h
    split at h
    · unfold parP at h
      split at h
      · cases h
      · rename_i f' r1 e
        split at h
        · cases h
        · rename_i r2 e1
          cases h
          have h1 := hp _ _ _ e
          have h2 := h1.few
          have h3 := next_suf e1
          refine ⟨suf_cons c (h3.1.trans h1.suf), ?_, h1.some, h1.wf⟩
          show (f'.nodes.length : Int) + _ ≤ _
          simp only [List.length_cons, Int.natCast_add, Int.natCast_one] at *
          omega
    · split at h
      · exact setF_part (clsP_ends _) h
      · split at h
        · cases h; exact part_leaf _ _ (List.suffix_cons _ _) (by simp)
        · split at h
          · cases h; exact part_leaf _ _ (List.suffix_cons _ _) (by simp)
          · split at h
            · cases h; exact part_leaf _ _ (List.suffix_cons _ _) (by simp)
            · split at h
              · exact setF_part (esc_ends _) h
              · split at h
                · cases h
                · cases h; exact part_leaf _ _ (List.suffix_cons _ _) (by simp)
theorem brEnd_ends (lo hi : Int) (s : List Int) : Ends s (brEnd lo hi s) := by
  unfold brEnd
  split
  · split
    · exact ends_none _
    · rename_i e
      exact ends_some (next_suf e).1 (next_suf e).2
  · exact ends_none _
theorem bra_ends (s : List Int) : Ends s (braP s) := by
  have hm := dig_ends s
  unfold braP
  split
  · exact ends_none _
  · rename_i lo r1 e
    have h1 := hm _ _ e
    split
    · exact ends_in (brEnd_ends _ _ _) h1.1
    · rename_i r2 e2
      have h2 := next_suf e2
      split
      · exact ends_none _
      · rename_i hi r3 e3
        have h3 := dig_ends _ _ _ e3
        exact ends_in (brEnd_ends _ _ _) (h3.1.trans (h2.1.trans h1.1))
theorem rep_ends (s : List Int) {x : Option (Int × Int)} {r : List Int} (h : repP s = some (x, r)) : r <:+ s ∧ (x ≠ none → r.length < s.length) := by
  unfold repP at h
  split at h
  · rename_i e; cases h; exact ⟨(next_suf e).1, fun _ => (next_suf e).2⟩
  · split at h
    · rename_i e; cases h; exact ⟨(next_suf e).1, fun _ => (next_suf e).2⟩
    · split at h
      · rename_i e; cases h; exact ⟨(next_suf e).1, fun _ => (next_suf e).2⟩
      · split at h
        · cases h; exact ⟨List.suffix_refl _, fun h => absurd rfl h⟩
        · rename_i r0 e
          have h0 := next_suf e
          split at h
          · cases h
          · rename_i y r1 e1
            cases h
            have h1 := bra_ends _ _ _ e1
            exact ⟨h1.1.trans h0.1, fun _ => by omega⟩
theorem item_part (s : List Int) (hp : ∀ s f r, alt s = some (f, r) → Part 1 s f r) {f : Frag} {r : List Int} (h : itemP alt s = some (f, r)) : Part (-3) s f r := by
  unfold itemP at h
  split at h
  · cases h
  · rename_i g r1 e
    have h1 := atom_part s hp e
    split at h
    · cases h
    · rename_i x r' e'
      cases h
      have h2 := rep_ends _ e'
      have h3 := h1.few
      cases x with
      | none =>
        have := h2.1.length_le
        refine ⟨h2.1.trans h1.suf, ?_, h1.some, h1.wf⟩
        show (g.nodes.length : Int) + _ ≤ _
        omega
      | some x =>
        obtain ⟨lo, hi⟩ := x
        have := h2.2 (by simp)
        have hpos := h1.pos
        refine ⟨h2.1.trans h1.suf, ?_, by simp [repV, repF], wf_snoc h1.wf fun k hk => ?_⟩
        · show ((g.nodes ++ [_]).length : Int) + _ ≤ _
          rw [List.length_append]
          show ((g.nodes.length + 1 : Nat) : Int) + _ ≤ _
          omega
        · have : k = g.nodes.length - 1 := by simpa using hk
          omega
/-- What a row of parts bears. -/
structure Parts (c : Int) (s : List Int) (fs : List Frag) (r : List Int) : Prop where
  suf : r <:+ s
  few : ((catN fs).length : Int) + 4 * r.length + 3 * fs.length ≤ 4 * s.length + c
  some : ∀ f ∈ fs, f.nodes ≠ []
  wf : ∀ f ∈ fs, Wf f.nodes
theorem catN_cons (f : Frag) (fs : List Frag) : (catN (f :: fs)).length = f.nodes.length + (catN fs).length := by
  show (f.nodes ++ mv _ _).length = _
  rw [List.length_append, mv_length]
theorem catN_wf : ∀ (fs : List Frag), (∀ f ∈ fs, Wf f.nodes) → Wf (catN fs)
  | [], _ => wf_nil
  | f :: fs, h => wf_mv (h f (by simp)) (catN_wf fs fun g hg => h g (by simp [hg]))
theorem roots_lt : ∀ (fs : List Frag) (b : Nat), (∀ f ∈ fs, f.nodes ≠ []) → ∀ k ∈ rootsN b fs, k < b + (catN fs).length
  | [], _, _, k, hk => by simp [rootsN] at hk
  | f :: fs, b, h, k, hk => by
    have hf : 0 < f.nodes.length := List.length_pos_iff.2 (h f (by simp))
    rw [catN_cons]
    unfold rootsN at hk
    rcases List.mem_cons.1 hk with rfl | hk
    · omega
    · have := roots_lt fs (b + f.nodes.length) (fun g hg => h g (by simp [hg])) k hk
      omega
theorem many_wf (kind : Int) (fs : List Frag) (h1 : ∀ f ∈ fs, f.nodes ≠ []) (h2 : ∀ f ∈ fs, Wf f.nodes) : (manyP kind fs).nodes ≠ [] ∧ Wf (manyP kind fs).nodes := by
  have hg : ∀ n : Nd, n.kids = rootsN 0 fs → catN fs ++ [n] ≠ [] ∧ Wf (catN fs ++ [n]) := fun n hn => ⟨by simp, wf_snoc (catN_wf fs h2) fun k hk => by
    rw [hn] at hk
    have := roots_lt fs 0 h1 k hk
    omega⟩
  match fs, h1, h2, hg with
  | [], _, _, hg => exact hg _ rfl
  | [f], h1, h2, _ => exact ⟨h1 f (by simp), h2 f (by simp)⟩
  | f :: g :: fs, _, _, hg => exact hg _ rfl
theorem many_len (kind : Int) (fs : List Frag) : (manyP kind fs).nodes.length ≤ (catN fs).length + 1 ∧ (∀ f, fs = [f] → (manyP kind fs).nodes.length = (catN fs).length) := by
  match fs with
  | [] => exact ⟨by simp [manyP], fun f h => by cases h⟩
  | [f] => exact ⟨by simp [manyP, catN, mv], fun _ _ => by simp [manyP, catN, mv]⟩
  | f :: g :: fs => exact ⟨by simp [manyP], fun f h => by cases h⟩
theorem row_parts (hp : ∀ s f r, alt s = some (f, r) → Part 1 s f r) (k : Nat) : ∀ s fs r, rowL alt k s = some (fs, r) → Parts 0 s fs r := by
  induction k with
  | zero =>
    intro s fs r h
    cases s with
    | nil =>
      cases h
      exact ⟨List.suffix_refl _, by simp [catN], by simp, by simp⟩
    | cons c s =>
      unfold rowL at h
      split at h
      · cases h
        exact ⟨List.suffix_refl _, by simp [catN], by simp, by simp⟩
      · cases h
  | succ k ih =>
    intro s fs r h
    cases s with
    | nil =>
      cases h
      exact ⟨List.suffix_refl _, by simp [catN], by simp, by simp⟩
    | cons c s =>
      unfold rowL at h
      split at h
      · cases h
        exact ⟨List.suffix_refl _, by simp [catN], by simp, by simp⟩
      · simp only at h
        split at h
        · cases h
        · rename_i f r1 e
          have h1 := item_part _ hp e
          split at h
          · cases h
          · rename_i gs r2 e'
            cases h
            have h2 := ih _ _ _ e'
            have := h1.few
            have := h2.few
            refine ⟨h2.suf.trans h1.suf, ?_, ?_, ?_⟩
            · rw [catN_cons]
              simp only [List.length_cons, Int.natCast_add, Int.natCast_one] at *
              omega
            · intro g hg
              rcases List.mem_cons.1 hg with rfl | hg
              · exact h1.some
              · exact h2.some g hg
            · intro g hg
              rcases List.mem_cons.1 hg with rfl | hg
              · exact h1.wf
              · exact h2.wf g hg
theorem row_part (hp : ∀ s f r, alt s = some (f, r) → Part 1 s f r) {s : List Int} {f : Frag} {r : List Int} (h : rowP alt s = some (f, r)) : Part 1 s f r := by
  unfold rowP at h
  split at h
  · cases h
  · rename_i fs r' e
    cases h
    have h1 := row_parts hp _ _ _ _ e
    have h2 := h1.few
    match fs, h1 with
    | [], h1 =>
      refine ⟨h1.suf, ?_, by simp [rowF, leaf], wf_one _ rfl⟩
      show ((1 : Nat) : Int) + _ ≤ _
      simp [catN] at h2
      omega
    | g :: gs, h1 =>
      have h3 := many_wf 3 (g :: gs) h1.some h1.wf
      have h4 := (many_len 3 (g :: gs)).1
      refine ⟨h1.suf, ?_, h3.1, h3.2⟩
      show ((manyP 3 (g :: gs)).nodes.length : Int) + _ ≤ _
      simp only [List.length_cons] at *
      omega
theorem alt_parts (hp : ∀ s f r, alt s = some (f, r) → Part 1 s f r) (k : Nat) : ∀ s fs r, altL alt k s = some (fs, r) → Parts 4 s fs r ∧ fs ≠ [] := by
  have base : ∀ s f r, rowP alt s = some (f, r) → Parts 4 s [f] r ∧ [f] ≠ [] := by
    intro s f r e
    have h1 := row_part hp e
    have := h1.few
    refine ⟨⟨h1.suf, by rw [catN_cons]; simp [catN]; omega, ?_, ?_⟩, by simp⟩
    · intro g hg
      rw [List.mem_singleton.1 hg]
      exact h1.some
    · intro g hg
      rw [List.mem_singleton.1 hg]
      exact h1.wf
  induction k with
  | zero =>
    intro s fs r h
    unfold altL at h
    split at h
    · cases h
    · rename_i f r' e
      split at h
      · cases h
        exact base _ _ _ e
      · cases h
  | succ k ih =>
    intro s fs r h
    unfold altL at h
    split at h
    · cases h
    · rename_i f r1 e
      have h1 := row_part hp e
      split at h
      · cases h
        exact base _ _ _ e
      · rename_i r1' e1
        have h0 := next_suf e1
        simp only at h
        split at h
        · cases h
        · rename_i gs r2 e'
          cases h
          obtain ⟨h2, _⟩ := ih _ _ _ e'
          have := h1.few
          have := h2.few
          refine ⟨⟨h2.suf.trans (h0.1.trans h1.suf), ?_, ?_, ?_⟩, by simp⟩
          · rw [catN_cons]
            simp only [List.length_cons, Int.natCast_add, Int.natCast_one] at *
            omega
          · intro g hg
            rcases List.mem_cons.1 hg with rfl | hg
            · exact h1.some
            · exact h2.some g hg
          · intro g hg
            rcases List.mem_cons.1 hg with rfl | hg
            · exact h1.wf
            · exact h2.wf g hg
theorem altB_part (hp : ∀ s f r, alt s = some (f, r) → Part 1 s f r) {s : List Int} {f : Frag} {r : List Int} (h : altB alt s = some (f, r)) : Part 1 s f r := by
  unfold altB at h
  split at h
  · cases h
  · rename_i fs r' e
    cases h
    obtain ⟨h1, h0⟩ := alt_parts hp _ _ _ _ e
    have h2 := h1.few
    have h3 := many_wf 4 fs h1.some h1.wf
    have h4 := many_len 4 fs
    refine ⟨h1.suf, ?_, h3.1, h3.2⟩
    match fs, h0, h4, h2 with
    | [g], _, h4, h2 =>
      rw [h4.2 g rfl]
      simp only [List.length_cons, List.length_nil] at h2
      omega
    | g :: g' :: gs, _, h4, h2 =>
      have := h4.1
      simp only [List.length_cons] at *
      omega
end
theorem altN_part (n : Nat) : ∀ s f r, altN n s = some (f, r) → Part 1 s f r := by
  induction n with
  | zero => intro s f r h; cases h
  | succ n ih => exact fun s f r h => altB_part ih h
end Go.Proofs.YthmhmckkkceclaaDoor
/-
  Sets of runes as pairs: a set has one form with gaps between its pairs; the program's merged and others, and the document's way, come to it.
-/
namespace Go.Proofs.YthmhmckkkceclaaDoor
abbrev Pr := Int × Int
def flat (P : List Pr) : List Int := P.flatMap fun p => [p.1, p.2]
theorem flat_cons (p : Pr) (P : List Pr) : flat (p :: P) = p.1 :: p.2 :: flat P := rfl
theorem flat_append (A B : List Pr) : flat (A ++ B) = flat A ++ flat B := List.flatMap_append
theorem flat_length (P : List Pr) : (flat P).length = 2 * P.length := by
  induction P with
  | nil => rfl
  | cons p P ih => rw [flat_cons, List.length_cons, List.length_cons, ih, List.length_cons]; omega
def hasP (P : List Pr) (x : Int) : Bool := P.any fun p => decide (p.1 ≤ x) && decide (x ≤ p.2)
theorem has_flat (P : List Pr) (x : Int) : hasS (flat P) x = hasP P x := by
  induction P with
  | nil => rfl
  | cons p P ih =>
    rw [flat_cons]
    unfold hasS
    rw [ih]
    rfl
theorem hasP_append (A B : List Pr) (x : Int) : hasP (A ++ B) x = (hasP A x || hasP B x) := List.any_append
theorem hasP_iff {P : List Pr} {x : Int} : hasP P x = true ↔ ∃ p ∈ P, p.1 ≤ x ∧ x ≤ p.2 := by
  unfold hasP
  rw [List.any_eq_true]
  constructor
  · rintro ⟨p, hp, h⟩
    exact ⟨p, hp, by simpa using h⟩
  · rintro ⟨p, hp, h⟩
    exact ⟨p, hp, by simpa using h⟩
/-- Pairs of runes. -/
def Prs (P : List Pr) : Prop := ∀ p ∈ P, 0 ≤ p.1 ∧ p.1 ≤ p.2 ∧ p.2 ≤ 1114111
/-- .. that rise, with gaps between them. -/
structure Canon (P : List Pr) : Prop where
  prs : Prs P
  gap : P.Pairwise fun p q => p.2 + 1 < q.1
theorem Canon.nil : Canon [] := ⟨by intro p hp; simp at hp, .nil⟩
theorem Canon.tail {p : Pr} {P : List Pr} (h : Canon (p :: P)) : Canon P := ⟨fun q hq => h.prs q (by simp [hq]), (List.pairwise_cons.1 h.gap).2⟩
theorem Canon.snoc {P : List Pr} {a b : Int} (h : Canon P) (h0 : 0 ≤ a) (hab : a ≤ b) (hb : b ≤ 1114111) (hg : ∀ p ∈ P, p.2 + 1 < a) : Canon (P ++ [(a, b)]) :=
  ⟨fun q hq => by
    rcases List.mem_append.1 hq with hq | hq
    · exact h.prs q hq
    · rw [List.mem_singleton.1 hq]
      exact ⟨h0, hab, hb⟩, by
    rw [List.pairwise_append]
    refine ⟨h.gap, by simp, fun p hp q hq => ?_⟩
    rw [List.mem_singleton.1 hq]
    exact hg p hp⟩
theorem canon_low {P : List Pr} {p : Pr} (h : Canon (p :: P)) {x : Int} (hx : x ≤ p.2 + 1) : hasP P x = false := by
  refine Bool.eq_false_iff.2 fun hh => ?_
  obtain ⟨q, hq, h1, h2⟩ := hasP_iff.1 hh
  have := (List.pairwise_cons.1 h.gap).1 q hq
  omega
theorem has_cons (p : Pr) (P : List Pr) (x : Int) : hasP (p :: P) x = ((decide (p.1 ≤ x) && decide (x ≤ p.2)) || hasP P x) := rfl
theorem canon_unique : ∀ {P Q : List Pr}, Canon P → Canon Q → (∀ x, 0 ≤ x → x ≤ 1114111 → hasP P x = hasP Q x) → P = Q
  | [], [], _, _, _ => rfl
  | [], q :: Q, _, hQ, h => by
    obtain ⟨h1, h2, h3⟩ := hQ.prs q (by simp)
    have := h q.1 h1 (by omega)
    rw [has_cons] at this
    simp [h2] at this
    simp [hasP] at this
  | p :: P, [], hP, _, h => by
    obtain ⟨h1, h2, h3⟩ := hP.prs p (by simp)
    have := h p.1 h1 (by omega)
    rw [has_cons] at this
    simp [h2] at this
    simp [hasP] at this
  | p :: P, q :: Q, hP, hQ, h => by
    obtain ⟨p1, p2, p3⟩ := hP.prs p (by simp)
    obtain ⟨q1, q2, q3⟩ := hQ.prs q (by simp)
    have lowP := fun x hx => canon_low hP (x := x) hx
    have lowQ := fun x hx => canon_low hQ (x := x) hx
    have e1 : p.1 = q.1 := by
      have a := h p.1 p1 (by omega)
      have b := h q.1 q1 (by omega)
      rw [has_cons, has_cons] at a b
      by_cases hlt : p.1 < q.1
      · rw [lowQ _ (by omega)] at a
        simp [p2] at a
        omega
      · by_cases hgt : q.1 < p.1
        · rw [lowP _ (by omega)] at b
          simp [q2] at b
          omega
        · omega
    have e2 : p.2 = q.2 := by
      by_cases hlt : p.2 < q.2
      · have a := h (p.2 + 1) (by omega) (by omega)
        rw [has_cons, has_cons, lowP _ (by omega), decide_eq_true (show q.1 ≤ p.2 + 1 by omega), decide_eq_true (show p.2 + 1 ≤ q.2 by omega), decide_eq_false (show ¬ p.2 + 1 ≤ p.2 by omega)] at a
        simp at a
      · by_cases hgt : q.2 < p.2
        · have a := h (q.2 + 1) (by omega) (by omega)
          rw [has_cons, has_cons, lowQ _ (by omega), decide_eq_true (show p.1 ≤ q.2 + 1 by omega), decide_eq_true (show q.2 + 1 ≤ p.2 by omega), decide_eq_false (show ¬ q.2 + 1 ≤ q.2 by omega)] at a
          simp at a
        · omega
    have e : p = q := Prod.ext e1 e2
    subst e
    congr 1
    refine canon_unique hP.tail hQ.tail fun x h0 h1 => ?_
    by_cases hx : x ≤ p.2 + 1
    · rw [lowP x hx, lowQ x hx]
    · have a := h x h0 h1
      rw [has_cons, has_cons] at a
      have : decide (x ≤ p.2) = false := by simp; omega
      rw [this, Bool.and_false, Bool.false_or, Bool.false_or] at a
      exact a
/-! ### merged -/
def mrgOne (out : List Int) (p : Pr) : List Int :=
  match out.getLast? with
  | some z => if p.1 ≤ z + 1 then out.dropLast ++ [max z p.2] else out ++ [p.1, p.2]
  | none => out ++ [p.1, p.2]
def mrgL (l : List Pr) : List Int := l.foldl mrgOne []
theorem flat_last (P : List Pr) (p : Pr) : (flat (P ++ [p])).getLast? = some p.2 ∧ ∀ z, (flat (P ++ [p])).dropLast ++ [z] = flat (P ++ [(p.1, z)]) := by
  have e : flat (P ++ [p]) = (flat P ++ [p.1]) ++ [p.2] := by rw [flat_append]; simp [flat]
  rw [e]
  refine ⟨by simp, fun z => ?_⟩
  rw [List.dropLast_concat, flat_append]
  simp [flat]
theorem list_snoc {α : Type} (l : List α) : l = [] ∨ ∃ a x, l = a ++ [x] := by
  rcases List.eq_nil_or_concat l with h | ⟨a, x, h⟩
  · exact .inl h
  · exact .inr ⟨a, x, by rw [h, List.concat_eq_append]⟩
theorem mrg_step {P : List Pr} {p : Pr} (h : Canon P) (h0 : 0 ≤ p.1) (h1 : p.1 ≤ p.2) (h2 : p.2 ≤ 1114111) (hs : ∀ q ∈ P, q.1 ≤ p.1) :
    ∃ P', mrgOne (flat P) p = flat P' ∧ Canon P' ∧ (∀ q ∈ P', q.1 ≤ p.1) ∧ ∀ x, hasP P' x = (hasP P x || (decide (p.1 ≤ x) && decide (x ≤ p.2))) := by
  rcases list_snoc P with rfl | ⟨A, q, rfl⟩
  · refine ⟨[p], rfl, ⟨fun q hq => by rw [List.mem_singleton.1 hq]; exact ⟨h0, h1, h2⟩, by simp⟩, fun q hq => by rw [List.mem_singleton.1 hq]; exact Int.le_refl _, fun x => by simp [hasP]⟩
  · have hA : Canon A := ⟨fun y hy => h.prs y (by simp [hy]), (List.pairwise_append.1 h.gap).1⟩
    have hq := h.prs q (by simp)
    have hqA : ∀ y ∈ A, y.2 + 1 < q.1 := fun y hy => (List.pairwise_append.1 h.gap).2.2 y hy q (by simp)
    have hq1 := hs q (by simp)
    unfold mrgOne
    rw [(flat_last A q).1]
    simp only
    by_cases hc : p.1 ≤ q.2 + 1
    · rw [if_pos hc, (flat_last A q).2]
      refine ⟨_, rfl, hA.snoc hq.1 (by omega) (by omega) hqA, ?_, fun x => ?_⟩
      · intro y hy
        rcases List.mem_append.1 hy with hy | hy
        · exact hs y (by simp [hy])
        · rw [List.mem_singleton.1 hy]
          exact hq1
      · rw [hasP_append, hasP_append, Bool.or_assoc]
        congr 1
        simp only [hasP, List.any_cons, List.any_nil, Bool.or_false]
        rw [Bool.eq_iff_iff]
        simp only [Bool.or_eq_true, Bool.and_eq_true, decide_eq_true_eq]
        omega
    · rw [if_neg hc]
      refine ⟨A ++ [q] ++ [p], by rw [flat_append (A ++ [q])]; rfl, h.snoc h0 h1 h2 ?_, ?_, fun x => by rw [hasP_append]; simp [hasP]⟩
      · intro y hy
        rcases List.mem_append.1 hy with hy | hy
        · have := hqA y hy
          omega
        · rw [List.mem_singleton.1 hy]
          omega
      · intro y hy
        rcases List.mem_append.1 hy with hy | hy
        · exact hs y hy
        · rw [List.mem_singleton.1 hy]
          exact Int.le_refl _
theorem mrg_fold : ∀ (l : List Pr) (P : List Pr), Canon P → Prs l → l.Pairwise (fun p q => p.1 ≤ q.1) → (∀ p ∈ P, ∀ q ∈ l, p.1 ≤ q.1) →
    ∃ P', l.foldl mrgOne (flat P) = flat P' ∧ Canon P' ∧ ∀ x, hasP P' x = (hasP P x || hasP l x)
  | [], P, h, _, _, _ => ⟨P, rfl, h, fun x => by simp [hasP]⟩
  | p :: l, P, h, hl, hs, hPl => by
    obtain ⟨a, b, c⟩ := hl p (by simp)
    obtain ⟨P1, e1, h1, h2, h3⟩ := mrg_step h a b c (fun q hq => hPl q hq p (by simp))
    obtain ⟨P2, e2, h4, h5⟩ := mrg_fold l P1 h1 (fun q hq => hl q (by simp [hq])) (List.pairwise_cons.1 hs).2 (fun q hq r hr => Int.le_trans (h2 q hq) ((List.pairwise_cons.1 hs).1 r hr))
    refine ⟨P2, by rw [List.foldl_cons, e1]; exact e2, h4, fun x => ?_⟩
    rw [h5, h3, has_cons, Bool.or_assoc]
theorem mrg_canon {l : List Pr} (hl : Prs l) (hs : l.Pairwise fun p q => p.1 ≤ q.1) : ∃ P, mrgL l = flat P ∧ Canon P ∧ ∀ x, hasP P x = hasP l x := by
  obtain ⟨P, e, h, hx⟩ := mrg_fold l [] Canon.nil hl hs (by simp)
  exact ⟨P, e, h, fun x => by rw [hx]; simp [hasP]⟩
/-! ### others -/
def othL : Int → List Int → List Int → List Int
  | f, out, a :: b :: l => othL (b + 1) (if f < a then out ++ [f, a - 1] else out) l
  | f, out, _ => if f ≤ 1114111 then out ++ [f, 1114111] else out
theorem oth_canon : ∀ (P : List Pr) (A : List Pr) (f : Int), Canon P → Canon A → 0 ≤ f → (∀ p ∈ P, f ≤ p.1) → (∀ p ∈ A, p.2 + 1 < f) → (∀ p ∈ P, f = 0 ∨ f < p.1) →
    ∃ A', othL f (flat A) (flat P) = flat A' ∧ Canon A' ∧ (∀ x, x < f → hasP A' x = hasP A x) ∧ ∀ x, f ≤ x → x ≤ 1114111 → hasP A' x = !hasP P x
  | [], A, f, _, hA, h0, _, hAf, _ => by
    unfold flat
    rw [List.flatMap_nil]
    unfold othL
    by_cases hf : f ≤ 1114111
    · rw [if_pos hf]
      refine ⟨A ++ [(f, 1114111)], by rw [← flat, ← flat, flat_append]; rfl, hA.snoc h0 hf (by omega) hAf, fun x hx => ?_, fun x h1 h2 => ?_⟩
      · rw [hasP_append]
        simp [hasP]
        omega
      · rw [hasP_append]
        simp [hasP]
        omega
    · rw [if_neg hf]
      exact ⟨A, rfl, hA, fun _ _ => rfl, fun x h1 h2 => by omega⟩
  | p :: P, A, f, hP, hA, h0, hPf, hAf, hPg => by
    obtain ⟨p1, p2, p3⟩ := hP.prs p (by simp)
    have hfp := hPf p (by simp)
    have hgap := (List.pairwise_cons.1 hP.gap).1
    rw [flat_cons]
    unfold othL
    by_cases hf : f < p.1
    · rw [if_pos hf]
      have hA' : Canon (A ++ [(f, p.1 - 1)]) := hA.snoc h0 (by omega) (by omega) hAf
      obtain ⟨A', e, h1, h2, h3⟩ := oth_canon P (A ++ [(f, p.1 - 1)]) (p.2 + 1) hP.tail hA' (by omega) (fun q hq => by have := hgap q hq; omega) (fun q hq => by
        rcases List.mem_append.1 hq with hq | hq
        · have := hAf q hq
          omega
        · rw [List.mem_singleton.1 hq]
          show p.1 - 1 + 1 < _
          omega) (fun q hq => .inr (hgap q hq))
      rw [flat_append] at e
      refine ⟨A', e, h1, fun x hx => ?_, fun x hx hx2 => ?_⟩
      · rw [h2 x (by omega), hasP_append]
        simp [hasP]
        omega
      · by_cases hxp : x ≤ p.2
        · rw [h2 x (by omega), hasP_append, has_cons p P, canon_low hP (x := x) (by omega)]
          have : hasP A x = false := Bool.eq_false_iff.2 fun hh => by
            obtain ⟨q, hq, _, h5⟩ := hasP_iff.1 hh
            have := hAf q hq
            omega
          rw [this, Bool.eq_iff_iff]
          simp [hasP]
          omega
        · rw [h3 x (by omega) hx2, has_cons]
          have : decide (x ≤ p.2) = false := by simp; omega
          rw [this]
          simp
    · rw [if_neg hf]
      have ef : f = p.1 := by omega
      have ef0 : f = 0 := by
        rcases hPg p (by simp) with h | h
        · exact h
        · omega
      obtain ⟨A', e, h1, h2, h3⟩ := oth_canon P A (p.2 + 1) hP.tail hA (by omega) (fun q hq => by have := hgap q hq; omega) (fun q hq => by have := hAf q hq; omega) (fun q hq => .inr (hgap q hq))
      refine ⟨A', e, h1, fun x hx => h2 x (by omega), fun x hx hx2 => ?_⟩
      by_cases hxp : x ≤ p.2
      · rw [h2 x (by omega), has_cons, canon_low hP (by omega)]
        have : hasP A x = false := Bool.eq_false_iff.2 fun hh => by
          obtain ⟨q, hq, _, h5⟩ := hasP_iff.1 hh
          have := hAf q hq
          omega
        rw [this]
        simp
        omega
      · rw [h3 x (by omega) hx2, has_cons]
        have : decide (x ≤ p.2) = false := by simp; omega
        rw [this]
        simp
/-! ### The document's way -/
theorem insI_perm (x : Int) (l : List Int) : (insI x l).Perm (x :: l) := by
  induction l with
  | nil => exact .refl _
  | cons y l ih =>
    unfold insI
    split
    · exact .refl _
    · exact (List.Perm.cons y ih).trans (List.Perm.swap x y l)
theorem insI_sorted {x : Int} {l : List Int} (h : l.Pairwise (· ≤ ·)) : (insI x l).Pairwise (· ≤ ·) := by
  induction l with
  | nil => simp [insI]
  | cons y l ih =>
    unfold insI
    have h1 := List.pairwise_cons.1 h
    split
    · rename_i hxy
      refine List.pairwise_cons.2 ⟨fun z hz => ?_, h⟩
      rcases List.mem_cons.1 hz with rfl | hz
      · omega
      · have := h1.1 z hz
        omega
    · rename_i hxy
      refine List.pairwise_cons.2 ⟨fun z hz => ?_, ih h1.2⟩
      rcases List.mem_cons.1 ((insI_perm x l).mem_iff.1 hz) with rfl | hz
      · omega
      · exact h1.1 z hz
theorem sortI_fold : ∀ (l s : List Int), s.Pairwise (· ≤ ·) → (l.foldl (fun s x => insI x s) s).Pairwise (· ≤ ·) ∧ (l.foldl (fun s x => insI x s) s).Perm (l ++ s)
  | [], s, h => ⟨h, .refl _⟩
  | x :: l, s, h => by
    obtain ⟨h1, h2⟩ := sortI_fold l (insI x s) (insI_sorted h)
    refine ⟨h1, h2.trans ?_⟩
    exact ((insI_perm x s).append_left l).trans List.perm_middle
theorem sortI_sorted (l : List Int) : (sortI l).Pairwise (· ≤ ·) := (sortI_fold l [] .nil).1
theorem sortI_perm (l : List Int) : (sortI l).Perm l := by
  have := (sortI_fold l [] .nil).2
  rwa [List.append_nil] at this
theorem cuts_mem (Q : List Pr) (x : Int) : x ∈ cutsOf (flat Q) ↔ ∃ q ∈ Q, x = q.1 ∨ x = q.2 + 1 := by
  induction Q with
  | nil => simp [flat, cutsOf]
  | cons q Q ih =>
    rw [flat_cons]
    unfold cutsOf
    simp only [List.mem_cons, ih]
    constructor
    · rintro (h | h | ⟨p, hp, h⟩)
      · exact ⟨q, .inl rfl, .inl h⟩
      · exact ⟨q, .inl rfl, .inr h⟩
      · exact ⟨p, .inr hp, h⟩
    · rintro ⟨p, rfl | hp, h⟩
      · rcases h with h | h
        · exact .inl h
        · exact .inr (.inl h)
      · exact .inr (.inr ⟨p, hp, h⟩)
/-- Between two cuts nothing changes. -/
theorem has_still {Q : List Pr} {a x : Int} (hax : a ≤ x) (h : ∀ c ∈ cutsOf (flat Q), c ≤ a ∨ x < c) : hasP Q x = hasP Q a := by
  rw [Bool.eq_iff_iff, hasP_iff, hasP_iff]
  constructor
  · rintro ⟨q, hq, h1, h2⟩
    rcases h q.1 ((cuts_mem Q _).2 ⟨q, hq, .inl rfl⟩) with h3 | h3
    · exact ⟨q, hq, h3, by omega⟩
    · omega
  · rintro ⟨q, hq, h1, h2⟩
    rcases h (q.2 + 1) ((cuts_mem Q _).2 ⟨q, hq, .inr rfl⟩) with h3 | h3
    · omega
    · exact ⟨q, hq, by omega, by omega⟩
theorem join_step {P : List Pr} {a b : Int} (h : Canon P) (h0 : 0 ≤ a) (hab : a < b) (hb : b ≤ 1114112) (hP : ∀ p ∈ P, p.2 < a) :
    ∃ P', joinP (flat P) a b = flat P' ∧ Canon P' ∧ (∀ p ∈ P', p.2 < b) ∧ ∀ x, hasP P' x = (hasP P x || (decide (a ≤ x) && decide (x < b))) := by
  unfold joinP
  rcases list_snoc P with rfl | ⟨A, q, rfl⟩
  · refine ⟨[(a, b - 1)], by simp [flat], ⟨fun q hq => by rw [List.mem_singleton.1 hq]; exact ⟨h0, by omega, by omega⟩, by simp⟩, fun q hq => by rw [List.mem_singleton.1 hq]; show b - 1 < b; omega, fun x => ?_⟩
    rw [Bool.eq_iff_iff]
    simp [hasP]
    omega
  · have hA : Canon A := ⟨fun y hy => h.prs y (by simp [hy]), (List.pairwise_append.1 h.gap).1⟩
    have hq := h.prs q (by simp)
    have hqA : ∀ y ∈ A, y.2 + 1 < q.1 := fun y hy => (List.pairwise_append.1 h.gap).2.2 y hy q (by simp)
    have hqa := hP q (by simp)
    rw [(flat_last A q).1]
    by_cases hc : q.2 = a - 1
    · rw [if_pos (by rw [hc]), (flat_last A q).2]
      refine ⟨_, rfl, hA.snoc hq.1 (by omega) (by omega) hqA, ?_, fun x => ?_⟩
      · intro y hy
        rcases List.mem_append.1 hy with hy | hy
        · have := hqA y hy
          omega
        · rw [List.mem_singleton.1 hy]
          show b - 1 < b
          omega
      · rw [hasP_append, hasP_append, Bool.or_assoc]
        congr 1
        simp only [hasP, List.any_cons, List.any_nil, Bool.or_false]
        rw [Bool.eq_iff_iff]
        simp only [Bool.or_eq_true, Bool.and_eq_true, decide_eq_true_eq]
        omega
    · rw [if_neg (by simpa using hc)]
      refine ⟨A ++ [q] ++ [(a, b - 1)], by rw [flat_append (A ++ [q])]; rfl, h.snoc h0 (by omega) (by omega) ?_, ?_, fun x => ?_⟩
      · intro y hy
        rcases List.mem_append.1 hy with hy | hy
        · have := hqA y hy
          omega
        · rw [List.mem_singleton.1 hy]
          omega
      · intro y hy
        rcases List.mem_append.1 hy with hy | hy
        · have := hP y hy
          omega
        · rw [List.mem_singleton.1 hy]
          show b - 1 < b
          omega
      · rw [hasP_append (A ++ [q])]
        congr 1
        rw [Bool.eq_iff_iff]
        simp [hasP]
        omega
theorem clean_fold (Q : List Pr) (no : Bool) : ∀ (l : List Int) (c : Int) (P : List Pr), (c :: l).Pairwise (· ≤ ·) → (∀ x ∈ cutsOf (flat Q), x ≤ c ∨ x ∈ l) → 0 ≤ c → (∀ x ∈ c :: l, x ≤ 1114112) → (c = 1114112 ∨ 1114112 ∈ l) →
    Canon P → (∀ p ∈ P, p.2 < c) → (∀ x, 0 ≤ x → x < c → hasP P x = (hasP Q x != no)) →
    ∃ P', cleanL (flat Q) no (flat P) (c :: l) = flat P' ∧ Canon P' ∧ ∀ x, 0 ≤ x → x ≤ 1114111 → hasP P' x = (hasP Q x != no)
  | [], c, P, _, _, _, _, hend, hP, _, hx => by
    have hc : c = 1114112 := hend.resolve_right (by simp)
    refine ⟨P, by unfold cleanL; rfl, hP, fun x h0 h1 => hx x h0 (by omega)⟩
  | d :: l, c, P, hs, hcut, h0, hle, hend, hP, hPc, hx => by
    have hs1 := List.pairwise_cons.1 hs
    have hcd : c ≤ d := hs1.1 d (by simp)
    have hd := hle d (by simp)
    unfold cleanL
    have hs' := hs1.2
    have hcut' : ∀ x ∈ cutsOf (flat Q), x ≤ d ∨ x ∈ l := fun x hx => by
      rcases hcut x hx with h | h
      · exact .inl (by omega)
      · rcases List.mem_cons.1 h with h | h
        · exact .inl (by omega)
        · exact .inr h
    have hle' : ∀ x ∈ d :: l, x ≤ 1114112 := fun x hx => hle x (by simp only [List.mem_cons] at *; exact .inr hx)
    have hend' : d = 1114112 ∨ 1114112 ∈ l := by
      rcases hend with h | h
      · exact .inl (by omega)
      · rcases List.mem_cons.1 h with h | h
        · exact .inl h.symm
        · exact .inr h
    by_cases hcd' : c = d
    · rw [if_pos (.inl hcd')]
      subst hcd'
      exact clean_fold Q no l c P hs' hcut' h0 hle' hend' hP hPc hx
    · have hstill : ∀ x, c ≤ x → x < d → hasP Q x = hasP Q c := fun x h1 h2 => has_still h1 fun y hy => by
        rcases hcut y hy with h | h
        · exact .inl h
        · rcases List.mem_cons.1 h with h | h
          · exact .inr (by omega)
          · have := (List.pairwise_cons.1 hs').1 y h
            exact .inr (by omega)
      by_cases hno : hasS (flat Q) c = no
      · rw [if_pos (.inr hno)]
        rw [has_flat] at hno
        refine clean_fold Q no l d P hs' hcut' (by omega) hle' hend' hP (fun p hp => by have := hPc p hp; omega) fun x h1 h2 => ?_
        by_cases hxc : x < c
        · exact hx x h1 hxc
        · rw [hstill x (by omega) h2, hno]
          have : hasP P x = false := Bool.eq_false_iff.2 fun hh => by
            obtain ⟨q, hq, _, h5⟩ := hasP_iff.1 hh
            have := hPc q hq
            omega
          rw [this]
          simp
      · rw [if_neg (by rintro (h | h); exact hcd' h; exact hno h)]
        rw [has_flat] at hno
        obtain ⟨P', e, h1, h2, h3⟩ := join_step hP h0 (by omega : c < d) hd hPc
        rw [e]
        refine clean_fold Q no l d P' hs' hcut' (by omega) hle' hend' h1 h2 fun x h4 h5 => ?_
        rw [h3]
        by_cases hxc : x < c
        · have : decide (c ≤ x) = false := by simp; omega
          rw [this, Bool.false_and, Bool.or_false]
          exact hx x h4 hxc
        · rw [hstill x (by omega) h5]
          have : hasP P x = false := Bool.eq_false_iff.2 fun hh => by
            obtain ⟨q, hq, _, h5⟩ := hasP_iff.1 hh
            have := hPc q hq
            omega
          rw [this]
          have e1 : decide (c ≤ x) = true := by simp; omega
          have e2 : decide (x < d) = true := by simp; omega
          rw [e1, e2]
          cases hh : hasP Q c <;> cases no <;> simp_all
theorem clean_canon {Q : List Pr} (hQ : Prs Q) (no : Bool) : ∃ P, cleanP (flat Q) no = flat P ∧ Canon P ∧ ∀ x, 0 ≤ x → x ≤ 1114111 → hasP P x = (hasP Q x != no) := by
  have hp := sortI_perm (0 :: 1114112 :: cutsOf (flat Q))
  have hs := sortI_sorted (0 :: 1114112 :: cutsOf (flat Q))
  have hr : ∀ x ∈ sortI (0 :: 1114112 :: cutsOf (flat Q)), 0 ≤ x ∧ x ≤ 1114112 := fun x hx => by
    rcases List.mem_cons.1 (hp.mem_iff.1 hx) with rfl | h
    · omega
    · rcases List.mem_cons.1 h with rfl | h
      · omega
      · obtain ⟨q, hq, h⟩ := (cuts_mem Q x).1 h
        have := hQ q hq
        omega
  unfold cleanP
  cases hl : sortI (0 :: 1114112 :: cutsOf (flat Q)) with
  | nil =>
    rw [hl] at hp
    have := hp.length_eq
    simp at this
  | cons c l =>
    rw [hl] at hp hs hr
    have h0 : (0 : Int) ∈ c :: l := hp.mem_iff.2 (by simp)
    have hc0 : c = 0 := by
      have h1 := (hr c (by simp)).1
      rcases List.mem_cons.1 h0 with h | h
      · exact h.symm
      · have := (List.pairwise_cons.1 hs).1 0 h
        omega
    subst hc0
    have hm : (1114112 : Int) ∈ (0 : Int) :: l := hp.mem_iff.2 (by simp)
    obtain ⟨P, e, h1, h2⟩ := clean_fold Q no l 0 [] hs (fun x hx => by
      rcases List.mem_cons.1 (hp.mem_iff.2 (show x ∈ 0 :: 1114112 :: cutsOf (flat Q) by simp [hx])) with h | h
      · exact .inl (by omega)
      · exact .inr h) (by omega) (fun x hx => (hr x hx).2) (by
      rcases List.mem_cons.1 hm with h | h
      · omega
      · exact .inr h) Canon.nil (by simp) (fun x h1 h2 => by omega)
    exact ⟨P, e, h1, h2⟩
/-- The program's two ways are the document's. -/
theorem merged_clean {Q Q' : List Pr} (hQ : Prs Q) (hp : Q'.Perm Q) (hs : Q'.Pairwise fun p q => p.1 ≤ q.1) : mrgL Q' = cleanP (flat Q) false := by
  have hQ' : Prs Q' := fun q hq => hQ q (hp.mem_iff.1 hq)
  obtain ⟨P, e, h1, h2⟩ := mrg_canon hQ' hs
  obtain ⟨P', e', h1', h2'⟩ := clean_canon hQ false
  rw [e, e', canon_unique h1 h1' fun x h3 h4 => ?_]
  rw [h2, h2' x h3 h4, Bool.bne_false, Bool.eq_iff_iff, hasP_iff, hasP_iff]
  exact ⟨fun ⟨q, hq, h⟩ => ⟨q, hp.mem_iff.1 hq, h⟩, fun ⟨q, hq, h⟩ => ⟨q, hp.mem_iff.2 hq, h⟩⟩
theorem others_clean {Q Q' : List Pr} (hQ : Prs Q) (hp : Q'.Perm Q) (hs : Q'.Pairwise fun p q => p.1 ≤ q.1) : othL 0 [] (mrgL Q') = cleanP (flat Q) true := by
  have hQ' : Prs Q' := fun q hq => hQ q (hp.mem_iff.1 hq)
  obtain ⟨P, e, h1, h2⟩ := mrg_canon hQ' hs
  obtain ⟨P', e', h1', h2'⟩ := clean_canon hQ true
  obtain ⟨A, e1, h3, _, h4⟩ := oth_canon P [] 0 h1 Canon.nil (by omega) (fun p hp => (h1.prs p hp).1) (by simp) (fun p hp => .inl rfl)
  have e2 : othL 0 [] (flat P) = flat A := e1
  rw [e, e', e2, canon_unique h3 h1' fun x h5 h6 => ?_]
  rw [h4 x h5 h6, h2, h2' x h5 h6, Bool.bne_true]
  congr 1
  rw [Bool.eq_iff_iff, hasP_iff, hasP_iff]
  exact ⟨fun ⟨q, hq, h⟩ => ⟨q, hp.mem_iff.1 hq, h⟩, fun ⟨q, hq, h⟩ => ⟨q, hp.mem_iff.2 hq, h⟩⟩
/-! ### The sets of classes are pairs -/
def Runes (s : List Int) : Prop := ∀ c ∈ s, 0 ≤ c ∧ c ≤ 1114111
/-- A reading gives pairs. -/
def Pairs (x : Res (List Int)) : Prop := ∀ t r, x = some (t, r) → ∃ Q, t = flat Q ∧ Prs Q ∧ Q ≠ []
theorem prs_one {a b : Int} (h0 : 0 ≤ a) (h : a ≤ b) (h1 : b ≤ 1114111) : Prs [(a, b)] := fun q hq => by
  rw [List.mem_singleton.1 hq]
  exact ⟨h0, h, h1⟩
theorem esc_pairs {s : List Int} (hs : Runes s) : Pairs (escP s) := by
  intro t r h
  cases s with
  | nil => cases h
  | cons c s =>
    have hc := hs c (by simp)
    simp only [escP] at h
    split at h
    · cases h; exact ⟨[(10, 10)], rfl, by unfold Prs; decide, by simp⟩
    · split at h
      · cases h; exact ⟨[(9, 9)], rfl, by unfold Prs; decide, by simp⟩
      · split at h
        · cases h; exact ⟨[(48, 57)], rfl, by unfold Prs; decide, by simp⟩
        · split at h
          · cases h; exact ⟨[(48, 57), (65, 90), (95, 95), (97, 122)], rfl, by unfold Prs; decide, by simp⟩
          · split at h
            · cases h; exact ⟨[(9, 10), (13, 13), (32, 32)], rfl, by unfold Prs; decide, by simp⟩
            · split at h
              · cases h; exact ⟨[(c, c)], rfl, prs_one hc.1 (Int.le_refl _) hc.2, by simp⟩
              · cases h
theorem mem_pairs {s : List Int} (hs : Runes s) : Pairs (memP s) := by
  intro t r h
  cases s with
  | nil => cases h
  | cons c s =>
    have hc := hs c (by simp)
    simp only [memP] at h
    split at h
    · exact esc_pairs (fun x hx => hs x (by simp [hx])) t r h
    · split at h
      · cases h
      · cases h; exact ⟨[(c, c)], rfl, prs_one hc.1 (Int.le_refl _) hc.2, by simp⟩
theorem runes_suf {s r : List Int} (hs : Runes s) (h : r <:+ s) : Runes r := fun c hc => hs c (h.mem hc)
theorem oneOf_flat {Q : List Pr} {a : Int} (h : oneOf (flat Q) = some a) : Q = [(a, a)] := by
  match Q with
  | [] => cases h
  | [p] =>
    have h' : (if p.1 = p.2 then some p.1 else none) = some a := h
    split at h'
    · rename_i e
      cases h'
      rw [show p = (p.1, p.1) from Prod.ext rfl e.symm]
    · cases h'
  | p :: q :: Q => rw [flat_cons, flat_cons] at h; cases h
theorem span_pairs {Q Q' : List Pr} (hQ : Prs Q) (hQ' : Prs Q') {u : List Int} (h : spanP (flat Q) (flat Q') = some u) : ∃ P, u = flat P ∧ Prs P ∧ P ≠ [] := by
  unfold spanP at h
  split at h
  · cases h
  · rename_i a ea
    split at h
    · cases h
    · rename_i b eb
      split at h
      · rename_i hab
        cases h
        have e1 := oneOf_flat ea
        have e2 := oneOf_flat eb
        subst e1
        subst e2
        exact ⟨[(a, b)], rfl, prs_one (hQ (a, a) (by simp)).1 hab (hQ' (b, b) (by simp)).2.2, by simp⟩
      · cases h
theorem rng_pairs {s : List Int} (hs : Runes s) : Pairs (rngP s) := by
  intro t r h
  have hm := mem_pairs hs
  have he := mem_ends s
  unfold rngP at h
  split at h
  · cases h
  · rename_i m r1 e
    obtain ⟨Q, rfl, hQ, hne⟩ := hm _ _ e
    have h1 := (he _ _ e).1
    split at h
    · cases h
      exact ⟨Q, rfl, hQ, hne⟩
    · rename_i r2 e2
      have hs1 : Runes r2 := runes_suf hs ((next_suf e2).1.trans h1)
      split at h
      · cases h
      · rename_i t' r' e'
        obtain ⟨Q', rfl, hQ', _⟩ := mem_pairs hs1 _ _ e'
        split at h
        · cases h
        · rename_i u eu
          cases h
          exact span_pairs hQ hQ' eu
theorem cls_pairs (k : Nat) : ∀ {s : List Int}, Runes s → Pairs (clsL k s) := by
  induction k with
  | zero => intro s _ t r h; cases h
  | succ k ih =>
    intro s hs t r h
    have hm := rng_pairs hs
    have he := rng_ends s
    unfold clsL at h
    split at h
    · cases h
    · rename_i m r1 e
      obtain ⟨Q, rfl, hQ, hne⟩ := hm _ _ e
      have h1 := (he _ _ e).1
      split at h
      · cases h
        exact ⟨Q, rfl, hQ, hne⟩
      · split at h
        · cases h
        · rename_i t' r' e'
          cases h
          obtain ⟨Q', rfl, hQ', _⟩ := ih (runes_suf hs h1) _ _ e'
          exact ⟨Q ++ Q', (flat_append _ _).symm, fun q hq => by
            rcases List.mem_append.1 hq with hq | hq
            · exact hQ q hq
            · exact hQ' q hq, by simp [hne]⟩
end Go.Proofs.YthmhmckkkceclaaDoor
