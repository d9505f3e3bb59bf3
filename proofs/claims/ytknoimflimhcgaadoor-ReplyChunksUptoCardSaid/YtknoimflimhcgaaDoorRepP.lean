/-
  Plain laws of chunks: the document's reading, byte by byte, and the program's, chunk by chunk, are one. No program in sight.
-/
import Derived.Test.YtknoimflimhcgaaDoorProg
namespace Go.Proofs.YtknoimflimhcgaaDoor

abbrev Byt := List UInt8
def isHex (c : UInt8) : Bool := decide ((48 ≤ c.toNat ∧ c.toNat ≤ 57) ∨ (97 ≤ c.toNat ∧ c.toNat ≤ 102))
def hexV (c : UInt8) : Nat := if c.toNat ≤ 57 then c.toNat - 48 else c.toNat - 87
theorem hexV_lt {c : UInt8} (h : isHex c = true) : hexV c < 16 := by
  have := of_decide_eq_true h
  unfold hexV
  split <;> omega
theorem isHex_not13 {c : UInt8} (h : isHex c = true) : c ≠ 13 := by
  intro e; subst e; revert h; decide

/-- The state of the reading byte by byte. -/
structure RSt where
  s : Nat
  n : Nat
  dg : Nat
  z : Bool
  part : Byt
  acc : List Byt
def stepR (st : RSt) (c : UInt8) : Option RSt :=
  if st.s = 0 ∧ isHex c = true then some { st with s := 1, n := hexV c, dg := 1, z := hexV c == 0, part := [] }
  else if st.s = 1 ∧ isHex c = true ∧ st.dg < 8 ∧ st.z = false then some { st with n := 16 * st.n + hexV c, dg := st.dg + 1 }
  else if st.s = 1 ∧ c = 13 then some { st with s := 2 }
  else if st.s = 2 ∧ c = 10 then some { st with s := if st.z then 4 else 3 }
  else if st.s = 3 ∧ st.part.length < st.n then some { st with part := st.part ++ [c] }
  else if (st.s = 3 ∨ st.s = 4) ∧ c = 13 then some { st with s := 5 }
  else if st.s = 5 ∧ c = 10 ∧ st.z = true then some { st with s := 6 }
  else if st.s = 5 ∧ c = 10 then some { st with s := 0, acc := st.acc ++ [st.part] }
  else none
def runR (st : RSt) : Byt → Option RSt
  | [] => some st
  | c :: t => (stepR st c).bind fun st' => runR st' t
def resR : Option RSt → Option (List Byt × Bool)
  | none => none
  | some st => some (st.acc, st.s == 6)
def st0 : RSt := { s := 0, n := 0, dg := 0, z := false, part := [], acc := [] }
theorem runR_app (st : RSt) : ∀ a b : Byt, runR st (a ++ b) = (runR st a).bind fun st' => runR st' b := by
  intro a
  induction a generalizing st with
  | nil => intro b; rfl
  | cons c t ih =>
    intro b
    show (stepR st c).bind _ = ((stepR st c).bind _).bind _
    cases stepR st c with
    | none => rfl
    | some st' => exact ih st' b

/-- A chunk's line: none: bad; some none: not all there; the number and how many bytes it takes. -/
def digP : Nat → Bool → Nat → Byt → Option (Option (Nat × Nat))
  | _, _, _, [] => some none
  | dg, z, n, c :: t =>
    if c = 13 then (match t with | [] => some none | b :: _ => if b = 10 then some (some (n, dg + 2)) else none)
    else if isHex c = true ∧ dg < 8 ∧ z = false then digP (dg + 1) z (16 * n + hexV c) t else none
def lineP : Byt → Option (Option (Nat × Nat))
  | [] => some none
  | c :: t => if isHex c then digP 1 (hexV c == 0) (hexV c) t else none
def endP : Byt → Option Bool
  | [] => some false
  | [a] => if a = 13 then some false else none
  | a :: b :: _ => if a = 13 ∧ b = 10 then some true else none
/-- What follows a line. -/
def bodyP (n : Nat) (r : Byt) (acc : List Byt) (k : Byt → List Byt → Option (List Byt × Bool)) : Option (List Byt × Bool) :=
  if r.length < n then some (acc, false) else
  match endP (r.drop n) with
  | none => none
  | some whole => if n = 0 ∧ 2 < r.length then none else if whole = false then some (acc, false) else if n = 0 then some (acc, true) else k ((r.drop n).drop 2) (acc ++ [r.take n])
def parseC : Nat → Byt → List Byt → Option (List Byt × Bool)
  | 0, _, acc => some (acc, false)
  | f + 1, l, acc =>
    match l with
    | [] => some (acc, false)
    | c :: t => match lineP (c :: t) with
      | none => none
      | some none => some (acc, false)
      | some (some (n, k)) => bodyP n ((c :: t).drop k) acc (parseC f)

theorem run_part (st : RSt) (hs : st.s = 3) : ∀ (r : Byt), resR (runR st r) =
    if r.length < st.n - st.part.length then some (st.acc, false) else resR (runR { st with part := st.part ++ r.take (st.n - st.part.length) } (r.drop (st.n - st.part.length))) := by
  intro r
  induction r generalizing st with
  | nil =>
    by_cases h : st.n - st.part.length = 0
    · rw [if_neg (by simp; omega), h]
      simp
    · rw [if_pos (by simp; omega)]
      simp [runR, resR, hs]
  | cons c t ih =>
    by_cases h : st.part.length < st.n
    · have hst : stepR st c = some { st with part := st.part ++ [c] } := by
        simp [stepR, hs, h]
      have e : st.n - st.part.length = (st.n - (st.part ++ [c]).length) + 1 := by simp; omega
      show resR ((stepR st c).bind _) = _
      rw [hst, Option.bind_some, ih { st with part := st.part ++ [c] } hs]
      simp only
      rw [e]
      simp only [List.length_cons, Nat.add_lt_add_iff_right, List.take_succ_cons, List.drop_succ_cons]
      split
      · rfl
      · simp
    · have e : st.n - st.part.length = 0 := by omega
      rw [e, if_neg (by omega)]
      simp
theorem digP_ge : ∀ (t : Byt) (dg : Nat) (z : Bool) (n n' k : Nat), digP dg z n t = some (some (n', k)) → dg + 2 ≤ k
  | [], dg, z, n, n', k, e => by simp [digP] at e
  | c :: t, dg, z, n, n', k, e => by
    simp only [digP] at e
    split at e
    · split at e
      · cases e
      · split at e
        · simp only [Option.some.injEq, Prod.mk.injEq] at e; omega
        · cases e
    · split at e
      · have := digP_ge t _ _ _ _ _ e; omega
      · cases e
theorem dig_run (st : RSt) (hs : st.s = 1) : ∀ t : Byt, resR (runR st t) = match digP st.dg st.z st.n t with
    | none => none
    | some none => some (st.acc, false)
    | some (some (n, k)) => resR (runR { st with n := n, s := if st.z then 4 else 3, dg := k - 2 } (t.drop (k - st.dg))) := by
  intro t
  induction t generalizing st with
  | nil => simp [digP, runR, resR, hs]
  | cons c t ih =>
    by_cases h13 : c = 13
    · subst h13
      have h1 : stepR st 13 = some { st with s := 2 } := by
        have : isHex 13 = false := by decide
        simp [stepR, hs, this]
      show resR ((stepR st 13).bind _) = _
      rw [h1, Option.bind_some]
      cases t with
      | nil => simp [digP, runR, resR]
      | cons b t =>
        by_cases hb : b = 10
        · subst hb
          have h2 : stepR { st with s := 2 } 10 = some { st with s := if st.z then 4 else 3 } := by simp [stepR]
          show resR ((stepR { st with s := 2 } 10).bind _) = _
          rw [h2, Option.bind_some]
          simp only [digP, if_true]
          rw [show st.dg + 2 - st.dg = 2 from by omega, show st.dg + 2 - 2 = st.dg from by omega]
          rfl
        · have h2 : stepR { st with s := 2 } b = none := by simp [stepR, hb]
          show resR ((stepR { st with s := 2 } b).bind _) = _
          rw [h2]
          simp [digP, hb, resR]
    · by_cases hd : isHex c = true ∧ st.dg < 8 ∧ st.z = false
      · have h1 : stepR st c = some { st with n := 16 * st.n + hexV c, dg := st.dg + 1 } := by simp [stepR, hs, hd]
        show resR ((stepR st c).bind _) = _
        rw [h1, Option.bind_some, ih { st with n := 16 * st.n + hexV c, dg := st.dg + 1 } hs]
        simp only [digP, if_neg h13, if_pos hd]
        have hk : ∀ n k, digP (st.dg + 1) st.z (16 * st.n + hexV c) t = some (some (n, k)) → k - st.dg = (k - (st.dg + 1)) + 1 := by
          intro n k e
          have := digP_ge t (st.dg + 1) st.z (16 * st.n + hexV c) n k e
          omega
        cases hq : digP (st.dg + 1) st.z (16 * st.n + hexV c) t with
        | none => rfl
        | some o =>
          cases o with
          | none => rfl
          | some p =>
            obtain ⟨n, k⟩ := p
            simp only
            rw [hk n k hq, List.drop_succ_cons]
      · have h1 : stepR st c = none := by
          simp only [stepR, hs]
          simp [h13, hd]
        show resR ((stepR st c).bind _) = _
        rw [h1]
        simp only [digP, if_neg h13, if_neg hd]
        rfl
/-- What a line gives is a number of at most eight digits; it is 0 only for one digit. -/
theorem digP_bound : ∀ (t : Byt) (dg : Nat) (z : Bool) (n n' k : Nat), 1 ≤ dg → dg ≤ 8 → n < 16 ^ dg → (z = true ↔ n = 0) → (z = true → dg = 1) → digP dg z n t = some (some (n', k)) → n' < 16 ^ 8 ∧ (z = true ↔ n' = 0)
  | [], dg, z, n, n', k, _, _, _, _, _, e => by simp [digP] at e
  | c :: t, dg, z, n, n', k, h1, h8, hn, hz, hz1, e => by
    simp only [digP] at e
    split at e
    · split at e
      · cases e
      · split at e
        · simp only [Option.some.injEq, Prod.mk.injEq] at e
          obtain ⟨rfl, _⟩ := e
          exact ⟨Nat.lt_of_lt_of_le hn (Nat.pow_le_pow_right (by decide) h8), hz⟩
        · cases e
    · split at e
      · rename_i hd
        have hv := hexV_lt hd.1
        have hz0 : z = false := hd.2.2
        subst hz0
        have hnp : n ≠ 0 := fun h => by have := hz.2 h; cases this
        refine digP_bound t (dg + 1) false (16 * n + hexV c) n' k (by omega) (by omega) ?_ ⟨(fun h => by cases h), (fun h => by omega)⟩ (fun h => by cases h) e
        rw [Nat.pow_succ]; omega
      · cases e
theorem end_run (st : RSt) (h : st.s = 3 ∧ st.part.length = st.n ∧ st.z = false ∨ st.s = 4 ∧ st.z = true) (e : Byt) :
    resR (runR st e) = match endP e with
      | none => none
      | some whole => if st.z = true ∧ 2 < e.length then none else if whole = false then some (st.acc, false) else if st.z = true then some (st.acc, true) else resR (runR { st with s := 0, acc := st.acc ++ [st.part] } (e.drop 2)) := by
  have hst : ∀ c, stepR st c = if c = 13 then some { st with s := 5 } else none := by
    intro c
    rcases h with ⟨h1, h2, h3⟩ | ⟨h1, h3⟩
    · simp [stepR, h1, h2]
    · simp [stepR, h1]
  have hs6 : (st.s == 6) = false := by
    rcases h with ⟨h1, _⟩ | ⟨h1, _⟩ <;> simp [h1]
  match e with
  | [] => simp [endP, runR, resR, hs6]
  | [a] =>
    show resR ((stepR st a).bind _) = _
    rw [hst]
    by_cases ha : a = 13
    · simp [ha, endP, runR, resR]
    · simp [ha, endP, resR]
  | a :: b :: t =>
    show resR ((stepR st a).bind _) = _
    rw [hst]
    by_cases ha : a = 13
    · subst ha
      rw [if_pos rfl, Option.bind_some]
      show resR ((stepR { st with s := 5 } b).bind _) = _
      by_cases hb : b = 10
      · subst hb
        by_cases hz : st.z = true
        · have h2 : stepR { st with s := 5 } 10 = some { st with s := 6 } := by simp [stepR, hz]
          rw [h2, Option.bind_some]
          cases t with
          | nil => simp [endP, runR, resR, hz]
          | cons x t =>
            show resR ((stepR { st with s := 6 } x).bind _) = _
            have h3 : stepR { st with s := 6 } x = none := by simp [stepR]
            rw [h3]
            simp [endP, resR, hz]
        · have h2 : stepR { st with s := 5 } 10 = some { st with s := 0, acc := st.acc ++ [st.part] } := by simp [stepR, hz]
          rw [h2, Option.bind_some]
          simp [endP, hz]
      · have h2 : stepR { st with s := 5 } b = none := by simp [stepR, hb]
        rw [h2]
        simp [endP, hb, resR]
    · simp [ha, endP, resR]
theorem lineP_ge (c : UInt8) (t : Byt) (n k : Nat) (h : lineP (c :: t) = some (some (n, k))) : 3 ≤ k := by
  simp only [lineP] at h
  split at h
  · have := digP_ge t _ _ _ _ _ h; omega
  · cases h
/-- The two readings are one. -/
theorem parse_run : ∀ (f : Nat) (l : Byt) (st : RSt), l.length ≤ f → st.s = 0 → resR (runR st l) = parseC f l st.acc := by
  intro f
  induction f with
  | zero =>
    intro l st hl hs
    have : l = [] := List.eq_nil_of_length_eq_zero (by omega)
    subst this
    simp [runR, resR, hs, parseC]
  | succ f ih =>
    intro l st hl hs
    cases l with
    | nil => simp [runR, resR, hs, parseC]
    | cons c t =>
      show resR ((stepR st c).bind _) = _
      by_cases hx : isHex c = true
      · have h1 : stepR st c = some { st with s := 1, n := hexV c, dg := 1, z := hexV c == 0, part := [] } := by simp [stepR, hs, hx]
        rw [h1, Option.bind_some, dig_run _ rfl]
        simp only [parseC, lineP, hx, if_true]
        cases hq : digP 1 (hexV c == 0) (hexV c) t with
        | none => rfl
        | some o =>
          cases o with
          | none => rfl
          | some p =>
            obtain ⟨n, k⟩ := p
            have hk := digP_ge t _ _ _ _ _ hq
            have hb := digP_bound t 1 (hexV c == 0) (hexV c) n k (by omega) (by omega) (by have := hexV_lt hx; omega) (by simp) (by simp) hq
            simp only
            have hd : (c :: t).drop k = t.drop (k - 1) := by
              rw [show k = (k - 1) + 1 from by omega, List.drop_succ_cons]
              simp
            rw [hd]
            cases hz : (hexV c == 0) with
            | true =>
              have hn : n = 0 := hb.2.1 hz
              subst hn
              rw [if_pos rfl, end_run _ (.inr ⟨rfl, rfl⟩)]
              unfold bodyP
              simp only [Nat.not_lt_zero, if_false, List.drop_zero, true_and, if_true]
            | false =>
              have hn : n ≠ 0 := fun h => by have := hb.2.2 h; rw [hz] at this; cases this
              rw [if_neg (by decide), run_part _ rfl]
              simp only [List.length_nil, Nat.sub_zero, List.nil_append]
              unfold bodyP
              by_cases hr : (t.drop (k - 1)).length < n
              · rw [if_pos hr, if_pos hr]
              · rw [if_neg hr, if_neg hr, end_run _ (.inl ⟨rfl, by simp only [List.length_take]; omega, rfl⟩)]
                simp only [hn, false_and, if_false, Bool.false_eq_true]
                have hih : ∀ st' : RSt, st'.s = 0 → resR (runR st' (((t.drop (k - 1)).drop n).drop 2)) = parseC f (((t.drop (k - 1)).drop n).drop 2) st'.acc := fun st' h => ih _ st' (by simp only [List.length_drop, List.length_cons] at *; omega) h
                rw [hih _ rfl]
      · have h1 : stepR st c = none := by simp [stepR, hs, hx]
        rw [h1]
        simp [parseC, lineP, hx, resR]
/-- The answer of either. -/
def chunksOf (l : Byt) : Option (List Byt × Bool) := parseC l.length l []
theorem chunks_run (l : Byt) : resR (runR st0 l) = chunksOf l := parse_run l.length l st0 (Nat.le_refl _) rfl
theorem parse_fuel : ∀ (f g : Nat) (l : Byt) (acc : List Byt), l.length ≤ f → l.length ≤ g → parseC f l acc = parseC g l acc := by
  intro f g l acc hf hg
  have h1 := parse_run f l { st0 with acc := acc } hf rfl
  have h2 := parse_run g l { st0 with acc := acc } hg rfl
  exact h1.symm.trans h2
end Go.Proofs.YtknoimflimhcgaaDoor
