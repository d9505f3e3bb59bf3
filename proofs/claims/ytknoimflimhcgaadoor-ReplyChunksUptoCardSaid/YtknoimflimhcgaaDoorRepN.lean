/-
  Plain laws of chunks laid behind one another: they are read as they were; of a beginning, a beginning is; with the last one they are done; nothing may stand behind.
-/
import Derived.Test.YtknoimflimhcgaaDoorRepI
namespace Go.Proofs.YtknoimflimhcgaaDoor

theorem dig_hex {d : Nat} (h : d < 16) : isHex (dig d) = true ∧ hexV (dig d) = d := by
  have key : ∀ k : Fin 16, isHex (dig k.1) = true ∧ hexV (dig k.1) = k.1 := by decide
  exact key ⟨d, h⟩
theorem step_first {st : RSt} {c : UInt8} (hs : st.s = 0) (hc : isHex c = true) : stepR st c = some { st with s := 1, n := hexV c, dg := 1, z := hexV c == 0, part := [] } := by
  simp [stepR, hs, hc]
theorem step_more {st : RSt} {c : UInt8} (hs : st.s = 1) (hc : isHex c = true) (hd : st.dg < 8) (hz : st.z = false) : stepR st c = some { st with n := 16 * st.n + hexV c, dg := st.dg + 1 } := by
  simp [stepR, hs, hc, hd, hz]
theorem step_cr {st : RSt} (hs : st.s = 1) : stepR st 13 = some { st with s := 2 } := by
  have : isHex 13 = false := by decide
  simp [stepR, hs, this]
theorem step_lf {st : RSt} (hs : st.s = 2) : stepR st 10 = some { st with s := if st.z then 4 else 3 } := by
  simp [stepR, hs]
theorem step_byte {st : RSt} {c : UInt8} (hs : st.s = 3) (h : st.part.length < st.n) : stepR st c = some { st with part := st.part ++ [c] } := by
  simp [stepR, hs, h]
theorem step_cr' {st : RSt} (hs : st.s = 3) (h : st.n ≤ st.part.length) : stepR st 13 = some { st with s := 5 } := by
  have : ¬ st.part.length < st.n := by omega
  simp [stepR, hs, this]
theorem step_cr4 {st : RSt} (hs : st.s = 4) : stepR st 13 = some { st with s := 5 } := by
  simp [stepR, hs]
theorem step_end {st : RSt} (hs : st.s = 5) (hz : st.z = false) : stepR st 10 = some { st with s := 0, acc := st.acc ++ [st.part] } := by
  simp [stepR, hs, hz]
theorem step_done {st : RSt} (hs : st.s = 5) (hz : st.z = true) : stepR st 10 = some { st with s := 6 } := by
  simp [stepR, hs, hz]
theorem step_none {st : RSt} (c : UInt8) (hs : st.s = 6) : stepR st c = none := by
  simp [stepR, hs]
theorem runR_one (st : RSt) (c : UInt8) (t : Byt) : runR st (c :: t) = (stepR st c).bind fun st' => runR st' t := rfl

/-- The digits of a size. -/
theorem run_hex : ∀ (k n : Nat) (st : RSt), st.s = 0 → 0 < n → n < 16 ^ (k + 1) → k < 8 →
    ∃ dg, 1 ≤ dg ∧ dg ≤ k + 1 ∧ runR st (hexD n) = some { st with s := 1, n := n, dg := dg, z := false, part := [] } := by
  intro k
  induction k with
  | zero =>
    intro n st hs h0 hn _
    have hd := dig_hex (d := n) (by omega)
    refine ⟨1, by omega, by omega, ?_⟩
    rw [hexD_small (by omega), runR_one, step_first hs hd.1, hd.2]
    have : (n == 0) = false := by simp; omega
    rw [this]
    rfl
  | succ k ih =>
    intro n st hs h0 hn hk
    have hlim : n < 16 ^ 16 := Nat.lt_of_lt_of_le hn (Nat.pow_le_pow_right (by decide) (by omega))
    by_cases hsm : n < 16
    · obtain ⟨dg, h1, h2, h3⟩ := ih n st hs h0 (by
        refine Nat.lt_of_lt_of_le hsm ?_
        have := Nat.pow_le_pow_right (n := 16) (by decide) (show 1 ≤ k + 1 by omega)
        simpa using this) (by omega)
      exact ⟨dg, h1, by omega, h3⟩
    · obtain ⟨dg, h1, h2, h3⟩ := ih (n / 16) st hs (by omega) (by rw [Nat.pow_succ] at hn; omega) (by omega)
      have hd := dig_hex (d := n % 16) (by omega)
      refine ⟨dg + 1, by omega, by omega, ?_⟩
      rw [hexD_big (by omega) hlim, runR_app, h3, Option.bind_some, runR_one, step_more rfl hd.1 (by show dg < 8; omega) rfl, hd.2]
      have : 16 * (n / 16) + n % 16 = n := by omega
      simp only [this]
      rfl
theorem run_bytes : ∀ (p : Byt) (st : RSt), st.s = 3 → st.part.length + p.length = st.n → runR st p = some { st with part := st.part ++ p }
  | [], st, _, _ => by simp [runR]
  | c :: p, st, hs, h => by
    simp only [List.length_cons] at h
    rw [runR_one, step_byte hs (by omega), Option.bind_some, run_bytes p { st with part := st.part ++ [c] } hs (by simp; omega)]
    simp
/-- One chunk. -/
theorem run_chunk (p : Byt) (st : RSt) (hs : st.s = 0) (hp : p.length < 16 ^ 8) : ∃ st', runR st (chunkOf p) = some st' ∧ st'.s = 0 ∧ st'.acc = st.acc ++ (if p = [] then [] else [p]) := by
  by_cases h0 : p = []
  · subst h0
    exact ⟨st, rfl, hs, by simp⟩
  · have hl : 0 < p.length := List.length_pos_iff.2 h0
    obtain ⟨dg, _, _, h3⟩ := run_hex 7 p.length st hs hl hp (by omega)
    unfold chunkOf
    rw [if_neg h0, if_neg h0, runR_app, runR_app, runR_app, h3, Option.bind_some]
    rw [runR_one, step_cr rfl, Option.bind_some, runR_one, step_lf rfl, Option.bind_some]
    simp only [runR, Option.bind_some, Bool.false_eq_true, if_false]
    rw [run_bytes p _ rfl (by simp), Option.bind_some]
    simp only [List.nil_append]
    rw [step_cr' rfl (by simp), Option.bind_some, step_end rfl rfl]
    exact ⟨_, rfl, rfl, rfl⟩
/-- The parts that are not empty. -/
def fullOf (L : List Byt) : List Byt := L.filter fun p => !p.isEmpty
def allOf (L : List Byt) : Byt := L.flatMap chunkOf
theorem fullOf_snoc (L : List Byt) (p : Byt) : fullOf (L ++ [p]) = fullOf L ++ (if p = [] then [] else [p]) := by
  unfold fullOf
  rw [List.filter_append]
  cases p <;> simp
theorem allOf_snoc (L : List Byt) (p : Byt) : allOf (L ++ [p]) = allOf L ++ chunkOf p := by simp [allOf]
theorem run_all : ∀ (L : List Byt) (st : RSt), st.s = 0 → (∀ p ∈ L, p.length < 16 ^ 8) → ∃ st', runR st (allOf L) = some st' ∧ st'.s = 0 ∧ st'.acc = st.acc ++ fullOf L
  | [], st, hs, _ => ⟨st, rfl, hs, by simp [fullOf]⟩
  | p :: L, st, hs, h => by
    obtain ⟨s1, h1, h2, h3⟩ := run_chunk p st hs (h p (by simp))
    obtain ⟨s2, k1, k2, k3⟩ := run_all L s1 h2 (fun q hq => h q (by simp [hq]))
    refine ⟨s2, ?_, k2, ?_⟩
    · show runR st (chunkOf p ++ allOf L) = some s2
      rw [runR_app, h1, Option.bind_some, k1]
    · rw [k3, h3]
      unfold fullOf
      cases p <;> simp
theorem step_acc {st st' : RSt} {c : UInt8} (h : stepR st c = some st') : st.acc <+: st'.acc := by
  unfold stepR at h
  repeat' split at h
  all_goals first | (cases h; done) | (simp only [Option.some.injEq] at h; subst h; exact List.prefix_refl _) | (simp only [Option.some.injEq] at h; subst h; exact List.prefix_append _ _)
theorem run_acc : ∀ (l : Byt) {st st' : RSt}, runR st l = some st' → st.acc <+: st'.acc
  | [], st, st', h => by
    obtain rfl := Option.some.inj h
    exact List.prefix_refl _
  | c :: l, st, st', h => by
    rw [runR_one] at h
    cases hs : stepR st c with
    | none => rw [hs] at h; cases h
    | some s1 =>
      rw [hs] at h
      exact (step_acc hs).trans (run_acc l h)
/-- THE LAWS. -/
theorem chunks_all {L : List Byt} (h : ∀ p ∈ L, p.length < 16 ^ 8) : chunksOf (allOf L) = some (fullOf L, false) := by
  obtain ⟨s1, h1, h2, h3⟩ := run_all L st0 rfl h
  rw [← chunks_run, h1]
  simp [resR, h2, h3, st0]
theorem chunks_cut {L : List Byt} (h : ∀ p ∈ L, p.length < 16 ^ 8) (k : Nat) : ∃ M, chunksOf ((allOf L).take k) = some (M, false) ∧ M <+: fullOf L := by
  obtain ⟨s1, h1, h2, h3⟩ := run_all L st0 rfl h
  have e : runR st0 ((allOf L).take k ++ (allOf L).drop k) = some s1 := by rw [List.take_append_drop]; exact h1
  rw [runR_app] at e
  cases hm : runR st0 ((allOf L).take k) with
  | none => rw [hm] at e; cases e
  | some sm =>
    rw [hm, Option.bind_some] at e
    refine ⟨sm.acc, ?_, ?_⟩
    · rw [← chunks_run, hm]
      have : sm.s ≠ 6 := fun h6 => by
        cases hd : (allOf L).drop k with
        | nil =>
          rw [hd] at e
          obtain rfl := Option.some.inj e
          omega
        | cons c t =>
          rw [hd, runR_one, step_none c h6] at e
          cases e
      simp [resR, this]
    · have := run_acc _ e
      rw [h3] at this
      simpa [st0] using this
theorem run_last {L : List Byt} (h : ∀ p ∈ L, p.length < 16 ^ 8) : ∃ s1, runR st0 (allOf L ++ lastB) = some s1 ∧ s1.s = 6 ∧ s1.acc = fullOf L := by
  obtain ⟨s1, h1, h2, h3⟩ := run_all L st0 rfl h
  rw [runR_app, h1, Option.bind_some]
  have hx : isHex 48 = true := by decide
  have hv : hexV 48 = 0 := by decide
  show ∃ s2, runR s1 [48, 13, 10, 13, 10] = some s2 ∧ _
  rw [runR_one, step_first h2 hx, Option.bind_some, runR_one, step_cr rfl, Option.bind_some, runR_one, step_lf rfl, Option.bind_some, hv]
  rw [runR_one, step_cr4 rfl, Option.bind_some, runR_one, step_done rfl rfl, Option.bind_some]
  exact ⟨_, rfl, rfl, by simp [h3, st0]⟩
theorem chunks_last {L : List Byt} (h : ∀ p ∈ L, p.length < 16 ^ 8) : chunksOf (allOf L ++ lastB) = some (fullOf L, true) := by
  obtain ⟨s1, h1, h2, h3⟩ := run_last h
  rw [← chunks_run, h1]
  simp [resR, h2, h3]
theorem chunks_more {L : List Byt} (h : ∀ p ∈ L, p.length < 16 ^ 8) (c : UInt8) : chunksOf (allOf L ++ lastB ++ [c]) = none := by
  obtain ⟨s1, h1, h2, h3⟩ := run_last h
  rw [← chunks_run, runR_app, h1, Option.bind_some, runR_one, step_none c h2]
  rfl
theorem chunk_len (p : Byt) : (chunkOf p).length ≤ p.length + 21 := by
  unfold chunkOf
  split
  · simp
  · have := hexD_len p.length
    simp
    omega
end Go.Proofs.YtknoimflimhcgaaDoor
