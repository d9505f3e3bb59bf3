/-
  The document's JSON reader: escapes, plainly; a rune's bytes, whatever it is.
-/
import Derived.Test.YtljnbbdhmlfhjaaGreatDoorJfOne
import Derived.Test.YtljnbbdhmlfhjaaGreatDoorJsF
import Derived.Test.YtljnbbdhmlfhjaaGreatDoorUtfAll
import Derived.Test.YtljnbbdhmlfhjaaGreatDoorJsTwo
namespace Go.Proofs.YtljnbbdhmlfhjaaGreatDoor
open Go.RowKit
/-- What an escape that is no plain one leaves. -/
def lowF (n : Nat) (x : Nat × Bs × Bool) : Nat × Bs × Bool := (65536 + (n - 55296) * 1024 + x.1 - 56320, x.2.1, x.2.2 || (decide (x.1 < 56320) || decide (57343 < x.1)))
def surF (x : Nat × Bs × Bool) : Nat × Bs × Bool :=
  if 55296 ≤ x.1 ∧ x.1 < 56320 then lowF x.1 (fourF (isF 92 x.2.1) (x.2.2 || !hasB 92 x.2.1))
  else (x.1, x.2.1, x.2.2 || (decide (56320 ≤ x.1) && decide (x.1 < 57344)))
def escF (s : Bs) (bad : Bool) : Nat × Bs × Bool := surF (fourF s bad)
theorem four_lt4 (s : Bs) (bad : Bool) : (fourF s bad).1 ≤ 65535 := by have := fourF_lt s bad; omega
theorem surF_bad (n : Nat) (r : Bs) : (surF (n, r, true)).2.2 = true := by
  unfold surF
  split
  · unfold lowF
    simp only [Bool.true_or, fourF_bad]
  · simp
theorem escF_P {s : Bs} (hp : ∀ c r, s = c :: r → plainE c = none) (bad : Bool) : match escP s with
    | some (b, r) => ∃ m, escF s bad = (m, r, bad) ∧ b = encR m ∧ scalar m
    | none => (escF s bad).2.2 = true := by
  have h4 := four_F s bad
  have e : escP s = match hexP s with
      | none => none
      | some (n, r') => if 55296 ≤ n ∧ n ≤ 56319 then lowP n r' else if 56320 ≤ n ∧ n ≤ 57343 then none else some (encR n, r') := by
    cases s with
    | nil => rfl
    | cons c r =>
      unfold escP
      simp only [hp c r rfl]
      cases hexP (c :: r) <;> rfl
  rw [e]
  unfold escF
  cases hh : hexP s with
  | none =>
    rw [hh] at h4
    simp only [] at h4 ⊢
    obtain ⟨n, r, b, hx⟩ : ∃ n r b, fourF s bad = (n, r, b) := ⟨_, _, _, rfl⟩
    rw [hx] at h4 ⊢
    obtain rfl : b = true := h4
    exact surF_bad n r
  | some y =>
    obtain ⟨n, r⟩ := y
    rw [hh] at h4
    simp only [] at h4 ⊢
    rw [h4]
    obtain ⟨-, -, hn⟩ := hex_inv hh
    by_cases hs : 55296 ≤ n ∧ n ≤ 56319
    · rw [if_pos hs]
      have hs' : 55296 ≤ n ∧ n < 56320 := by omega
      unfold surF
      simp only []
      rw [if_pos hs']
      cases r with
      | nil =>
        simp only [lowP]
        unfold lowF
        simp only [hasB, isF, Bool.not_false, Bool.or_true, fourF_bad, Bool.true_or]
      | cons d r =>
        by_cases hd : d = 92
        · subst hd
          have e1 : hasB 92 (92 :: r) = true := by simp [hasB]
          have e2 : isF 92 (92 :: r) = r := by simp [isF]
          rw [e1, e2, Bool.not_true, Bool.or_false]
          have h5 := four_F r bad
          simp only [lowP, if_true]
          cases hh2 : hexP r with
          | none =>
            rw [hh2] at h5
            unfold lowF
            simp only [] at h5 ⊢
            rw [h5, Bool.true_or]
          | some y =>
            obtain ⟨m, r2⟩ := y
            rw [hh2] at h5
            simp only [] at h5 ⊢
            obtain ⟨-, -, hm⟩ := hex_inv hh2
            by_cases hl : 56320 ≤ m ∧ m ≤ 57343
            · rw [if_pos hl]
              refine ⟨65536 + (n - 55296) * 1024 + (m - 56320), ?_, rfl, ?_⟩
              · unfold lowF
                rw [h5]
                simp only []
                rw [decide_eq_false (by omega), decide_eq_false (by omega), show 65536 + (n - 55296) * 1024 + m - 56320 = 65536 + (n - 55296) * 1024 + (m - 56320) by omega]
                simp
              · unfold scalar; omega
            · rw [if_neg hl]
              unfold lowF
              rw [h5]
              simp only []
              by_cases h1 : m < 56320
              · rw [decide_eq_true h1]; simp
              · rw [decide_eq_true (show 57343 < m by omega)]; simp
        · have e1 : hasB 92 (d :: r) = false := by simp [hasB, hd]
          simp only [lowP, if_neg hd]
          unfold lowF
          rw [e1]
          simp only [Bool.not_false, Bool.or_true, fourF_bad, Bool.true_or]
    · rw [if_neg hs]
      have hs' : ¬ (55296 ≤ n ∧ n < 56320) := by omega
      unfold surF
      simp only []
      rw [if_neg hs']
      by_cases h2 : 56320 ≤ n ∧ n ≤ 57343
      · rw [if_pos h2]
        simp only []
        rw [decide_eq_true h2.1, decide_eq_true (show n < 57344 by omega)]
        simp
      · rw [if_neg h2]
        have : (decide (56320 ≤ n) && decide (n < 57344)) = false := by
          rw [Bool.and_eq_false_iff, decide_eq_false_iff_not, decide_eq_false_iff_not]
          omega
        rw [this, Bool.or_false]
        refine ⟨n, rfl, rfl, ?_⟩
        unfold scalar
        omega
theorem surF_tl (s : Bs) (x : Nat × Bs × Bool) (h : Tl s x.2.1) : Tl s (surF x).2.1 := by
  unfold surF
  split
  · unfold lowF
    exact h.trans ((tl_isF 92 x.2.1).trans (fourF_tl (isF 92 x.2.1) (x.2.2 || !hasB 92 x.2.1)))
  · exact h
theorem escF_tl (s : Bs) (bad : Bool) : Tl s (escF s bad).2.1 := surF_tl s _ (fourF_tl s bad)
/-- What of the eight escapes of one sign fits. -/
def escFrom : Bs := [34, 92, 47, 98, 102, 110, 114, 116]
def escTo : Bs := [34, 92, 47, 8, 12, 10, 13, 9]
def mtc : Bs → Bs → UInt8 → Bs
  | f :: fs, t :: ts, c => (if f = c then [t] else []) ++ mtc fs ts c
  | _, _, _ => []
theorem mtc_plain (c : UInt8) : mtc escFrom escTo c = (match plainE c with
    | some b => [b]
    | none => []) := by
  unfold plainE
  simp only [escFrom, escTo, mtc]
  by_cases h1 : c = 34
  · subst h1; rfl
  by_cases h2 : c = 92
  · subst h2; rfl
  by_cases h3 : c = 47
  · subst h3; rfl
  by_cases h4 : c = 98
  · subst h4; rfl
  by_cases h5 : c = 102
  · subst h5; rfl
  by_cases h6 : c = 110
  · subst h6; rfl
  by_cases h7 : c = 114
  · subst h7; rfl
  by_cases h8 : c = 116
  · subst h8; rfl
  have n : ∀ d : UInt8, c ≠ d → ¬ d = c := fun d h e => h e.symm
  rw [if_neg h1, if_neg h2, if_neg h3, if_neg h4, if_neg h5, if_neg h6, if_neg h7, if_neg h8, if_neg (n _ h1), if_neg (n _ h2), if_neg (n _ h3), if_neg (n _ h4), if_neg (n _ h5), if_neg (n _ h6), if_neg (n _ h7), if_neg (n _ h8)]
  rfl
theorem mtc_cons {f t : UInt8} {fs ts : Bs} {c : UInt8} : mtc (f :: fs) (t :: ts) c = (if f = c then [t] else []) ++ mtc fs ts c := rfl
theorem cells_ofInts (zs : List Int) (h : ∀ z ∈ zs, 0 ≤ z ∧ z ≤ 255) : zs.map (fun z => Value.int .u8 z) = Lib.byteCells (zs.map fun z => UInt8.ofNat z.toNat) := by
  induction zs with
  | nil => rfl
  | cons z zs ih =>
    have h1 := h z (by simp)
    have e : ((UInt8.ofNat z.toNat).toNat : Int) = z := by rw [UInt8.toNat_ofNat']; omega
    have ih' := ih fun y hy => h y (by simp [hy])
    rw [List.map_cons, List.map_cons, ih']
    simp only [Lib.byteCells, List.map_cons]
    rw [e]
set_option maxRecDepth 100000 in
set_option maxHeartbeats 1000000 in
/-- Bytes, whatever the rune. -/
theorem ref_BytesW (r : Int) (h0 : 0 ≤ r) (hm : r ≤ 1122303) (w : World) :
    Calls Tryz.prog 134 #[.int .i32 r] w fun e w' => ∃ v, e = .returned v ∧ ∃ l, w'.ownsRow w.heap.size 5 1 v l.length (Lib.byteCells l) ∧ l.length ≤ 4 ∧ Below w.heap.size w w' := by
  by_cases h1 : r < 128
  · go_enter Tryz.func134, Tryz.ntmps134
    go_wp2
    go_ret
    have hz : ∀ z ∈ [r], 0 ≤ z ∧ z ≤ 255 := by intro z hz; simp only [List.mem_cons, List.not_mem_nil, or_false] at hz; omega
    refine ⟨_, rfl, [r].map fun z => UInt8.ofNat z.toNat, ?_, by simp, (Below.refl _ _).alloc (Nat.le_refl _) _⟩
    rw [← cells_ofInts _ hz]
    exact owns_new _ _ _ _ rfl (by decide)
  by_cases h2 : r < 2048
  · go_enter Tryz.func134, Tryz.ntmps134
    go_wp2
    go_ret
    have hz : ∀ z ∈ [192 + r / 64, 128 + r % 64], 0 ≤ z ∧ z ≤ 255 := by intro z hz; simp only [List.mem_cons, List.not_mem_nil, or_false] at hz; omega
    refine ⟨_, rfl, [192 + r / 64, 128 + r % 64].map fun z => UInt8.ofNat z.toNat, ?_, by simp, (Below.refl _ _).alloc (Nat.le_refl _) _⟩
    rw [← cells_ofInts _ hz]
    exact owns_new _ _ _ _ rfl (by decide)
  by_cases h3 : r < 65536
  · go_enter Tryz.func134, Tryz.ntmps134
    go_wp2
    go_ret
    have hz : ∀ z ∈ [224 + r / 4096, 128 + r / 64 % 64, 128 + r % 64], 0 ≤ z ∧ z ≤ 255 := by intro z hz; simp only [List.mem_cons, List.not_mem_nil, or_false] at hz; omega
    refine ⟨_, rfl, [224 + r / 4096, 128 + r / 64 % 64, 128 + r % 64].map fun z => UInt8.ofNat z.toNat, ?_, by simp, (Below.refl _ _).alloc (Nat.le_refl _) _⟩
    rw [← cells_ofInts _ hz]
    exact owns_new _ _ _ _ rfl (by decide)
  · go_enter Tryz.func134, Tryz.ntmps134
    go_wp2
    go_ret
    have hz : ∀ z ∈ [240 + r / 262144, 128 + r / 4096 % 64, 128 + r / 64 % 64, 128 + r % 64], 0 ≤ z ∧ z ≤ 255 := by intro z hz; simp only [List.mem_cons, List.not_mem_nil, or_false] at hz; omega
    refine ⟨_, rfl, [240 + r / 262144, 128 + r / 4096 % 64, 128 + r / 64 % 64, 128 + r % 64].map fun z => UInt8.ofNat z.toNat, ?_, by simp, (Below.refl _ _).alloc (Nat.le_refl _) _⟩
    rw [← cells_ofInts _ hz]
    exact owns_new _ _ _ _ rfl (by decide)
/-- .. and of a scalar, its encoding. -/
theorem ref_BytesU (m : Nat) (hm : m ≤ 1122303) (w : World) :
    Calls Tryz.prog 134 #[.int .i32 (m : Int)] w fun e w' => ∃ v, e = .returned v ∧ ∃ l, w'.ownsRow w.heap.size 5 1 v l.length (Lib.byteCells l) ∧ l.length ≤ 4 ∧ (scalar m → l = encR m) ∧ Below w.heap.size w w' := by
  by_cases hs : scalar m
  · refine (ref_Bytes (m : Int) (by omega) (by unfold scalar at hs; omega) (by unfold scalar at hs; omega) w).mono ?_
    rintro e w' ⟨v, rfl, ho, hb⟩
    rw [show Lib.runeCells (m : Int) = Lib.byteCells (encR m) from (Lib.byteCells_encodeRune m).symm] at ho
    exact ⟨v, rfl, encR m, by simpa [Lib.byteCells] using ho, (encR_len m).2, fun _ => rfl, hb⟩
  · refine (ref_BytesW (m : Int) (by omega) (by omega) w).mono ?_
    rintro e w' ⟨v, rfl, l, ho, hl, hb⟩
    exact ⟨v, rfl, l, ho, hl, fun h => absurd h hs, hb⟩
end Go.Proofs.YtljnbbdhmlfhjaaGreatDoor
/-
  The document's JSON reader: Text.
-/
namespace Go.Proofs.YtljnbbdhmlfhjaaGreatDoor
open Go.RowKit
/-- A text under way: what it has in a row of the call's own, what is to come. -/
structure TzS (S : Bs) (w0 : World) (p : Nat) (w : World) (v : Value) (l s : Bs) (deep most : Nat) (bad : Bool) : Prop where
  plt : p < w0.heap.size
  own : w.ownsRow w0.heap.size 5 1 v l.length (Lib.byteCells l)
  st : ZS S w p s deep most bad
  gr : w0.grownBy w (some p)
theorem TzS.to {S : Bs} {w0 w w' : World} {p : Nat} {v : Value} {l s s' : Bs} {deep most : Nat} {bad bad' : Bool} (h : TzS S w0 p w v l s deep most bad) (hj : ZS S w' p s' deep most bad') (hg : w.grownBy w' (some p)) : TzS S w0 p w' v l s' deep most bad' :=
  ⟨h.plt, own_keptJ h.own hg (fun k hk => by cases hk; exact h.plt), hj, h.gr.trans hg⟩
theorem TzS.below {S : Bs} {w0 w w' : World} {p : Nat} {v : Value} {l s : Bs} {deep most : Nat} {bad : Bool} (h : TzS S w0 p w v l s deep most bad) (hb : Below w.heap.size w w') : TzS S w0 p w' v l s deep most bad :=
  h.to (h.st.keptB hb) (grown_of_below hb _)
/-- The row grows. -/
theorem TzS.put {S : Bs} {w0 w w9 : World} {p : Nat} {v v9 : Value} {l b s : Bs} {deep most n9 : Nat} {bad : Bool} {cs : List Value} (h : TzS S w0 p w v l s deep most bad) (hg : w.grownBy w9 v.ownBlock) (ho : w9.ownsRow w0.heap.size 5 1 v9 n9 cs)
    (hn : n9 = l.length + b.length) (hc : cs = Lib.byteCells l ++ Lib.byteCells b) : TzS S w0 p w9 v9 (l ++ b) s deep most bad := by
  have hlt : ∀ k, v.ownBlock = some k → p < k := fun k hk => by have := (h.own.lt k hk).1; have := h.plt; omega
  have hg0 : w0.grownBy w9 (some p) := grown_off h.gr hg (fun k hk => (h.own.lt k hk).1)
  subst hn hc
  exact ⟨h.plt, by rw [List.length_append, byteCells_append]; exact ho, h.st.kept hg hlt, hg0⟩
theorem TzS.alloc {S : Bs} {w0 w : World} {p : Nat} {v : Value} {l s : Bs} {deep most : Nat} {bad : Bool} (h : TzS S w0 p w v l s deep most bad) (o : Obj) : TzS S w0 p (w.alloc o) v l s deep most bad :=
  h.below (belowAJ (Below.refl _ _) (Nat.le_refl _))
theorem mt_step (c : UInt8) : ∀ j, j < 8 → mtc (escFrom.take (j + 1)) (escTo.take (j + 1)) c = mtc (escFrom.take j) (escTo.take j) c ++ (if eK j = c then [eV j] else []) := by
  intro j hj
  rcases (by omega : j = 0 ∨ j = 1 ∨ j = 2 ∨ j = 3 ∨ j = 4 ∨ j = 5 ∨ j = 6 ∨ j = 7) with rfl | rfl | rfl | rfl | rfl | rfl | rfl | rfl <;>
    simp only [escFrom, escTo, List.take_succ_cons, List.take_zero, mtc, eK, eV, List.getD_cons_zero, List.getD_cons_succ, List.append_nil, List.nil_append, List.append_assoc]
theorem from_eq {j : Nat} (h : j < 8) : (⟨#[34, 92, 47, 98, 102, 110, 114, 116]⟩ : ByteArray)[j]'h = eK j := by
  rcases (by omega : j = 0 ∨ j = 1 ∨ j = 2 ∨ j = 3 ∨ j = 4 ∨ j = 5 ∨ j = 6 ∨ j = 7) with rfl | rfl | rfl | rfl | rfl | rfl | rfl | rfl <;> rfl
theorem to_eq {j : Nat} (h : j < 8) : (⟨#[34, 92, 47, 8, 12, 10, 13, 9]⟩ : ByteArray)[j]'h = eV j := by
  rcases (by omega : j = 0 ∨ j = 1 ∨ j = 2 ∨ j = 3 ∨ j = 4 ∨ j = 5 ∨ j = 6 ∨ j = 7) with rfl | rfl | rfl | rfl | rfl | rfl | rfl | rfl <;> rfl
theorem from_beq {j : Nat} (h : j < 8) (c : UInt8) (y : Int) (hy : (c.toNat : Int) = y) : ((((⟨#[34, 92, 47, 98, 102, 110, 114, 116]⟩ : ByteArray)[j]'h).toNat : Int) == y) = decide (eK j = c) := by
  rw [from_eq h, ← hy, Bool.eq_iff_iff, beq_iff_eq, decide_eq_true_eq]
  exact ⟨fun h => UInt8.toNat_inj.1 (by omega), fun h => by rw [h]⟩
def hdB : Bs → UInt8
  | [] => 0
  | c :: _ => c
theorem hdB_N (r : Bs) : (headN r : Int) = ((hdB r).toNat : Int) := by
  cases r <;> rfl
theorem hdB_plain {r : Bs} {b : UInt8} (h : plainE (hdB r) = some b) : r = hdB r :: r.drop 1 := by
  cases r with
  | nil =>
    have : plainE 0 = none := rfl
    rw [show hdB [] = 0 from rfl, this] at h
    cases h
  | cons c r => rfl
theorem mtc_eight (c : UInt8) : mtc (escFrom.take 8) (escTo.take 8) c = (match plainE c with
    | some b => [b]
    | none => []) := by
  exact mtc_plain c
/-- What Text leaves. -/
def TextF (S : Bs) (p : Nat) (w : World) (s : Bs) (deep most : Nat) (X : Option (Bs × Bs)) (e : Ending) (w' : World) : Prop :=
  ∃ (T r : Bs) (b : Bool), e = .returned (.string ⟨T.toArray⟩) ∧ ZS S w' p r deep most b ∧ w.grownBy w' (some p) ∧ Tl s r ∧ T.length + r.length ≤ s.length + 4 ∧ (match X with
    | some (t, r0) => T = t ∧ r = r0 ∧ b = false
    | none => b = true)
theorem TzS.ends {S : Bs} {w w' : World} {p : Nat} {v : Value} {l s r : Bs} {deep most : Nat} {b : Bool} {X : Option (Bs × Bs)} (h : TzS S w p w' v l r deep most b) (ht : Tl s r) (hl : l.length + r.length ≤ s.length + 4) (hX : match X with
    | some (t, r0) => l = t ∧ r = r0 ∧ b = false
    | none => b = true) : TextF S p w s deep most X (.returned (.string ⟨l.toArray⟩)) w' := ⟨l, r, b, rfl, h.st, h.gr, ht, hl, hX⟩
theorem TzS.conv {S : Bs} {w w' : World} {p : Nat} {v : Value} {l r : Bs} {deep most : Nat} {b : Bool} (h : TzS S w p w' v l r deep most b) : (convert 22 9 v).run Tryz.prog w' = .ok (.string ⟨l.toArray⟩) w' := conv_owned Tryz.underlying22 Tryz.underlying5 Tryz.underlying9 h.own
/-- The loop's relation. -/
structure TzL (S : Bs) (w : World) (p : Nat) (s : Bs) (deep most : Nat) (X : Option (Bs × Bs)) (gk : Nat) (v : Value) (wr : World) (acc s' : Bs) (b : Bool) : Prop where
  ts : TzS S w p wr v acc s' deep most b
  tl : Tl s s'
  len : acc.length + s'.length ≤ s.length + (if b then 4 else 0)
  good : b = false → addS acc (strL gk s') = X ∧ s'.length < gk
  bads : b = true → X = none
theorem esc_rel {S : Bs} {w we : World} {p : Nat} {s acc r r' l : Bs} {deep most k m : Nat} {X : Option (Bs × Bs)} {v9 : Value} {b' : Bool} (hX : addS acc (match escP r with
      | none => none
      | some (b, r') => addS b (strL k r')) = X) (hp : plainE (hdB r) = none) (hY : escF r false = (m, r', b')) (hgk : r.length < k) (hlen : acc.length + r.length ≤ s.length) (htl : Tl s r) (hT : TzS S w p we v9 (acc ++ l) r' deep most b') (hl4 : l.length ≤ 4) (hsc : scalar m → l = encR m) :
    ∃ acc s' b, TzL S w p s deep most X k v9 we acc s' b := by
  have hps : ∀ c r', r = c :: r' → plainE c = none := fun c r' e => by rw [e] at hp; exact hp
  have h := escF_P hps false
  have htl2 : Tl r r' := by have := escF_tl r false; rw [hY] at this; exact this
  refine ⟨_, _, _, hT, htl.trans htl2, ?_, ?_, ?_⟩
  · have := htl2.len
    rw [List.length_append]
    cases hb : b' with
    | true => simp only [if_true]; omega
    | false =>
      rw [if_neg Bool.false_ne_true]
      subst hb
      cases he : escP r with
      | none =>
        rw [he] at h
        simp only [hY] at h
        cases h
      | some y =>
        obtain ⟨b, r2⟩ := y
        rw [he] at h
        obtain ⟨m2, h1, rfl, h3⟩ := h
        rw [hY] at h1
        cases h1
        have := (esc_inv he).1
        rw [hsc h3]
        omega
  · intro hb
    subst hb
    cases he : escP r with
    | none =>
      rw [he] at h
      simp only [hY] at h
      cases h
    | some y =>
      obtain ⟨b, r2⟩ := y
      rw [he] at h hX
      obtain ⟨m2, h1, rfl, h3⟩ := h
      rw [hY] at h1
      cases h1
      have := (esc_inv he).2.1
      rw [hsc h3]
      simp only [addS_add] at hX
      exact ⟨hX, by omega⟩
  · intro hb
    subst hb
    cases he : escP r with
    | none => rw [← hX, he]; rfl
    | some y =>
      obtain ⟨b, r2⟩ := y
      rw [he] at h
      obtain ⟨m2, h1, -⟩ := h
      rw [hY] at h1
      cases h1
theorem TzL.any {S : Bs} {w : World} {p : Nat} {s : Bs} {deep most : Nat} {X : Option (Bs × Bs)} {gk : Nat} {v : Value} {wr : World} {acc s' : Bs} (h : TzL S w p s deep most X gk v wr acc s' true) (g : Nat) : TzL S w p s deep most X g v wr acc s' true :=
  ⟨h.ts, h.tl, h.len, fun e => (by cases e), h.bads⟩
theorem TzL.fin {S : Bs} {w : World} {p : Nat} {s : Bs} {deep most : Nat} {X : Option (Bs × Bs)} {gk : Nat} {v : Value} {wr : World} {acc s' : Bs} (h : TzL S w p s deep most X gk v wr acc s' true) : TextF S p w s deep most X (.returned (.string ⟨acc.toArray⟩)) wr := by
  have hX := h.bads rfl
  subst hX
  exact h.ts.ends h.tl h.len rfl
set_option maxRecDepth 100000 in
set_option maxHeartbeats 20000000 in
theorem z_text (S : Bs) (p : Nat) (w : World) (s : Bs) (deep most : Nat) (bad : Bool) (hS : S.length ≤ 1099511627776) (h : ZS S w p s deep most bad) :
    Calls Tryz.prog 103 #[.pointer (some ⟨p, 0, none⟩)] w (TextF S p w s deep most (if bad then none else textP s)) := by
  have E8 : ElemT Tryz.prog 22 5 (.int .u8 0) 1 1 := ⟨Tryz.underlying22, by kernel_rfl, rfl, by decide⟩
  have hpw := h.lt
  have hsl := h.len
  have HS := Lib.hid hS
  have CI := z_isZ 34 34 rfl S p w s deep most bad hS h
  obtain ⟨X, hX⟩ : ∃ X, (if bad then none else textP s) = X := ⟨_, rfl⟩
  rw [hX]
  have hst : (hasB 34 s = true → bad = false → strL ((isF 34 s).length + 1) (isF 34 s) = X) ∧ (hasB 34 s = false → X = none) ∧ (bad = true → X = none) := by
    refine ⟨fun h1 h2 => ?_, fun h1 => ?_, fun h2 => ?_⟩
    · rw [← hX, h2, if_neg Bool.false_ne_true, (isF_yes h1).2]
      conv => rhs; rw [(isF_yes h1).1]
      rfl
    · rw [← hX]
      split
      · rfl
      · cases s with
        | nil => rfl
        | cons c r =>
          have : c ≠ 34 := by simpa [hasB] using h1
          simp [textP, this]
    · rw [← hX, if_pos h2]
  obtain ⟨s1, hs1⟩ : ∃ s1, isF 34 s = s1 := ⟨_, rfl⟩
  have htl1 : Tl s s1 := hs1 ▸ tl_isF 34 s
  rw [hs1] at CI hst
  obtain ⟨q, hq⟩ : ∃ q, hasB 34 s = q := ⟨_, rfl⟩
  rw [hq] at CI hst
  have HST := Lib.hid hst
  have HTL := Lib.hid htl1
  have hsl1 : s1.length ≤ s.length := htl1.len
  clear hX hst htl1 hq hs1 h hS
  go_enter Tryz.func103, Tryz.ntmps103
  cases q with
  | false =>
    go_upto_region 4 with (go_at_call 132; refine CI.mono ?_; rintro e w1 ⟨rfl, hz1, hg1⟩; have H1 := Lib.hid (And.intro hz1 hg1); obtain ⟨⟨f0, -⟩, ff⟩ := hz1.flag; have ff4 := ff 4; clear hz1 hg1 ff)
    have hsb := H1.out.1.setBad true
    have HZ := Lib.hid (⟨⟨hpw, World.ownsRow_nil _ _ _ _, hsb.1, H1.out.2.trans hsb.2⟩, HTL.out, by simp; omega, fun e => (by cases e), fun _ => HST.out.2.1 (by first | trivial | rfl)⟩ : TzL S w p s deep most X (s1.length + 1) (.slice none 0 0) _ [] s1 true)
    clear hsb f0 ff4 H1
    obtain ⟨wx, hwx⟩ : ∃ wx, w1.setCell ⟨p, 4, none⟩ (.bool true) = wx := ⟨_, rfl⟩
    rw [hwx] at HZ ⊢
    clear hwx CI HST HTL
    go_loopg [3] 0 (fun _ v wr => v = .slice none 0 0 ∧ TzL S w p s deep most X 0 v wr [] s1 true)
    case atStart => exact ⟨rfl, HZ.out.any 0⟩
    case round =>
      obtain ⟨rfl, hL⟩ := hrel
      have HL := Lib.hid hL
      obtain ⟨⟨f0, -⟩, ff⟩ := hL.ts.st.flag
      have ff4 := ff 4
      have hcv := hL.ts.conv
      clear hL ff
      go_wp2
      go_ret
      exact HL.out.fin
  | true =>
    cases bad with
    | true =>
      go_upto_region 4 with (go_at_call 132; refine CI.mono ?_; rintro e wx ⟨rfl, hz1, hg1⟩; have H1 := Lib.hid (And.intro hz1 hg1); clear hz1 hg1)
      have HZ := Lib.hid (⟨⟨hpw, World.ownsRow_nil _ _ _ _, H1.out.1, H1.out.2⟩, HTL.out, by simp; omega, fun e => (by cases e), fun _ => HST.out.2.2 (by first | trivial | rfl)⟩ : TzL S w p s deep most X (s1.length + 1) (.slice none 0 0) wx [] s1 true)
      clear H1 CI HST HTL
      go_loopg [3] 0 (fun _ v wr => v = .slice none 0 0 ∧ TzL S w p s deep most X 0 v wr [] s1 true)
      case atStart => exact ⟨rfl, HZ.out.any 0⟩
      case round =>
        obtain ⟨rfl, hL⟩ := hrel
        have HL := Lib.hid hL
        obtain ⟨⟨f0, -⟩, ff⟩ := hL.ts.st.flag
        have ff4 := ff 4
        have hcv := hL.ts.conv
        clear hL ff
        go_wp2
        go_ret
        exact HL.out.fin
    | false =>
      go_upto_region 4 with (go_at_call 132; refine CI.mono ?_; rintro e wx ⟨rfl, hz1, hg1⟩; have H1 := Lib.hid (And.intro hz1 hg1); clear hz1 hg1)
      have HZ := Lib.hid (⟨⟨hpw, World.ownsRow_nil _ _ _ _, H1.out.1, H1.out.2⟩, HTL.out, by simp; omega, fun e => ⟨by rw [addS_nil]; exact HST.out.1 (by first | trivial | rfl) (by first | trivial | rfl), Nat.lt_succ_self _⟩, fun e => (by cases e)⟩ : TzL S w p s deep most X (s1.length + 1) (.slice none 0 0) wx [] s1 false)
      clear H1 CI HST HTL
      go_loopg [3] (s1.length + 1) (fun gk v wr => ∃ acc s' b, TzL S w p s deep most X gk v wr acc s' b)
      case atStart => exact ⟨[], s1, false, HZ.out⟩
      case round =>
        obtain ⟨acc, s', b, hL⟩ := hrel
        have HL := Lib.hid hL
        clear HZ
        cases b with
        | true =>
          obtain ⟨⟨f0, -⟩, ff⟩ := hL.ts.st.flag
          have ff4 := ff 4
          obtain ⟨va, vc, rfl⟩ := owns_slice hL.ts.own
          have hcv := hL.ts.conv
          clear hL ff
          go_wp2
          go_ret
          exact HL.out.fin
        | false =>
          obtain ⟨hx, hgk⟩ := hL.good rfl
          obtain ⟨k, rfl⟩ : ∃ k, gk = k + 1 := ⟨gk - 1, by omega⟩
          have HX := Lib.hid hx
          have HGK := Lib.hid hgk
          have hln := hL.len
          rw [if_neg Bool.false_ne_true, Nat.add_zero] at hln
          have HLN := Lib.hid hln
          have CI2 := z_isZ 34 34 rfl S p wr s' deep most false HS.out hL.ts.st
          obtain ⟨⟨f0, -⟩, ff⟩ := hL.ts.st.flag
          have ff4 := ff 4
          obtain ⟨va, vc, rfl⟩ := owns_slice hL.ts.own
          obtain ⟨n, hn⟩ : ∃ n, acc.length = n := ⟨_, rfl⟩
          have HN := Lib.hid hn
          have hnl : n ≤ 1099511627776 := by have := HS.out; omega
          rw [hn] at HL ⊢
          have HTO := Lib.hid (fun W s2 b2 (hz : ZS S W p s2 deep most b2) (hg : wr.grownBy W (some p)) => (HL.out.ts.to hz hg))
          clear hL ff hx hgk hln hn
          cases hq : hasB 34 s' with
          | true =>
            rw [hq] at CI2
            obtain ⟨hq1, hq2⟩ := isF_yes hq
            have hX2 : X = some (acc, s'.drop 1) := by
              rw [← HX.out, hq1]
              simp [strL, addS]
            have HX2 := Lib.hid hX2
            have HQ := Lib.hid hq2
            clear hq hq1 hq2 hX2
            go_wp2_with (go_at_call 132; refine CI2.mono ?_; rintro e w2 ⟨rfl, hz2, hg2⟩; have H2 := Lib.hid (HTO.out w2 _ _ hz2 hg2); have hcv := H2.out.conv; clear hz2 hg2)
            go_ret
            refine H2.out.ends (HL.out.tl.trans (tl_isF 34 s')) ?_ ?_
            · have := (isF_len 34 s').1
              have := HLN.out
              omega
            · rw [HX2.out]
              exact ⟨rfl, HQ.out, rfl⟩
          | false =>
            rw [hq] at CI2
            have hq2 := (isF_no hq).1
            have HQ := Lib.hid hq2
            go_upto_region 5 with (go_at_call 132; refine CI2.mono ?_; rintro e w2 ⟨rfl, hz2, hg2⟩; rw [HQ.out] at hz2; have H2 := Lib.hid (HTO.out w2 _ _ hz2 hg2); clear hz2 hg2)
            have CPK := z_peek S p w2 s' deep most false HS.out H2.out.st
            clear CI2 HQ hq2
            cases s' with
            | nil =>
              have hX2 : X = none := by rw [← HX.out]; rfl
              have HX2 := Lib.hid hX2
              have e0 : (headN [] : Int) = 0 := rfl
              rw [e0] at CPK
              clear hq hX2 e0 HX
              go_upto_region 6 with (go_at_call 101; refine CPK.mono ?_; rintro e w3 ⟨rfl, hb3⟩)
              have H3 := H2.out.below hb3
              obtain ⟨aa, c, ⟨c0, c1⟩, f⟩ := H3.st.end'
              have hge : decide ((S.length : Int) ≤ (S.length : Int)) = true := decide_eq_true (by omega)
              have HB := Lib.hid (fun q => (H3.below (below_drewN (Below.refl w3.heap.size w3) q)))
              obtain ⟨⟨f0, -⟩, -⟩ := H3.st.flag
              have ff4 := f 4
              have HBS := Lib.hid (fun q => ((HB.out q).to ((HB.out q).st.setBad true).1 ((HB.out q).st.setBad true).2))
              have hcv := fun q => (HBS.out q).conv
              clear f hb3 CPK H3
              obtain ⟨N, hN⟩ : ∃ N, S.length = N := ⟨_, rfl⟩
              rw [hN] at c0 c1 hge
              clear hN
              go_quiet (fail)
              go_wp2
              go_ret
              refine (HBS.out nq).ends HL.out.tl ?_ ?_
              · have := HLN.out
                omega
              · rw [HX2.out]
            | cons c r =>
              have hc34 : c ≠ 34 := by simpa [hasB] using hq
              have e0 : (headN (c :: r) : Int) = (c.toNat : Int) := rfl
              rw [e0] at CPK
              obtain ⟨x, hxc⟩ : ∃ x : Int, (c.toNat : Int) = x := ⟨_, rfl⟩
              have hx0 : (0 : Int) ≤ x := by omega
              have hx1 : x ≤ 255 := by have := c.toNat_lt; omega
              rw [hxc] at CPK
              have HXC := Lib.hid hxc
              have HC34 := Lib.hid hc34
              clear e0 hq hc34
              go_upto_region 6 with (go_at_call 101; refine CPK.mono ?_; rintro e w3 ⟨rfl, hb3⟩)
              have H3 := H2.out.below hb3
              obtain ⟨b0, off, cap, a, ⟨c0, c1, -⟩, hal, f, hst⟩ := H3.st.front
              have hge : decide ((S.length : Int) ≤ (a : Int)) = false := decide_eq_false (by omega)
              have hgeN : decide (S.length ≤ a) = false := decide_eq_false (by omega)
              have ha2 : a ≤ 1099511627776 := by have := HS.out; omega
              have f1 := f 1
              have hsz3 := H3.gr.size
              have HT3 := Lib.hid (fun q => (H3.to (hst _ _ _ (below_drewN (Below.refl w3.heap.size w3) q) rfl rfl).1 (hst _ _ _ (below_drewN (Below.refl w3.heap.size w3) q) rfl rfl).2))
              by_cases h32 : c.toNat < 32
              · have hc92 : c ≠ 92 := fun e => by rw [e] at h32; exact absurd h32 (by decide)
                have hX2 : X = none := by
                  rw [← HX.out]
                  simp [strL, HC34.out, hc92, h32, addS]
                have HX2 := Lib.hid hX2
                have d32 : decide (x < 32) = true := decide_eq_true (by omega)
                have HB := Lib.hid (fun q => (H3.below (below_drewN (Below.refl w3.heap.size w3) q)))
                obtain ⟨⟨f0, -⟩, -⟩ := H3.st.flag
                have ff4 := f 4
                have HBS := Lib.hid (fun q => ((HB.out q).to ((HB.out q).st.setBad true).1 ((HB.out q).st.setBad true).2))
                have hcv := fun q => (HBS.out q).conv
                clear f hb3 CPK H3 hst hX2 hc92 h32 hal hxc HX HT3
                obtain ⟨N, hN⟩ : ∃ N, S.length = N := ⟨_, rfl⟩
                rw [hN] at c0 hge hgeN
                clear hN
                go_quiet (fail)
                go_wp2
                go_ret
                refine (HBS.out nq).ends HL.out.tl ?_ ?_
                · have := HLN.out
                  omega
                · rw [HX2.out]
              · have d32 : decide (x < 32) = false := decide_eq_false (by omega)
                obtain ⟨N, hN⟩ : ∃ N, S.length = N := ⟨_, rfl⟩
                rw [hN] at c0 hge hgeN
                by_cases hc92 : c = 92
                · have hne : (x != 92) = false := by
                    rw [bne_eq_false_iff_eq, ← hxc, hc92]
                    rfl
                  have hX2 : addS acc (match escP r with
                      | none => none
                      | some (b, r') => addS b (strL k r')) = X := by
                    rw [← HX.out, strL, if_neg HC34.out, if_pos hc92]
                    cases escP r <;> rfl
                  have HX2 := Lib.hid hX2
                  obtain ⟨wo, hwo⟩ : ∃ wo : World, wo = wr := ⟨_, rfl⟩
                  subst hwo
                  clear f hb3 CPK H3 hst hX2 hc92 h32 hal hxc HX hN HTO
                  go_quiet (fail)
                  have H4 := Lib.hid (HT3.out nq)
                  have CPK2 := z_peek S p _ r deep most false HS.out H4.out.st
                  rw [hdB_N] at CPK2
                  obtain ⟨y, hy⟩ : ∃ y : Int, ((hdB r).toNat : Int) = y := ⟨_, rfl⟩
                  rw [hy] at CPK2
                  have hy0 : (0 : Int) ≤ y := by omega
                  have HY := Lib.hid hy
                  clear hy HT3
                  go_wp2_with (go_at_call 101; refine CPK2.mono ?_; rintro e w5 ⟨rfl, hb5⟩; have H5 := Lib.hid (H4.out.below hb5); clear hb5)
                  have hsz5 := H5.out.gr.size
                  go_loopw [3, 7, 8] (fun v pv iv wq => ∃ j : Nat, iv = .int .i64 j ∧ j ≤ 8 ∧ pv = .bool (!(mtc (escFrom.take j) (escTo.take j) (hdB r)).isEmpty) ∧ TzS S w p wq v (acc ++ mtc (escFrom.take j) (escTo.take j) (hdB r)) r deep most false) (fun _ _ iv _ => 8 - (intOf iv).toNat)
                  case atStart => exact ⟨0, rfl, by omega, rfl, by simpa [mtc] using H5.out⟩
                  case round =>
                    obtain ⟨j, rfl, hj, rfl, ht⟩ := hrel
                    clear CPK2 c0 c1 hge hgeN ha2 f1
                    by_cases hj8 : j < 8
                    · have hms := mt_step (hdB r) j hj8
                      have he := from_beq hj8 (hdB r) y HY.out
                      obtain ⟨M, hM⟩ : ∃ M, mtc (escFrom.take j) (escTo.take j) (hdB r) = M := ⟨_, rfl⟩
                      rw [hM] at ht hms ⊢
                      have hml : M.length ≤ 8 := by
                        rw [← hM]
                        have : ∀ (a b : Bs) (c : UInt8), (mtc a b c).length ≤ a.length := by
                          intro a
                          induction a with
                          | nil => intro b c; simp [mtc]
                          | cons d a ih =>
                            intro b c
                            cases b with
                            | nil => simp [mtc]
                            | cons e b =>
                              rw [mtc_cons, List.length_append, List.length_cons]
                              have := ih b c
                              split <;> simp <;> omega
                        have := this (escFrom.take j) (escTo.take j) (hdB r)
                        rw [List.length_take] at this
                        have h8 : escFrom.length = 8 := rfl
                        omega
                      obtain ⟨E, hE⟩ : ∃ E, M.isEmpty = E := ⟨_, rfl⟩
                      rw [hE]
                      have HE := Lib.hid hE
                      have HT := Lib.hid ht
                      obtain ⟨va2, vc2, rfl⟩ := owns_slice ht.own
                      have hsz6 := ht.gr.size
                      have hown := fun o => (ht.alloc o).own
                      obtain ⟨n2, hn2⟩ : ∃ n2, (acc ++ M).length = n2 := ⟨_, rfl⟩
                      have HN2 := Lib.hid hn2
                      have hn2l : n2 ≤ 1099511627792 := by rw [← hn2, List.length_append, HN.out]; omega
                      rw [hn2] at hown HT ⊢
                      clear ht hM hE hn2 hml
                      by_cases hm : eK j = hdB r
                      · rw [if_pos hm] at hms
                        rw [decide_eq_true hm] at he
                        have HMS := Lib.hid hms
                        clear hms hm
                        have hj' : (j : Int) < 8 := by omega
                        have hj0 : (0 : Int) ≤ (j : Int) := by omega
                        go_wp2_with (at_builtin; go_loud (refine wpList_append_src rfl _ _ _ _ rfl w.heap.size E8 _ n2 (Lib.byteCells (acc ++ M)) rfl (hown _) _ 1 [_] rfl (by exact src_last (cs := #[_]) Tryz.underlying22 1 1 1 (by simp) rfl (by simp [Value.oneCell'])) (by unfold maxLen; omega) (by omega) (by simp; omega) ?_); intro v9 w9 hown9 hgr9 _ _; have H9 := Lib.hid (And.intro hown9 hgr9); clear hown9 hgr9)
                        go_roundw
                        case rel =>
                          refine ⟨j + 1, by go_num, by omega, by rw [HMS.out]; simp, ?_⟩
                          rw [HMS.out, ← List.append_assoc]
                          exact (HT.out.alloc _).put H9.out.2 H9.out.1 (by rw [HN2.out]; rfl) (by simp only [Lib.byteCells, List.map_cons, List.map_nil, ← to_eq hj8])
                        case measure => simp [intOf]; omega
                      · rw [if_neg hm, List.append_nil] at hms
                        rw [decide_eq_false hm] at he
                        have HMS := Lib.hid hms
                        clear hms hm hown
                        go_wp2
                        go_roundw
                        case rel =>
                          refine ⟨j + 1, by go_num, by omega, by rw [HMS.out, HE.out], ?_⟩
                          rw [HMS.out]
                          exact HT.out
                        case measure => simp [intOf]; omega
                    · obtain rfl : j = 8 := by omega
                      rw [mtc_eight] at ht ⊢
                      cases hp : plainE (hdB r) with
                      | some b =>
                        rw [hp] at ht
                        simp only [] at ht ⊢
                        rw [show (!([b] : Bs).isEmpty) = true from rfl]
                        have hr := hdB_plain hp
                        obtain ⟨r2, hr2⟩ : ∃ r2, r.drop 1 = r2 := ⟨_, rfl⟩
                        rw [hr2] at hr
                        have HE := Lib.hid (show escP r = some ([b], r2) by
                          rw [hr]
                          unfold escP
                          simp only [hp])
                        have hst := ht.st
                        rw [hr] at hst
                        obtain ⟨b1, off1, cap1, a1, ⟨-, k1, -⟩, hal1, f', hst2⟩ := hst.front
                        have ha1 : a1 ≤ 1099511627776 := by have := HS.out; omega
                        have k2 := f' 1
                        have HST2 := Lib.hid hst2
                        have HT := Lib.hid ht
                        have hrl := congrArg List.length hr
                        rw [List.length_cons] at hrl
                        have HRL := Lib.hid (And.intro hrl hr2)
                        obtain ⟨va2, vc2, rfl⟩ := owns_slice ht.own
                        clear ht hst hst2 f' hr hr2 hrl hal1 hp
                        go_wp2
                        go_roundg k
                        case measure => omega
                        case rel =>
                          have g3 := HGK.out
                          have g4 := HLN.out
                          have g5 := HRL.out.1
                          have hx2 := HX2.out
                          rw [HE.out] at hx2
                          simp only [addS_add] at hx2
                          simp only [List.length_cons] at g3 g4
                          obtain ⟨e1, e2⟩ := HST2.out wr _ _ (Below.refl _ _) rfl rfl
                          exact ⟨acc ++ [b], r2, false, HT.out.to e1 e2, HL.out.tl.trans ((tl_drop 1 (c :: r)).trans (by rw [← HRL.out.2]; exact tl_drop 1 r)), by rw [List.length_append, List.length_singleton, if_neg Bool.false_ne_true]; omega, fun _ => ⟨hx2, by omega⟩, fun e => (by cases e)⟩
                      | none =>
                        rw [hp] at ht
                        simp only [] at ht ⊢
                        rw [show (!([] : Bs).isEmpty) = false from rfl]
                        have HP := Lib.hid hp
                        have CF := z_four S p wr r deep most false HS.out ht.st
                        obtain ⟨n4, r4, b4, hF⟩ : ∃ n4 r4 b4, fourF r false = (n4, r4, b4) := ⟨_, _, _, rfl⟩
                        have hn4 := four_lt4 r false
                        rw [hF] at CF hn4
                        simp only [] at CF hn4
                        obtain ⟨nz, hnz⟩ : ∃ nz : Int, (n4 : Int) = nz := ⟨_, rfl⟩
                        rw [hnz] at CF
                        have hnz0 : 0 ≤ nz := by omega
                        have hnz1 : nz ≤ 65535 := by omega
                        have HT := Lib.hid ht
                        obtain ⟨va3, vc3, rfl⟩ := owns_slice ht.own
                        obtain ⟨n3, hn3⟩ : ∃ n3, (acc ++ ([] : Bs)).length = n3 := ⟨_, rfl⟩
                        have HN3 := Lib.hid hn3
                        have hn3l : n3 ≤ 1099511627776 := by rw [← hn3, List.append_nil, HN.out]; omega
                        rw [hn3] at HT ⊢
                        clear ht hn3 hp
                        have HTO2 := Lib.hid (fun W s2 b2 (hz : ZS S W p s2 deep most b2) (hg : wr.grownBy W (some p)) => (HT.out.to hz hg))
                        obtain ⟨wi, hwi⟩ : ∃ wi : World, wi = wr := ⟨_, rfl⟩
                        subst hwi
                        by_cases hA : 55296 ≤ nz
                        · have d1 : decide (55296 ≤ nz) = true := decide_eq_true hA
                          by_cases hA2 : nz < 56320
                          · have d2 : decide (nz < 56320) = true := decide_eq_true hA2
                            have hn4u : n4 ≤ 56319 := by omega
                            have hn4l : 55296 ≤ n4 := by omega
                            have hY0 : escF r false = lowF n4 (fourF (isF 92 r4) (b4 || !hasB 92 r4)) := by unfold escF surF; rw [hF]; exact if_pos ⟨by omega, by omega⟩
                            have HY0 := Lib.hid hY0
                            go_upto_region 25 with (go_at_call 133; refine CF.mono ?_; rintro e w6 ⟨rfl, hz6, hg6⟩; have H6 := Lib.hid (HTO2.out w6 _ _ hz6 hg6); clear hz6 hg6)
                            have CI3 := z_isZ 92 92 rfl S p w6 r4 deep most b4 HS.out H6.out.st
                            clear hY0 CF hA hA2 hF
                            cases hq4 : hasB 92 r4 with
                            | true =>
                              rw [hq4] at CI3 HY0
                              rw [Bool.not_true, Bool.or_false] at HY0
                              clear hq4
                              go_upto_region 27 with (go_at_call 132; refine CI3.mono ?_; rintro e w7 ⟨rfl, hz7, hg7⟩; have H7 := Lib.hid (H6.out.to hz7 hg7); clear hz7 hg7)
                              clear CI3
                              have CF2 := z_four S p w7 (isF 92 r4) deep most b4 HS.out H7.out.st
                              obtain ⟨l5, r5, b5, hF2⟩ : ∃ l5 r5 b5, fourF (isF 92 r4) b4 = (l5, r5, b5) := ⟨_, _, _, rfl⟩
                              have hl5 := four_lt4 (isF 92 r4) b4
                              rw [hF2] at CF2 hl5 HY0
                              simp only [] at CF2 hl5
                              obtain ⟨lz, hlz⟩ : ∃ lz : Int, (l5 : Int) = lz := ⟨_, rfl⟩
                              rw [hlz] at CF2
                              have hlz0 : 0 ≤ lz := by omega
                              have hlz1 : lz ≤ 65535 := by omega
                              clear hF2
                              by_cases hL1 : lz < 56320
                              · have d5 : decide (lz < 56320) = true := decide_eq_true hL1
                                have hY : escF r false = (65536 + (n4 - 55296) * 1024 + l5 - 56320, r5, true) := by
                                  rw [HY0.out]; unfold lowF; simp only []
                                  rw [decide_eq_true (show l5 < 56320 by omega)]; simp
                                go_upto_region 30 with (go_at_call 133; refine CF2.mono ?_; rintro e w9 ⟨rfl, hz9, hg9⟩; have H9 := Lib.hid (H7.out.to hz9 hg9); obtain ⟨⟨j0, -⟩, jf⟩ := hz9.flag; have j4 := jf 4; clear hz9 hg9 jf)
                                clear CF2 j0 j4
                                have h7 := H9.out.to (H9.out.st.setBad true).1 (H9.out.st.setBad true).2
                                obtain ⟨w10, hw10⟩ : ∃ w10, w9.setCell ⟨p, 4, none⟩ (.bool true) = w10 := ⟨_, rfl⟩
                                rw [hw10] at h7 ⊢
                                have HEE := Lib.hid h7
                                clear h7 hw10 H9
                                have CB := fun (z : Int) (hz : z = ((65536 + (n4 - 55296) * 1024 + l5 - 56320 : Nat) : Int)) => (hz ▸ ref_BytesU (65536 + (n4 - 55296) * 1024 + l5 - 56320) (by omega) w10 : Calls Tryz.prog 134 #[.int .i32 z] w10 _)
                                have HYY := Lib.hid hY
                                clear hY
                                go_wp2_with (first | (go_at_call 134; refine (CB _ (by omega)).mono ?_; rintro e wb ⟨vb, rfl, lb, hob, hlb, hsb, hbb⟩; have HBB := Lib.hid (And.intro hob hsb); obtain ⟨ab, cb, rfl⟩ := owns_slice hob; have hsrc := src_arg (P := Tryz.prog) Tryz.underlying22 (argRow_owns hob) (byteCells_one lb); have HTB := Lib.hid (HEE.out.below hbb); have hownb := HTB.out.own; rw [HN3.out] at hownb; have hszb := HTB.out.gr.size; clear hob hsb hbb) | (at_builtin; go_loud (refine wpList_append_src rfl _ _ _ _ rfl w.heap.size E8 _ n3 (Lib.byteCells (acc ++ [])) rfl hownb _ lb.length (Lib.byteCells lb) rfl (by exact hsrc) (by unfold maxLen; omega) (by omega) hszb ?_); intro v9 w9 hown9 hgr9 _ _; have H9 := Lib.hid (And.intro hown9 hgr9); clear hown9 hgr9))
                                go_roundg k
                                case measure => omega
                                case rel =>
                                  have g3 := HGK.out
                                  have g4 := HLN.out
                                  simp only [List.length_cons] at g3 g4
                                  refine esc_rel HX2.out HP.out HYY.out (by omega) (by omega) (HL.out.tl.trans (tl_drop 1 (c :: r))) ?_ hlb HBB.out.2
                                  have := HTB.out.put H9.out.2 H9.out.1 (by rw [HN3.out]) rfl
                                  rwa [List.append_nil] at this

                              · have d5 : decide (lz < 56320) = false := decide_eq_false hL1
                                by_cases hL2 : 57343 < lz
                                · have d6 : decide (57343 < lz) = true := decide_eq_true hL2
                                  have hY : escF r false = (65536 + (n4 - 55296) * 1024 + l5 - 56320, r5, true) := by
                                    rw [HY0.out]; unfold lowF; simp only []
                                    rw [decide_eq_true (show 57343 < l5 by omega)]; simp
                                  go_upto_region 30 with (go_at_call 133; refine CF2.mono ?_; rintro e w9 ⟨rfl, hz9, hg9⟩; have H9 := Lib.hid (H7.out.to hz9 hg9); obtain ⟨⟨j0, -⟩, jf⟩ := hz9.flag; have j4 := jf 4; clear hz9 hg9 jf)
                                  clear CF2 j0 j4
                                  have h7 := H9.out.to (H9.out.st.setBad true).1 (H9.out.st.setBad true).2
                                  obtain ⟨w10, hw10⟩ : ∃ w10, w9.setCell ⟨p, 4, none⟩ (.bool true) = w10 := ⟨_, rfl⟩
                                  rw [hw10] at h7 ⊢
                                  have HEE := Lib.hid h7
                                  clear h7 hw10 H9
                                  have CB := fun (z : Int) (hz : z = ((65536 + (n4 - 55296) * 1024 + l5 - 56320 : Nat) : Int)) => (hz ▸ ref_BytesU (65536 + (n4 - 55296) * 1024 + l5 - 56320) (by omega) w10 : Calls Tryz.prog 134 #[.int .i32 z] w10 _)
                                  have HYY := Lib.hid hY
                                  clear hY
                                  go_wp2_with (first | (go_at_call 134; refine (CB _ (by omega)).mono ?_; rintro e wb ⟨vb, rfl, lb, hob, hlb, hsb, hbb⟩; have HBB := Lib.hid (And.intro hob hsb); obtain ⟨ab, cb, rfl⟩ := owns_slice hob; have hsrc := src_arg (P := Tryz.prog) Tryz.underlying22 (argRow_owns hob) (byteCells_one lb); have HTB := Lib.hid (HEE.out.below hbb); have hownb := HTB.out.own; rw [HN3.out] at hownb; have hszb := HTB.out.gr.size; clear hob hsb hbb) | (at_builtin; go_loud (refine wpList_append_src rfl _ _ _ _ rfl w.heap.size E8 _ n3 (Lib.byteCells (acc ++ [])) rfl hownb _ lb.length (Lib.byteCells lb) rfl (by exact hsrc) (by unfold maxLen; omega) (by omega) hszb ?_); intro v9 w9 hown9 hgr9 _ _; have H9 := Lib.hid (And.intro hown9 hgr9); clear hown9 hgr9))
                                  go_roundg k
                                  case measure => omega
                                  case rel =>
                                    have g3 := HGK.out
                                    have g4 := HLN.out
                                    simp only [List.length_cons] at g3 g4
                                    refine esc_rel HX2.out HP.out HYY.out (by omega) (by omega) (HL.out.tl.trans (tl_drop 1 (c :: r))) ?_ hlb HBB.out.2
                                    have := HTB.out.put H9.out.2 H9.out.1 (by rw [HN3.out]) rfl
                                    rwa [List.append_nil] at this

                                · have d6 : decide (57343 < lz) = false := decide_eq_false hL2
                                  have hY : escF r false = (65536 + (n4 - 55296) * 1024 + l5 - 56320, r5, b5) := by
                                    rw [HY0.out]; unfold lowF; simp only []
                                    rw [decide_eq_false (show ¬ l5 < 56320 by omega), decide_eq_false (show ¬ 57343 < l5 by omega)]; simp
                                  go_upto_region 30 with (go_at_call 133; refine CF2.mono ?_; rintro e w10 ⟨rfl, hz9, hg9⟩; have HEE := Lib.hid (H7.out.to hz9 hg9); clear hz9 hg9)
                                  clear CF2
                                  have CB := fun (z : Int) (hz : z = ((65536 + (n4 - 55296) * 1024 + l5 - 56320 : Nat) : Int)) => (hz ▸ ref_BytesU (65536 + (n4 - 55296) * 1024 + l5 - 56320) (by omega) w10 : Calls Tryz.prog 134 #[.int .i32 z] w10 _)
                                  have HYY := Lib.hid hY
                                  clear hY
                                  go_wp2_with (first | (go_at_call 134; refine (CB _ (by omega)).mono ?_; rintro e wb ⟨vb, rfl, lb, hob, hlb, hsb, hbb⟩; have HBB := Lib.hid (And.intro hob hsb); obtain ⟨ab, cb, rfl⟩ := owns_slice hob; have hsrc := src_arg (P := Tryz.prog) Tryz.underlying22 (argRow_owns hob) (byteCells_one lb); have HTB := Lib.hid (HEE.out.below hbb); have hownb := HTB.out.own; rw [HN3.out] at hownb; have hszb := HTB.out.gr.size; clear hob hsb hbb) | (at_builtin; go_loud (refine wpList_append_src rfl _ _ _ _ rfl w.heap.size E8 _ n3 (Lib.byteCells (acc ++ [])) rfl hownb _ lb.length (Lib.byteCells lb) rfl (by exact hsrc) (by unfold maxLen; omega) (by omega) hszb ?_); intro v9 w9 hown9 hgr9 _ _; have H9 := Lib.hid (And.intro hown9 hgr9); clear hown9 hgr9))
                                  go_roundg k
                                  case measure => omega
                                  case rel =>
                                    have g3 := HGK.out
                                    have g4 := HLN.out
                                    simp only [List.length_cons] at g3 g4
                                    refine esc_rel HX2.out HP.out HYY.out (by omega) (by omega) (HL.out.tl.trans (tl_drop 1 (c :: r))) ?_ hlb HBB.out.2
                                    have := HTB.out.put H9.out.2 H9.out.1 (by rw [HN3.out]) rfl
                                    rwa [List.append_nil] at this


                            | false =>
                              rw [hq4] at CI3 HY0
                              rw [Bool.not_false, Bool.or_true] at HY0
                              clear hq4
                              go_upto_region 27 with (go_at_call 132; refine CI3.mono ?_; rintro e w17 ⟨rfl, hz7, hg7⟩; have H17 := Lib.hid (H6.out.to hz7 hg7); obtain ⟨⟨j0, -⟩, jf⟩ := hz7.flag; have j4 := jf 4; clear hz7 hg7 jf)
                              clear CI3 j0 j4
                              have h7 := H17.out.to (H17.out.st.setBad true).1 (H17.out.st.setBad true).2
                              obtain ⟨w7, hw7⟩ : ∃ w7, w17.setCell ⟨p, 4, none⟩ (.bool true) = w7 := ⟨_, rfl⟩
                              rw [hw7] at h7 ⊢
                              have H7 := Lib.hid h7
                              clear h7 hw7
                              have CF2 := z_four S p w7 (isF 92 r4) deep most true HS.out H7.out.st
                              obtain ⟨l5, r5, b5, hF2⟩ : ∃ l5 r5 b5, fourF (isF 92 r4) true = (l5, r5, b5) := ⟨_, _, _, rfl⟩
                              have hl5 := four_lt4 (isF 92 r4) true
                              rw [hF2] at CF2 hl5 HY0
                              simp only [] at CF2 hl5
                              obtain ⟨lz, hlz⟩ : ∃ lz : Int, (l5 : Int) = lz := ⟨_, rfl⟩
                              rw [hlz] at CF2
                              have hlz0 : 0 ≤ lz := by omega
                              have hlz1 : lz ≤ 65535 := by omega
                              clear hF2
                              by_cases hL1 : lz < 56320
                              · have d5 : decide (lz < 56320) = true := decide_eq_true hL1
                                have hY : escF r false = (65536 + (n4 - 55296) * 1024 + l5 - 56320, r5, true) := by
                                  rw [HY0.out]; unfold lowF; simp only []
                                  rw [decide_eq_true (show l5 < 56320 by omega)]; simp
                                go_upto_region 30 with (go_at_call 133; refine CF2.mono ?_; rintro e w9 ⟨rfl, hz9, hg9⟩; have H9 := Lib.hid (H7.out.to hz9 hg9); obtain ⟨⟨j0, -⟩, jf⟩ := hz9.flag; have j4 := jf 4; clear hz9 hg9 jf)
                                clear CF2 j0 j4
                                have h7 := H9.out.to (H9.out.st.setBad true).1 (H9.out.st.setBad true).2
                                obtain ⟨w10, hw10⟩ : ∃ w10, w9.setCell ⟨p, 4, none⟩ (.bool true) = w10 := ⟨_, rfl⟩
                                rw [hw10] at h7 ⊢
                                have HEE := Lib.hid h7
                                clear h7 hw10 H9
                                have CB := fun (z : Int) (hz : z = ((65536 + (n4 - 55296) * 1024 + l5 - 56320 : Nat) : Int)) => (hz ▸ ref_BytesU (65536 + (n4 - 55296) * 1024 + l5 - 56320) (by omega) w10 : Calls Tryz.prog 134 #[.int .i32 z] w10 _)
                                have HYY := Lib.hid hY
                                clear hY
                                go_wp2_with (first | (go_at_call 134; refine (CB _ (by omega)).mono ?_; rintro e wb ⟨vb, rfl, lb, hob, hlb, hsb, hbb⟩; have HBB := Lib.hid (And.intro hob hsb); obtain ⟨ab, cb, rfl⟩ := owns_slice hob; have hsrc := src_arg (P := Tryz.prog) Tryz.underlying22 (argRow_owns hob) (byteCells_one lb); have HTB := Lib.hid (HEE.out.below hbb); have hownb := HTB.out.own; rw [HN3.out] at hownb; have hszb := HTB.out.gr.size; clear hob hsb hbb) | (at_builtin; go_loud (refine wpList_append_src rfl _ _ _ _ rfl w.heap.size E8 _ n3 (Lib.byteCells (acc ++ [])) rfl hownb _ lb.length (Lib.byteCells lb) rfl (by exact hsrc) (by unfold maxLen; omega) (by omega) hszb ?_); intro v9 w9 hown9 hgr9 _ _; have H9 := Lib.hid (And.intro hown9 hgr9); clear hown9 hgr9))
                                go_roundg k
                                case measure => omega
                                case rel =>
                                  have g3 := HGK.out
                                  have g4 := HLN.out
                                  simp only [List.length_cons] at g3 g4
                                  refine esc_rel HX2.out HP.out HYY.out (by omega) (by omega) (HL.out.tl.trans (tl_drop 1 (c :: r))) ?_ hlb HBB.out.2
                                  have := HTB.out.put H9.out.2 H9.out.1 (by rw [HN3.out]) rfl
                                  rwa [List.append_nil] at this

                              · have d5 : decide (lz < 56320) = false := decide_eq_false hL1
                                by_cases hL2 : 57343 < lz
                                · have d6 : decide (57343 < lz) = true := decide_eq_true hL2
                                  have hY : escF r false = (65536 + (n4 - 55296) * 1024 + l5 - 56320, r5, true) := by
                                    rw [HY0.out]; unfold lowF; simp only []
                                    rw [decide_eq_true (show 57343 < l5 by omega)]; simp
                                  go_upto_region 30 with (go_at_call 133; refine CF2.mono ?_; rintro e w9 ⟨rfl, hz9, hg9⟩; have H9 := Lib.hid (H7.out.to hz9 hg9); obtain ⟨⟨j0, -⟩, jf⟩ := hz9.flag; have j4 := jf 4; clear hz9 hg9 jf)
                                  clear CF2 j0 j4
                                  have h7 := H9.out.to (H9.out.st.setBad true).1 (H9.out.st.setBad true).2
                                  obtain ⟨w10, hw10⟩ : ∃ w10, w9.setCell ⟨p, 4, none⟩ (.bool true) = w10 := ⟨_, rfl⟩
                                  rw [hw10] at h7 ⊢
                                  have HEE := Lib.hid h7
                                  clear h7 hw10 H9
                                  have CB := fun (z : Int) (hz : z = ((65536 + (n4 - 55296) * 1024 + l5 - 56320 : Nat) : Int)) => (hz ▸ ref_BytesU (65536 + (n4 - 55296) * 1024 + l5 - 56320) (by omega) w10 : Calls Tryz.prog 134 #[.int .i32 z] w10 _)
                                  have HYY := Lib.hid hY
                                  clear hY
                                  go_wp2_with (first | (go_at_call 134; refine (CB _ (by omega)).mono ?_; rintro e wb ⟨vb, rfl, lb, hob, hlb, hsb, hbb⟩; have HBB := Lib.hid (And.intro hob hsb); obtain ⟨ab, cb, rfl⟩ := owns_slice hob; have hsrc := src_arg (P := Tryz.prog) Tryz.underlying22 (argRow_owns hob) (byteCells_one lb); have HTB := Lib.hid (HEE.out.below hbb); have hownb := HTB.out.own; rw [HN3.out] at hownb; have hszb := HTB.out.gr.size; clear hob hsb hbb) | (at_builtin; go_loud (refine wpList_append_src rfl _ _ _ _ rfl w.heap.size E8 _ n3 (Lib.byteCells (acc ++ [])) rfl hownb _ lb.length (Lib.byteCells lb) rfl (by exact hsrc) (by unfold maxLen; omega) (by omega) hszb ?_); intro v9 w9 hown9 hgr9 _ _; have H9 := Lib.hid (And.intro hown9 hgr9); clear hown9 hgr9))
                                  go_roundg k
                                  case measure => omega
                                  case rel =>
                                    have g3 := HGK.out
                                    have g4 := HLN.out
                                    simp only [List.length_cons] at g3 g4
                                    refine esc_rel HX2.out HP.out HYY.out (by omega) (by omega) (HL.out.tl.trans (tl_drop 1 (c :: r))) ?_ hlb HBB.out.2
                                    have := HTB.out.put H9.out.2 H9.out.1 (by rw [HN3.out]) rfl
                                    rwa [List.append_nil] at this

                                · have d6 : decide (57343 < lz) = false := decide_eq_false hL2
                                  have hY : escF r false = (65536 + (n4 - 55296) * 1024 + l5 - 56320, r5, b5) := by
                                    rw [HY0.out]; unfold lowF; simp only []
                                    rw [decide_eq_false (show ¬ l5 < 56320 by omega), decide_eq_false (show ¬ 57343 < l5 by omega)]; simp
                                  go_upto_region 30 with (go_at_call 133; refine CF2.mono ?_; rintro e w10 ⟨rfl, hz9, hg9⟩; have HEE := Lib.hid (H7.out.to hz9 hg9); clear hz9 hg9)
                                  clear CF2
                                  have CB := fun (z : Int) (hz : z = ((65536 + (n4 - 55296) * 1024 + l5 - 56320 : Nat) : Int)) => (hz ▸ ref_BytesU (65536 + (n4 - 55296) * 1024 + l5 - 56320) (by omega) w10 : Calls Tryz.prog 134 #[.int .i32 z] w10 _)
                                  have HYY := Lib.hid hY
                                  clear hY
                                  go_wp2_with (first | (go_at_call 134; refine (CB _ (by omega)).mono ?_; rintro e wb ⟨vb, rfl, lb, hob, hlb, hsb, hbb⟩; have HBB := Lib.hid (And.intro hob hsb); obtain ⟨ab, cb, rfl⟩ := owns_slice hob; have hsrc := src_arg (P := Tryz.prog) Tryz.underlying22 (argRow_owns hob) (byteCells_one lb); have HTB := Lib.hid (HEE.out.below hbb); have hownb := HTB.out.own; rw [HN3.out] at hownb; have hszb := HTB.out.gr.size; clear hob hsb hbb) | (at_builtin; go_loud (refine wpList_append_src rfl _ _ _ _ rfl w.heap.size E8 _ n3 (Lib.byteCells (acc ++ [])) rfl hownb _ lb.length (Lib.byteCells lb) rfl (by exact hsrc) (by unfold maxLen; omega) (by omega) hszb ?_); intro v9 w9 hown9 hgr9 _ _; have H9 := Lib.hid (And.intro hown9 hgr9); clear hown9 hgr9))
                                  go_roundg k
                                  case measure => omega
                                  case rel =>
                                    have g3 := HGK.out
                                    have g4 := HLN.out
                                    simp only [List.length_cons] at g3 g4
                                    refine esc_rel HX2.out HP.out HYY.out (by omega) (by omega) (HL.out.tl.trans (tl_drop 1 (c :: r))) ?_ hlb HBB.out.2
                                    have := HTB.out.put H9.out.2 H9.out.1 (by rw [HN3.out]) rfl
                                    rwa [List.append_nil] at this


                          · have d2 : decide (nz < 56320) = false := decide_eq_false hA2
                            have d3 : decide (56320 ≤ nz) = true := decide_eq_true (by omega)
                            by_cases hA3 : nz < 57344
                            · have d4 : decide (nz < 57344) = true := decide_eq_true hA3
                              have hY : escF r false = (n4, r4, true) := by
                                unfold escF surF
                                rw [hF]
                                rw [if_neg (show ¬ (55296 ≤ (n4, r4, b4).1 ∧ (n4, r4, b4).1 < 56320) from fun e => by have := e.2; simp only [] at this; omega)]
                                simp only []
                                rw [decide_eq_true (show 56320 ≤ n4 by omega), decide_eq_true (show n4 < 57344 by omega)]
                                simp
                              clear hF
                              go_upto_region 33 with (go_at_call 133; refine CF.mono ?_; rintro e w6 ⟨rfl, hz6, hg6⟩; have H6 := Lib.hid (HTO2.out w6 _ _ hz6 hg6); obtain ⟨⟨j0, -⟩, jf⟩ := hz6.flag; have j4 := jf 4; clear hz6 hg6 jf)
                              clear CF j0 j4
                              have h7 := H6.out.to (H6.out.st.setBad true).1 (H6.out.st.setBad true).2
                              obtain ⟨w7, hw7⟩ : ∃ w7, w6.setCell ⟨p, 4, none⟩ (.bool true) = w7 := ⟨_, rfl⟩
                              rw [hw7] at h7 ⊢
                              have HEE := Lib.hid h7
                              clear h7 hw7
                              have CB := fun (z : Int) (hz : z = (n4 : Int)) => (hz ▸ ref_BytesU (n4) (by omega) w7 : Calls Tryz.prog 134 #[.int .i32 z] w7 _)
                              have HYY := Lib.hid hY
                              clear hY
                              go_wp2_with (first | (go_at_call 134; refine (CB _ (by omega)).mono ?_; rintro e wb ⟨vb, rfl, lb, hob, hlb, hsb, hbb⟩; have HBB := Lib.hid (And.intro hob hsb); obtain ⟨ab, cb, rfl⟩ := owns_slice hob; have hsrc := src_arg (P := Tryz.prog) Tryz.underlying22 (argRow_owns hob) (byteCells_one lb); have HTB := Lib.hid (HEE.out.below hbb); have hownb := HTB.out.own; rw [HN3.out] at hownb; have hszb := HTB.out.gr.size; clear hob hsb hbb) | (at_builtin; go_loud (refine wpList_append_src rfl _ _ _ _ rfl w.heap.size E8 _ n3 (Lib.byteCells (acc ++ [])) rfl hownb _ lb.length (Lib.byteCells lb) rfl (by exact hsrc) (by unfold maxLen; omega) (by omega) hszb ?_); intro v9 w9 hown9 hgr9 _ _; have H9 := Lib.hid (And.intro hown9 hgr9); clear hown9 hgr9))
                              go_roundg k
                              case measure => omega
                              case rel =>
                                have g3 := HGK.out
                                have g4 := HLN.out
                                simp only [List.length_cons] at g3 g4
                                refine esc_rel HX2.out HP.out HYY.out (by omega) (by omega) (HL.out.tl.trans (tl_drop 1 (c :: r))) ?_ hlb HBB.out.2
                                have := HTB.out.put H9.out.2 H9.out.1 (by rw [HN3.out]) rfl
                                rwa [List.append_nil] at this

                            · have d4 : decide (nz < 57344) = false := decide_eq_false hA3
                              have hY : escF r false = (n4, r4, b4) := by
                                unfold escF surF
                                rw [hF]
                                rw [if_neg (show ¬ (55296 ≤ (n4, r4, b4).1 ∧ (n4, r4, b4).1 < 56320) from fun e => by have := e.2; simp only [] at this; omega)]
                                simp only []
                                rw [decide_eq_false (show ¬ n4 < 57344 by omega)]
                                simp
                              clear hF
                              go_upto_region 33 with (go_at_call 133; refine CF.mono ?_; rintro e w7 ⟨rfl, hz6, hg6⟩; have HEE := Lib.hid (HTO2.out w7 _ _ hz6 hg6); clear hz6 hg6)
                              clear CF
                              have CB := fun (z : Int) (hz : z = (n4 : Int)) => (hz ▸ ref_BytesU (n4) (by omega) w7 : Calls Tryz.prog 134 #[.int .i32 z] w7 _)
                              have HYY := Lib.hid hY
                              clear hY
                              go_wp2_with (first | (go_at_call 134; refine (CB _ (by omega)).mono ?_; rintro e wb ⟨vb, rfl, lb, hob, hlb, hsb, hbb⟩; have HBB := Lib.hid (And.intro hob hsb); obtain ⟨ab, cb, rfl⟩ := owns_slice hob; have hsrc := src_arg (P := Tryz.prog) Tryz.underlying22 (argRow_owns hob) (byteCells_one lb); have HTB := Lib.hid (HEE.out.below hbb); have hownb := HTB.out.own; rw [HN3.out] at hownb; have hszb := HTB.out.gr.size; clear hob hsb hbb) | (at_builtin; go_loud (refine wpList_append_src rfl _ _ _ _ rfl w.heap.size E8 _ n3 (Lib.byteCells (acc ++ [])) rfl hownb _ lb.length (Lib.byteCells lb) rfl (by exact hsrc) (by unfold maxLen; omega) (by omega) hszb ?_); intro v9 w9 hown9 hgr9 _ _; have H9 := Lib.hid (And.intro hown9 hgr9); clear hown9 hgr9))
                              go_roundg k
                              case measure => omega
                              case rel =>
                                have g3 := HGK.out
                                have g4 := HLN.out
                                simp only [List.length_cons] at g3 g4
                                refine esc_rel HX2.out HP.out HYY.out (by omega) (by omega) (HL.out.tl.trans (tl_drop 1 (c :: r))) ?_ hlb HBB.out.2
                                have := HTB.out.put H9.out.2 H9.out.1 (by rw [HN3.out]) rfl
                                rwa [List.append_nil] at this

                        · have d1 : decide (55296 ≤ nz) = false := decide_eq_false hA
                          have d3 : decide (56320 ≤ nz) = false := decide_eq_false (by omega)
                          have hY : escF r false = (n4, r4, b4) := by
                            unfold escF surF
                            rw [hF]
                            rw [if_neg (show ¬ (55296 ≤ (n4, r4, b4).1 ∧ (n4, r4, b4).1 < 56320) from fun e => by have := e.1; simp only [] at this; omega)]
                            simp only []
                            rw [decide_eq_false (show ¬ 56320 ≤ n4 by omega)]
                            simp
                          clear hF
                          go_upto_region 33 with (go_at_call 133; refine CF.mono ?_; rintro e w7 ⟨rfl, hz6, hg6⟩; have HEE := Lib.hid (HTO2.out w7 _ _ hz6 hg6); clear hz6 hg6)
                          clear CF
                          have CB := fun (z : Int) (hz : z = (n4 : Int)) => (hz ▸ ref_BytesU (n4) (by omega) w7 : Calls Tryz.prog 134 #[.int .i32 z] w7 _)
                          have HYY := Lib.hid hY
                          clear hY
                          go_wp2_with (first | (go_at_call 134; refine (CB _ (by omega)).mono ?_; rintro e wb ⟨vb, rfl, lb, hob, hlb, hsb, hbb⟩; have HBB := Lib.hid (And.intro hob hsb); obtain ⟨ab, cb, rfl⟩ := owns_slice hob; have hsrc := src_arg (P := Tryz.prog) Tryz.underlying22 (argRow_owns hob) (byteCells_one lb); have HTB := Lib.hid (HEE.out.below hbb); have hownb := HTB.out.own; rw [HN3.out] at hownb; have hszb := HTB.out.gr.size; clear hob hsb hbb) | (at_builtin; go_loud (refine wpList_append_src rfl _ _ _ _ rfl w.heap.size E8 _ n3 (Lib.byteCells (acc ++ [])) rfl hownb _ lb.length (Lib.byteCells lb) rfl (by exact hsrc) (by unfold maxLen; omega) (by omega) hszb ?_); intro v9 w9 hown9 hgr9 _ _; have H9 := Lib.hid (And.intro hown9 hgr9); clear hown9 hgr9))
                          go_roundg k
                          case measure => omega
                          case rel =>
                            have g3 := HGK.out
                            have g4 := HLN.out
                            simp only [List.length_cons] at g3 g4
                            refine esc_rel HX2.out HP.out HYY.out (by omega) (by omega) (HL.out.tl.trans (tl_drop 1 (c :: r))) ?_ hlb HBB.out.2
                            have := HTB.out.put H9.out.2 H9.out.1 (by rw [HN3.out]) rfl
                            rwa [List.append_nil] at this


                · have hne : (x != 92) = true := by
                    rw [bne_iff_ne]
                    exact fun e => hc92 (UInt8.toNat_inj.1 (by show c.toNat = 92; omega))
                  have hX2 : addS (acc ++ [c]) (strL k r) = X := by
                    rw [← HX.out, strL, if_neg HC34.out, if_neg hc92, if_neg h32, addS_add]
                  have HX2 := Lib.hid hX2
                  clear f hb3 CPK H3 hst hX2 hc92 h32 hal hxc HX hN
                  go_quiet (fail)
                  have H4 := Lib.hid (HT3.out nq)
                  have hown4 := fun o => (H4.out.alloc o).own
                  rw [HN.out] at hown4
                  go_wp2_with (at_builtin; go_loud (refine wpList_append_src rfl _ _ _ _ rfl w.heap.size E8 _ n (Lib.byteCells acc) rfl (hown4 _) _ 1 [.int .u8 x] rfl (by exact src_last (cs := #[.int .u8 x]) Tryz.underlying22 1 1 1 (by simp) rfl (by simp [Value.oneCell'])) (by unfold maxLen; omega) (by omega) (by simp; omega) ?_); intro v9 w9 hown9 hgr9 _ _; have H9 := Lib.hid (And.intro hown9 hgr9); clear hown9 hgr9)
                  go_roundg k
                  case measure => omega
                  case rel =>
                    have g3 := HGK.out
                    have g4 := HLN.out
                    simp only [List.length_cons] at g3 g4
                    exact ⟨acc ++ [c], r, false, (H4.out.alloc _).put H9.out.2 H9.out.1 (by rw [HN.out]; rfl) (by simp [Lib.byteCells, HXC.out]), HL.out.tl.trans (tl_drop 1 (c :: r)), by rw [List.length_append, List.length_singleton, if_neg Bool.false_ne_true]; omega, fun _ => ⟨HX2.out, by omega⟩, fun e => (by cases e)⟩
end Go.Proofs.YtljnbbdhmlfhjaaGreatDoor
/-
  The document's JSON reader: Value, given its lists.
-/
namespace Go.Proofs.YtljnbbdhmlfhjaaGreatDoor
open Go.RowKit
/-- What a value, or a part of one, leaves. -/
structure VMid (c : Nat) (S : Bs) (p : Nat) (w : World) (s : Bs) (deep most : Nat) (X : Option (J × Bs)) (T r : Bs) (b : Bool) (m : Nat) (w' : World) : Prop where
  st : ZS S w' p r deep m b
  gr : w.grownBy w' (some p)
  tl : Tl s r
  res : match X with
    | some (j, r0) => T = formJ j ∧ r = r0 ∧ b = false ∧ m = max most (deep + deepJ j)
    | none => b = true ∧ T.length + 7 * r.length ≤ 7 * s.length + c
def ValF (c : Nat) (S : Bs) (p : Nat) (w : World) (s : Bs) (deep most : Nat) (X : Option (J × Bs)) (e : Ending) (w' : World) : Prop :=
  ∃ (T r : Bs) (b : Bool) (m : Nat), e = .returned (.string ⟨T.toArray⟩) ∧ VMid c S p w s deep most X T r b m w'
theorem tl_sp : ∀ s : Bs, Tl s (sp s)
  | [] => Tl.refl _
  | c :: s => by
    cases h : isW c with
    | true => rw [sp_yes s h]; exact (tl_drop 1 (c :: s)).trans (tl_sp s)
    | false => rw [sp_no s h]; exact Tl.refl _
def ifB {α : Type} (bad : Bool) (x : Option α) : Option α := if bad then none else x
theorem ifB_some {α : Type} {bad : Bool} {x : Option α} {y : α} (h : ifB bad x = some y) : bad = false ∧ x = some y := by
  unfold ifB at h
  cases bad with
  | true => simp at h
  | false => exact ⟨rfl, by simpa using h⟩
/-- Space ahead of it and behind it. -/
theorem VMid.pad {c : Nat} {S : Bs} {p : Nat} {w w1 w2 w3 : World} {s : Bs} {deep most : Nat} {bad : Bool} {Y : Option (J × Bs)} {T r : Bs} {b : Bool} {m : Nat} {S0 : Bs} (hS0 : sp s = S0) (h : VMid c S p w1 S0 deep most (ifB bad Y) T r b m w2) (hg : w.grownBy w1 (some p)) (hz : ZS S w3 p (sp r) deep m b) (hg2 : w2.grownBy w3 (some p)) :
    VMid c S p w s deep most (ifB bad (spR Y)) T (sp r) b m w3 := by
  subst hS0
  have hl1 := sp_len s
  have hl2 := sp_len r
  refine ⟨hz, hg.trans (h.gr.trans hg2), (tl_sp s).trans (h.tl.trans (tl_sp r)), ?_⟩
  have hr := h.res
  cases hY : ifB bad Y with
  | none =>
    rw [hY] at hr
    have e : ifB bad (spR Y) = none := by
      unfold ifB at hY ⊢
      cases bad with
      | true => rfl
      | false =>
        have : Y = none := by simpa using hY
        rw [this]; rfl
    rw [e]
    exact ⟨hr.1, by have := hr.2; omega⟩
  | some y =>
    obtain ⟨j, r0⟩ := y
    rw [hY] at hr
    obtain ⟨hb, hY2⟩ := ifB_some hY
    have e : ifB bad (spR Y) = some (j, sp r0) := by
      rw [hb, hY2]; rfl
    rw [e]
    exact ⟨hr.1, by rw [hr.2.1], hr.2.2.1, hr.2.2.2⟩
theorem vmid_word {c : Nat} (hc : 40 ≤ c) {S : Bs} {p : Nat} {w w' : World} {s B : Bs} {j : J} {deep most : Nat} {bad : Bool} (hz : ZS S w' p (wordF B s bad).1 deep most (wordF B s bad).2) (hg : w.grownBy w' (some p)) (hB : formJ j = B) (hl : B.length ≤ 10) (hd : deepJ j = 0) (hdm : bad = false → deep ≤ most) :
    VMid c S p w s deep most (ifB bad (wordP B j s)) B (wordF B s bad).1 (wordF B s bad).2 most w' := by
  have htl := wordF_tl B s bad
  refine ⟨hz, hg, htl, ?_⟩
  have h := wordF_P B s j bad
  cases hY : ifB bad (wordP B j s) with
  | none =>
    refine ⟨?_, by have := htl.len; omega⟩
    unfold ifB at hY
    cases bad with
    | true => exact wordF_bad B s
    | false =>
      have : wordP B j s = none := by simpa using hY
      rw [this] at h
      exact h
  | some y =>
    obtain ⟨j', r0⟩ := y
    obtain ⟨hb, hY2⟩ := ifB_some hY
    obtain ⟨-, rfl⟩ := word_inv _ _ _ _ _ hY2
    rw [hY2] at h
    simp only [] at h
    rw [h]
    exact ⟨hB.symm, rfl, hb, by rw [hd]; have := hdm hb; omega⟩
theorem vmid_num {c : Nat} (hc : 40 ≤ c) {S : Bs} {p : Nat} {w w' : World} {s T : Bs} {deep most : Nat} {bad : Bool} (hs : s = T ++ (numF s bad).1) (hz : ZT S p deep most w (numF s bad) w') (hdm : bad = false → deep ≤ most) :
    VMid c S p w s deep most (ifB bad (numP s)) T (numF s bad).1 (numF s bad).2 most w' := by
  obtain ⟨h1, h2, htl⟩ := num_F s bad
  have hbb : bad = true → (numF s bad).2 = true := by
    intro e
    by_cases h0 : numN s = 0
    · exact h2 h0
    · rw [h1 h0]; exact e
  refine ⟨hz.1, hz.2, htl, ?_⟩
  have hl := congrArg List.length hs
  rw [List.length_append] at hl
  cases hY : ifB bad (numP s) with
  | none =>
    refine ⟨?_, by omega⟩
    unfold ifB at hY
    cases hbad : bad with
    | true => rw [hbad] at hbb; exact hbb rfl
    | false =>
      rw [hbad] at hY h2
      have : numP s = none := by simpa using hY
      unfold numP at this
      split at this
      · rename_i h0
        exact h2 h0
      · cases this
  | some y =>
    obtain ⟨j', r0⟩ := y
    obtain ⟨hb, hY2⟩ := ifB_some hY
    unfold numP at hY2
    split at hY2
    · cases hY2
    · rename_i h0
      cases hY2
      have e := h1 h0
      rw [e] at hs ⊢
      simp only [] at hs
      have hT : T = s.take (numN s) := by
        have h3 : T ++ s.drop (numN s) = s.take (numN s) ++ s.drop (numN s) := by rw [List.take_append_drop]; exact hs.symm
        exact List.append_cancel_right h3
      exact ⟨hT, rfl, hb, by simp only [deepJ]; have := hdm hb; omega⟩
theorem vmid_str {c : Nat} (hc : 40 ≤ c) {S : Bs} {p : Nat} {w w1 w' : World} {s T r : Bs} {b : Bool} {deep most : Nat} {bad : Bool} (hz : ZS S w1 p r deep most b) (hg : w.grownBy w1 (some p)) (htl : Tl s r) (hl : T.length + r.length ≤ s.length + 4) (hX : match (if bad then none else textP s) with
    | some (t, r0) => T = t ∧ r = r0 ∧ b = false
    | none => b = true) (hb1 : Below w1.heap.size w1 w') (hdm : bad = false → deep ≤ most) :
    VMid c S p w s deep most (ifB bad (strPJ s)) (quote T) r b most w' := by
  refine ⟨hz.keptB hb1, hg.trans (grown_of_below hb1 _), htl, ?_⟩
  have hq : (quote T).length ≤ 6 * T.length + 2 := by
    have := escS_len T
    simp only [quote, List.length_cons, List.length_append, List.length_nil]
    omega
  have hrl := htl.len
  cases bad with
  | true => exact ⟨hX, by omega⟩
  | false =>
    simp only [ifB, Bool.false_eq_true, if_false] at hX ⊢
    unfold strPJ
    cases ht : textP s with
    | none =>
      rw [ht] at hX
      exact ⟨hX, by omega⟩
    | some y =>
      obtain ⟨t, r0⟩ := y
      rw [ht] at hX
      obtain ⟨rfl, rfl, h3⟩ := hX
      exact ⟨rfl, rfl, h3, by simp only [deepJ]; have := hdm rfl; omega⟩
/-- What a list leaves, whichever it is. -/
def ListZ (k : Nat) (S : Bs) (p : Nat) (s : Bs) (deep most : Nat) (bad : Bool) (o c : UInt8) (val : Bs → Option (J × Bs)) : Prop := ∀ W, ZS S W p (o :: s) deep most bad → Calls Tryz.prog 104 #[.pointer (some ⟨p, 0, none⟩), .int .u8 (o.toNat : Int), .int .u8 (c.toNat : Int)] W (ValF k S p W (o :: s) deep most (ifB bad (val s)))
end Go.Proofs.YtljnbbdhmlfhjaaGreatDoor
/-
  The document's JSON reader: Value.
-/
namespace Go.Proofs.YtljnbbdhmlfhjaaGreatDoor
open Go.RowKit
set_option maxRecDepth 100000 in
set_option maxHeartbeats 40000000 in
theorem z_value_core (cc : Nat) (hcc : 40 ≤ cc) (S : Bs) (p : Nat) (w : World) (s : Bs) (deep most : Nat) (bad : Bool) (k : Nat) (hS2 : S.length ≤ 1099511620000) (h : ZS S w p s deep most bad) (hdm : bad = false → deep ≤ most)
    (LA : ∀ S', sp s = 91 :: S' → ListZ cc S p S' deep most bad 91 93 (arrP (valP k))) (LO : ∀ S', sp s = 123 :: S' → ListZ cc S p S' deep most bad 123 125 (objP (valP k))) :
    Calls Tryz.prog 66 #[.pointer (some ⟨p, 0, none⟩)] w (ValF cc S p w s deep most (ifB bad (valP (k + 1) s))) := by
  have hpw := h.lt
  have HDM := Lib.hid hdm
  have hS : S.length ≤ 1099511627776 := by omega
  have HS := Lib.hid hS
  have HS2 := Lib.hid hS2
  have hsl := h.len
  have C1 := z_space S p w s deep most bad hS h
  obtain ⟨S0, hS0⟩ : ∃ S0, sp s = S0 := ⟨_, rfl⟩
  have hv : valP (k + 1) s = spR (barP (valP k) S0) := by rw [valP, hS0]
  rw [hv]
  have hsl0 : S0.length ≤ s.length := by rw [← hS0]; exact sp_len s
  have HS0 := Lib.hid hS0
  rw [hS0] at C1 LA LO
  have CPK := Lib.hid (fun W (hW : ZS S W p S0 deep most bad) => z_peek S p W S0 deep most bad hS hW)
  have CSP := Lib.hid (fun W r m b (hW : ZS S W p r deep m b) => z_space S p W r deep m b hS hW)
  have HLA := Lib.hid LA
  have HLO := Lib.hid LO
  have e110 := headN_beq S0 110 110 rfl (by decide)
  have e116 := headN_beq S0 116 116 rfl (by decide)
  have e102 := headN_beq S0 102 102 rfl (by decide)
  have e34 := headN_beq S0 34 34 rfl (by decide)
  have e91 := headN_beq S0 91 91 rfl (by decide)
  have e123 := headN_beq S0 123 123 rfl (by decide)
  clear h hS0 hv LA LO hdm hS hS2
  by_cases h0 : S0.head? = some 110
  · rw [decide_eq_true h0] at e110
    have hb : barP (valP k) S0 = wordP nullB .nul S0 := by unfold barP; rw [if_pos h0]
    rw [hb]
    have CW := Lib.hid (fun W (hW : ZS S W p S0 deep most bad) => z_word ⟨#[110, 117, 108, 108]⟩ S p W S0 deep most bad HS.out (by decide) hW)
    rw [show (⟨#[110, 117, 108, 108]⟩ : ByteArray).data.toList = nullB from rfl] at CW
    clear h0 e116 e102 e34 e91 e123 hb
    generalize (headN S0 : Int) = x at *
    go_enter Tryz.func66, Tryz.ntmps66
    go_upto_region 17 with (first | (go_at_call 100; refine C1.mono ?_; rintro e w2 ⟨rfl, hz2, hg2⟩; have H2 := Lib.hid (And.intro hz2 hg2); have C2 := CPK.out _ hz2; clear hz2 hg2 C1) | (go_at_call 101; refine C2.mono ?_; rintro e w3 ⟨rfl, hb3⟩; have H3 := Lib.hid (And.intro (H2.out.1.keptB hb3) (H2.out.2.trans (grown_of_below hb3 (some p)))); clear hb3 C2) | (go_at_call 102; refine (CW.out _ H3.out.1).mono ?_; rintro e w5 ⟨rfl, hz5, hg5⟩; have HM := Lib.hid (vmid_word hcc (j := .nul) (w := w3) hz5 hg5 rfl (by decide) rfl HDM.out); clear hz5 hg5))
    have C5 := CSP.out w5 _ _ _ HM.out.st
    go_wp2_with (go_at_call 100; refine C5.mono ?_; rintro e w6 ⟨rfl, hz6, hg6⟩; have H6 := Lib.hid (And.intro hz6 hg6); clear hz6 hg6)
    go_ret
    exact ⟨_, _, _, _, rfl, VMid.pad HS0.out HM.out H3.out.2 H6.out.1 H6.out.2⟩
  by_cases h1 : S0.head? = some 116
  · rw [decide_eq_false h0] at e110
    rw [decide_eq_true h1] at e116
    have hb : barP (valP k) S0 = wordP trueB (.bool true) S0 := by unfold barP; rw [if_neg h0, if_pos h1]
    rw [hb]
    have CW := Lib.hid (fun W (hW : ZS S W p S0 deep most bad) => z_word ⟨#[116, 114, 117, 101]⟩ S p W S0 deep most bad HS.out (by decide) hW)
    rw [show (⟨#[116, 114, 117, 101]⟩ : ByteArray).data.toList = trueB from rfl] at CW
    clear h0 h1 e102 e34 e91 e123 hb
    generalize (headN S0 : Int) = x at *
    go_enter Tryz.func66, Tryz.ntmps66
    go_upto_region 17 with (first | (go_at_call 100; refine C1.mono ?_; rintro e w2 ⟨rfl, hz2, hg2⟩; have H2 := Lib.hid (And.intro hz2 hg2); have C2 := CPK.out _ hz2; clear hz2 hg2 C1) | (go_at_call 101; refine C2.mono ?_; rintro e w3 ⟨rfl, hb3⟩; have H3 := Lib.hid (And.intro (H2.out.1.keptB hb3) (H2.out.2.trans (grown_of_below hb3 (some p)))); clear hb3 C2) | (go_at_call 102; refine (CW.out _ H3.out.1).mono ?_; rintro e w5 ⟨rfl, hz5, hg5⟩; have HM := Lib.hid (vmid_word hcc (j := (.bool true)) (w := w3) hz5 hg5 rfl (by decide) rfl HDM.out); clear hz5 hg5))
    have C5 := CSP.out w5 _ _ _ HM.out.st
    go_wp2_with (go_at_call 100; refine C5.mono ?_; rintro e w6 ⟨rfl, hz6, hg6⟩; have H6 := Lib.hid (And.intro hz6 hg6); clear hz6 hg6)
    go_ret
    exact ⟨_, _, _, _, rfl, VMid.pad HS0.out HM.out H3.out.2 H6.out.1 H6.out.2⟩
  by_cases h2 : S0.head? = some 102
  · rw [decide_eq_false h0] at e110
    rw [decide_eq_false h1] at e116
    rw [decide_eq_true h2] at e102
    have hb : barP (valP k) S0 = wordP falseB (.bool false) S0 := by unfold barP; rw [if_neg h0, if_neg h1, if_pos h2]
    rw [hb]
    have CW := Lib.hid (fun W (hW : ZS S W p S0 deep most bad) => z_word ⟨#[102, 97, 108, 115, 101]⟩ S p W S0 deep most bad HS.out (by decide) hW)
    rw [show (⟨#[102, 97, 108, 115, 101]⟩ : ByteArray).data.toList = falseB from rfl] at CW
    clear h0 h1 h2 e34 e91 e123 hb
    generalize (headN S0 : Int) = x at *
    go_enter Tryz.func66, Tryz.ntmps66
    go_upto_region 17 with (first | (go_at_call 100; refine C1.mono ?_; rintro e w2 ⟨rfl, hz2, hg2⟩; have H2 := Lib.hid (And.intro hz2 hg2); have C2 := CPK.out _ hz2; clear hz2 hg2 C1) | (go_at_call 101; refine C2.mono ?_; rintro e w3 ⟨rfl, hb3⟩; have H3 := Lib.hid (And.intro (H2.out.1.keptB hb3) (H2.out.2.trans (grown_of_below hb3 (some p)))); clear hb3 C2) | (go_at_call 102; refine (CW.out _ H3.out.1).mono ?_; rintro e w5 ⟨rfl, hz5, hg5⟩; have HM := Lib.hid (vmid_word hcc (j := (.bool false)) (w := w3) hz5 hg5 rfl (by decide) rfl HDM.out); clear hz5 hg5))
    have C5 := CSP.out w5 _ _ _ HM.out.st
    go_wp2_with (go_at_call 100; refine C5.mono ?_; rintro e w6 ⟨rfl, hz6, hg6⟩; have H6 := Lib.hid (And.intro hz6 hg6); clear hz6 hg6)
    go_ret
    exact ⟨_, _, _, _, rfl, VMid.pad HS0.out HM.out H3.out.2 H6.out.1 H6.out.2⟩
  by_cases h3 : S0.head? = some 34
  · rw [decide_eq_false h0] at e110
    rw [decide_eq_false h1] at e116
    rw [decide_eq_false h2] at e102
    rw [decide_eq_true h3] at e34
    have hb : barP (valP k) S0 = strPJ S0 := by unfold barP; rw [if_neg h0, if_neg h1, if_neg h2, if_pos h3]
    rw [hb]
    have CT := Lib.hid (fun W (hW : ZS S W p S0 deep most bad) => z_text S p W S0 deep most bad HS.out hW)
    have CQ := Lib.hid (fun (T : Bs) (hT : T.length ≤ 1099511627776) W => ref_Quote ⟨T.toArray⟩ W (by simpa [ByteArray.size] using hT))
    clear h0 h1 h2 h3 e91 e123 hb
    generalize (headN S0 : Int) = x at *
    go_enter Tryz.func66, Tryz.ntmps66
    go_upto_region 17 with (first | (go_at_call 100; refine C1.mono ?_; rintro e w2 ⟨rfl, hz2, hg2⟩; have H2 := Lib.hid (And.intro hz2 hg2); have C2 := CPK.out _ hz2; clear hz2 hg2 C1) | (go_at_call 101; refine C2.mono ?_; rintro e w3 ⟨rfl, hb3⟩; have H3 := Lib.hid (And.intro (H2.out.1.keptB hb3) (H2.out.2.trans (grown_of_below hb3 (some p)))); clear hb3 C2) | (go_at_call 103; refine (CT.out _ H3.out.1).mono ?_; rintro e w4 ⟨T, r, b, rfl, hz4, hg4, htl, hl, hX⟩; have CQ2 := CQ.out T (by have := HS2.out; omega) w4; have H4 := Lib.hid (And.intro hz4 (And.intro hg4 (And.intro htl (And.intro hl hX)))); clear hz4 hg4 htl hl hX) | (go_at_call 38; refine CQ2.mono ?_; rintro e w5 ⟨rfl, hb5⟩; have HM := Lib.hid (vmid_str hcc H4.out.1 H4.out.2.1 H4.out.2.2.1 H4.out.2.2.2.1 H4.out.2.2.2.2 hb5 HDM.out); clear hb5))
    have C5 := CSP.out w5 _ _ _ HM.out.st
    go_wp2_with (go_at_call 100; refine C5.mono ?_; rintro e w6 ⟨rfl, hz6, hg6⟩; have H6 := Lib.hid (And.intro hz6 hg6); clear hz6 hg6)
    go_ret
    exact ⟨_, _, _, _, rfl, VMid.pad HS0.out HM.out H3.out.2 H6.out.1 H6.out.2⟩
  by_cases h4 : S0.head? = some 91
  · rw [decide_eq_false h0] at e110
    rw [decide_eq_false h1] at e116
    rw [decide_eq_false h2] at e102
    rw [decide_eq_false h3] at e34
    rw [decide_eq_true h4] at e91
    have hb : barP (valP k) S0 = arrP (valP k) (S0.drop 1) := by unfold barP; rw [if_neg h0, if_neg h1, if_neg h2, if_neg h3, if_pos h4]
    rw [hb]
    have hcons := head_cons h4
    have CL := Lib.hid (fun W (hW : ZS S W p S0 deep most bad) => HLA.out (S0.drop 1) hcons W (hcons ▸ hW))
    rw [← hcons] at CL
    clear h0 h1 h2 h3 h4 e123 hb hcons
    generalize (headN S0 : Int) = x at *
    go_enter Tryz.func66, Tryz.ntmps66
    go_upto_region 17 with (first | (go_at_call 100; refine C1.mono ?_; rintro e w2 ⟨rfl, hz2, hg2⟩; have H2 := Lib.hid (And.intro hz2 hg2); have C2 := CPK.out _ hz2; clear hz2 hg2 C1) | (go_at_call 101; refine C2.mono ?_; rintro e w3 ⟨rfl, hb3⟩; have H3 := Lib.hid (And.intro (H2.out.1.keptB hb3) (H2.out.2.trans (grown_of_below hb3 (some p)))); clear hb3 C2) | (go_at_call 104; refine (CL.out _ H3.out.1).mono ?_; rintro e w5 ⟨T, r, b, m, rfl, hm⟩; have HM := Lib.hid hm; clear hm))
    have C5 := CSP.out w5 _ _ _ HM.out.st
    go_wp2_with (go_at_call 100; refine C5.mono ?_; rintro e w6 ⟨rfl, hz6, hg6⟩; have H6 := Lib.hid (And.intro hz6 hg6); clear hz6 hg6)
    go_ret
    exact ⟨_, _, _, _, rfl, VMid.pad HS0.out HM.out H3.out.2 H6.out.1 H6.out.2⟩
  by_cases h5 : S0.head? = some 123
  · rw [decide_eq_false h0] at e110
    rw [decide_eq_false h1] at e116
    rw [decide_eq_false h2] at e102
    rw [decide_eq_false h3] at e34
    rw [decide_eq_false h4] at e91
    rw [decide_eq_true h5] at e123
    have hb : barP (valP k) S0 = objP (valP k) (S0.drop 1) := by unfold barP; rw [if_neg h0, if_neg h1, if_neg h2, if_neg h3, if_neg h4, if_pos h5]
    rw [hb]
    have hcons := head_cons h5
    have CL := Lib.hid (fun W (hW : ZS S W p S0 deep most bad) => HLO.out (S0.drop 1) hcons W (hcons ▸ hW))
    rw [← hcons] at CL
    clear h0 h1 h2 h3 h4 h5  hb hcons
    generalize (headN S0 : Int) = x at *
    go_enter Tryz.func66, Tryz.ntmps66
    go_upto_region 17 with (first | (go_at_call 100; refine C1.mono ?_; rintro e w2 ⟨rfl, hz2, hg2⟩; have H2 := Lib.hid (And.intro hz2 hg2); have C2 := CPK.out _ hz2; clear hz2 hg2 C1) | (go_at_call 101; refine C2.mono ?_; rintro e w3 ⟨rfl, hb3⟩; have H3 := Lib.hid (And.intro (H2.out.1.keptB hb3) (H2.out.2.trans (grown_of_below hb3 (some p)))); clear hb3 C2) | (go_at_call 104; refine (CL.out _ H3.out.1).mono ?_; rintro e w5 ⟨T, r, b, m, rfl, hm⟩; have HM := Lib.hid hm; clear hm))
    have C5 := CSP.out w5 _ _ _ HM.out.st
    go_wp2_with (go_at_call 100; refine C5.mono ?_; rintro e w6 ⟨rfl, hz6, hg6⟩; have H6 := Lib.hid (And.intro hz6 hg6); clear hz6 hg6)
    go_ret
    exact ⟨_, _, _, _, rfl, VMid.pad HS0.out HM.out H3.out.2 H6.out.1 H6.out.2⟩
  have hb : barP (valP k) S0 = numP S0 := by unfold barP; rw [if_neg h0, if_neg h1, if_neg h2, if_neg h3, if_neg h4, if_neg h5]
  rw [hb]
  rw [decide_eq_false h0] at e110
  rw [decide_eq_false h1] at e116
  rw [decide_eq_false h2] at e102
  rw [decide_eq_false h3] at e34
  rw [decide_eq_false h4] at e91
  rw [decide_eq_false h5] at e123
  have CN := Lib.hid (fun W (hW : ZS S W p S0 deep most bad) => z_number S p W S0 deep most bad HS.out hW)
  clear h0 h1 h2 h3 h4 h5 hb
  generalize (headN S0 : Int) = x at *
  go_enter Tryz.func66, Tryz.ntmps66
  go_upto_region 17 with (first | (go_at_call 100; refine C1.mono ?_; rintro e w2 ⟨rfl, hz2, hg2⟩; have H2 := Lib.hid (And.intro hz2 hg2); have C2 := CPK.out _ hz2; clear hz2 hg2 C1) | (go_at_call 101; refine C2.mono ?_; rintro e w3 ⟨rfl, hb3⟩; have H3 := Lib.hid (And.intro (H2.out.1.keptB hb3) (H2.out.2.trans (grown_of_below hb3 (some p)))); clear hb3 C2) | (go_at_call 105; refine (CN.out _ H3.out.1).mono ?_; rintro e w5 ⟨T, rfl, hT, hz5⟩; have HM := Lib.hid (vmid_num hcc hT hz5 HDM.out); clear hT hz5))
  have C5 := CSP.out w5 _ _ _ HM.out.st
  go_wp2_with (go_at_call 100; refine C5.mono ?_; rintro e w6 ⟨rfl, hz6, hg6⟩; have H6 := Lib.hid (And.intro hz6 hg6); clear hz6 hg6)
  go_ret
  exact ⟨_, _, _, _, rfl, VMid.pad HS0.out HM.out H3.out.2 H6.out.1 H6.out.2⟩
end Go.Proofs.YtljnbbdhmlfhjaaGreatDoor
/-
  The document's JSON reader: a list, where it is bad already.
-/
namespace Go.Proofs.YtljnbbdhmlfhjaaGreatDoor
open Go.RowKit
/-- string([]byte{c}). -/
theorem conv_lit (o : UInt8) (z : Int) (hz : z = (o.toNat : Int)) (W : World) (B : Nat) (hB : W.heap.size = B) :
    (convert 22 9 (.slice (some ⟨B, 0, none⟩) 1 1)).run Tryz.prog (W.alloc (.cells #[.int .u8 z] 5)) = .ok (.string ⟨#[o]⟩) (W.alloc (.cells #[.int .u8 z] 5)) := by
  subst hz hB
  exact conv_owned (l := [o]) Tryz.underlying22 Tryz.underlying5 Tryz.underlying9 (owns_new W #[.int .u8 (o.toNat : Int)] 5 1 rfl (by decide))
/-- The state of a list that has begun. -/
theorem ZS.begun {S : Bs} {w w1 : World} {p : Nat} {s : Bs} {deep most : Nat} {bad : Bool} (h : ZS S w p s deep most bad) (hb : Below w.heap.size w w1) (z : Int) (hz : z = ((deep + 1 : Nat) : Int)) :
    ZS S (w1.setCell ⟨p, 2, none⟩ (.int .i64 z)) p s (deep + 1) most bad ∧ w.grownBy (w1.setCell ⟨p, 2, none⟩ (.int .i64 z)) (some p) := by
  have := (h.keptB hb).setDeep (deep + 1) z hz
  exact ⟨this.1, (grown_of_below hb _).trans this.2⟩
set_option maxRecDepth 100000 in
set_option maxHeartbeats 40000000 in
theorem z_list_bad (S : Bs) (p : Nat) (w : World) (s : Bs) (deep most : Nat) (o c : UInt8) (hS2 : S.length ≤ 1099511620000) (h : ZS S w p (o :: s) deep most true) (hd : deep ≤ 1099511627776) (val : Bs → Option (J × Bs)) :
    Calls Tryz.prog 104 #[.pointer (some ⟨p, 0, none⟩), .int .u8 (o.toNat : Int), .int .u8 (c.toNat : Int)] w (ValF 40 S p w (o :: s) deep most (ifB true (val s))) := by
  have hS : S.length ≤ 1099511627776 := by omega
  have HS := Lib.hid hS
  have C1 := z_isZ (o.toNat : Int) o rfl S p w (o :: s) deep most true hS h
  rw [show isF o (o :: s) = s from by simp [isF]] at C1
  have hcv1 := conv_lit o (o.toNat : Int) rfl
  have hcv3 := fun (W : World) (q : Nat) => conv_lit o (o.toNat : Int) rfl (W.drewN q) W.heap.size rfl
  have hcv2 := conv_lit c (c.toNat : Int) rfl
  have HC2 := Lib.hid (fun W m r (hW : ZS S W p r (deep + 1) m true) => z_isZ (c.toNat : Int) c rfl S p W r (deep + 1) m true hS hW)
  have HSP := Lib.hid (fun W m r (hW : ZS S W p r (deep + 1) m true) => z_space S p W r (deep + 1) m true hS hW)
  clear h hS hS2
  generalize (o.toNat : Int) = oz at *
  generalize (c.toNat : Int) = cz at *
  go_enter Tryz.func104, Tryz.ntmps104
  go_upto_region 2 with (go_at_call 132; refine C1.mono ?_; rintro e w1 ⟨rfl, hz1, hg1⟩; have H1 := Lib.hid (And.intro hz1 hg1); obtain ⟨⟨-, c2, c3⟩, ff⟩ := hz1.flag; have f2 := ff 2; have f3 := ff 3; clear hz1 hg1 ff)
  go_upto_region 3 with fail
  have hst2 := H1.out.1.begun (Below.refl _ _) ((deep : Int) + 1) (by omega)
  obtain ⟨w2, hw2⟩ : ∃ w2, w1.setCell ⟨p, 2, none⟩ (.int .i64 ((deep : Int) + 1)) = w2 := ⟨_, rfl⟩
  rw [hw2] at hst2 ⊢
  have H2 := Lib.hid (And.intro hst2.1 (H1.out.2.trans hst2.2))
  clear hst2 hw2 c2 c3 f2 f3 C1 H1
  obtain ⟨⟨-, c2, c3⟩, ff⟩ := H2.out.1.flag
  have f3 := ff 3
  clear ff
  obtain ⟨M, hM⟩ : ∃ M, max most (deep + 1) = M := ⟨_, rfl⟩
  have hdw : deep ≤ 1099511627776 := hd
  by_cases hm : most < deep + 1
  case' pos =>
    have d2 : decide (most < deep + 1) = true := decide_eq_true (by omega)
    have hM2 : M = deep + 1 := by omega
    subst hM2
    go_quiet (fail)
    go_upto_region 6 with fail
    have h3 := (H2.out.1.keptB (below_drewN (Below.refl _ _) nq)).setMost (deep + 1) ((deep : Int) + 1) (by omega)
    have h4 := belowAJ (o := .cells #[.int .u8 oz] 5) (Below.refl ((w2.drewN nq).setCell ⟨p, 3, none⟩ (.int .i64 ((deep : Int) + 1))).heap.size ((w2.drewN nq).setCell ⟨p, 3, none⟩ (.int .i64 ((deep : Int) + 1)))) (Nat.le_refl _)
    have H6 := Lib.hid (And.intro (h3.1.keptB h4) (((H2.out.2.trans (grown_of_below (below_drewN (Below.refl w2.heap.size w2) nq) _)).trans h3.2).trans (grown_of_below h4 _)))
    clear h3 h4 c2 c3 f3 d2
    obtain ⟨w6, hw6⟩ : ∃ w6, ((w2.drewN nq).setCell ⟨p, 3, none⟩ (.int .i64 ((deep : Int) + 1))).alloc (.cells #[.int .u8 oz] 5) = w6 := ⟨_, rfl⟩
    rw [hw6] at H6 ⊢
    clear hw6
  case' neg =>
    have d2 : decide (most < deep + 1) = false := decide_eq_false (by omega)
    have d3 : decide ((most : Int) < (deep : Int) + 1) = false := decide_eq_false (by omega)
    have hM2 : most = M := by omega
    subst hM2
    go_quiet (fail)
    go_upto_region 6 with fail
    have h4 := belowAJ (o := .cells #[.int .u8 oz] 5) (Below.refl (w2.drewN nq).heap.size (w2.drewN nq)) (Nat.le_refl _)
    have H6 := Lib.hid (And.intro ((H2.out.1.keptB (below_drewN (Below.refl _ _) nq)).keptB h4) ((H2.out.2.trans (grown_of_below (below_drewN (Below.refl w2.heap.size w2) nq) _)).trans (grown_of_below h4 _)))
    clear h4 c2 c3 f3 d2 d3
    obtain ⟨w6, hw6⟩ : ∃ w6, (w2.drewN nq).alloc (.cells #[.int .u8 oz] 5) = w6 := ⟨_, rfl⟩
    rw [hw6] at H6 ⊢
    clear hw6
  all_goals
    have C6 := HSP.out w6 _ s H6.out.1
    clear hM hm hcv1 hcv3
    go_upto_region 7 with (go_at_call 100; refine C6.mono ?_; rintro e w7 ⟨rfl, hz7, hg7⟩; have H7 := Lib.hid (And.intro hz7 (H6.out.2.trans hg7)); clear hz7 hg7)
    have C7 := HC2.out w7 _ _ H7.out.1
    obtain ⟨q, hq⟩ : ∃ q, hasB c (sp s) = q := ⟨_, rfl⟩
    rw [hq] at C7
    clear hq C6
    cases q with
    | true =>
      go_upto_region 23 with (go_at_call 132; refine C7.mono ?_; rintro e w8 ⟨rfl, hz8, hg8⟩; have H8 := Lib.hid (And.intro hz8 (H7.out.2.trans hg8)); obtain ⟨⟨-, c2, -⟩, ff⟩ := hz8.flag; have f2 := ff 2; clear hz8 hg8 ff)
      have h9 := H8.out.1.setDeep deep (deep : Int) rfl
      have h4 := belowAJ (o := .cells #[.int .u8 cz] 5) (Below.refl (w8.setCell ⟨p, 2, none⟩ (.int .i64 (deep : Int))).heap.size (w8.setCell ⟨p, 2, none⟩ (.int .i64 (deep : Int)))) (Nat.le_refl _)
      have H9 := Lib.hid (And.intro (h9.1.keptB h4) ((H8.out.2.trans h9.2).trans (grown_of_below h4 _)))
      clear h9 h4
      go_wp2
      go_ret
      refine ⟨[o, c], _, _, _, rfl, H9.out.1, H9.out.2, (tl_drop 1 (o :: s)).trans ((tl_sp s).trans (tl_isF c _)), rfl, ?_⟩
      have h1 := sp_len s
      have h2 := (isF_len c (sp s)).1
      simp only [List.length_cons, List.length_nil]
      omega
    | false =>
      go_upto_region 9 with (go_at_call 132; refine C7.mono ?_; rintro e w8 ⟨rfl, hz8, hg8⟩; have H8 := Lib.hid (And.intro hz8 (H7.out.2.trans hg8)); clear hz8 hg8)
      go_loopw [7] (fun ov wr => ov = .string ⟨#[o]⟩ ∧ wr = w8) (fun _ _ => 0)
      case atStart => exact ⟨rfl, rfl⟩
      case round =>
        obtain ⟨rfl, rfl⟩ := hrel
        obtain ⟨⟨c4, c2, -⟩, ff⟩ := H8.out.1.flag
        have f2 := ff 2
        have f4 := ff 4
        clear ff
        have h9 := H8.out.1.setDeep deep (deep : Int) rfl
        have h4 := belowAJ (o := .cells #[.int .u8 cz] 5) (Below.refl (wr.setCell ⟨p, 2, none⟩ (.int .i64 (deep : Int))).heap.size (wr.setCell ⟨p, 2, none⟩ (.int .i64 (deep : Int)))) (Nat.le_refl _)
        have H9 := Lib.hid (And.intro (h9.1.keptB h4) ((H8.out.2.trans h9.2).trans (grown_of_below h4 _)))
        clear h9 h4
        go_wp2
        go_ret
        refine ⟨[o, c], _, _, _, rfl, H9.out.1, H9.out.2, (tl_drop 1 (o :: s)).trans ((tl_sp s).trans (tl_isF c _)), rfl, ?_⟩
        have h1 := sp_len s
        have h2 := (isF_len c (sp s)).1
        simp only [List.length_cons, List.length_nil]
        omega
end Go.Proofs.YtljnbbdhmlfhjaaGreatDoor
