/-
  record's reader: number, count.
-/
import Derived.Test.YtljnbbdhmlfhjaaGreatDoorRecAll
import Derived.Deep.QuietTactic
import Derived.BigQuiet
namespace Go.Proofs.YtljnbbdhmlfhjaaGreatDoor
open Go.RowKit
theorem grown_set (w : World) (b j : Nat) (v : Value) : w.grownBy (w.setCell ⟨b, j, none⟩ v) (some b) :=
  ⟨rfl, rfl, rfl, by simp, fun k hk h => Below.heap_setCell _ _ _ _ (fun e => h (by rw [e]))⟩
theorem grown_trans {w w1 w2 : World} {row : Option Nat} (h1 : w.grownBy w1 row) (h2 : w1.grownBy w2 row) : w.grownBy w2 row :=
  ⟨by rw [h2.os, h1.os], by rw [h2.tape, h1.tape], by rw [h2.output, h1.output], Nat.le_trans h1.size h2.size, fun k hk h => by rw [h2.block k (Nat.lt_of_lt_of_le hk h1.size) h, h1.block k hk h]⟩
theorem vget_ok {b : List UInt8} {at' n c : Nat} (hle : at' ≤ b.length) (h : num (b.drop at') = .ok (n, c)) : vget b (at' : Int) = (0, n, at' + c) ∧ at' + c ≤ b.length := by
  have hl := num_reads.len h
  rw [List.length_drop] at hl
  refine ⟨?_, by omega⟩
  unfold num at h
  split at h
  · rename_i h0
    obtain ⟨h1, h2⟩ := Prod.mk.inj (Except.ok.inj h)
    unfold vget
    rw [if_neg (by omega), Int.toNat_natCast, if_pos h0, h1, h2]
  · cases h
theorem vget_err {b : List UInt8} {at' : Nat} {E : Int} (hle : at' ≤ b.length) (h : num (b.drop at') = .error E) : vget b (at' : Int) = (E, 0, 0) ∧ E ≠ 0 := by
  unfold num at h
  split at h
  · cases h
  · rename_i h0
    have h1 := Except.error.inj h
    unfold vget
    rw [if_neg (by omega), Int.toNat_natCast, if_neg h0, h1]
    exact ⟨rfl, by rw [← h1]; exact h0⟩
end Go.Proofs.YtljnbbdhmlfhjaaGreatDoor
/-
  record's reader: text, count.
-/
namespace Go.Proofs.YtljnbbdhmlfhjaaGreatDoor
open Go.RowKit
def cntN (most : Nat) : Rdr Nat := fun T => match num T with
  | .error e => .error e
  | .ok (n, c) => if most < n then .error 3 else .ok (n, c)
end Go.Proofs.YtljnbbdhmlfhjaaGreatDoor
/-
  record's reader: text.
-/
namespace Go.Proofs.YtljnbbdhmlfhjaaGreatDoor
open Go.RowKit
theorem txt_num_err {T : List UInt8} {E : Int} (h : num T = .error E) : strP T = .error E := by
  unfold strP mapP txtP
  rw [h]
theorem txt_short {T : List UInt8} {n c : Nat} (h : num T = .ok (n, c)) (hs : T.length - c < n) : strP T = .error 5 := by
  unfold strP mapP txtP
  rw [h]
  simp only
  rw [if_pos hs]
theorem txt_ok {T : List UInt8} {n c : Nat} (h : num T = .ok (n, c)) (hs : ¬ T.length - c < n) : strP T = .ok (⟨((T.drop c).take n).toArray⟩, c + n) := by
  unfold strP mapP txtP
  rw [h]
  simp only
  rw [if_neg hs]
/-- string(b[lo:lo+n]) of bytes that came in. -/
theorem slice_conv {w0 W : World} {b : List UInt8} {b0 off ca : Nat} (hrow : argRow w0 (.slice (some ⟨b0, off, none⟩) b.length ca) b.length 1 (Lib.byteCells b)) (hb : Below w0.heap.size w0 W) {lo n : Nat} (h : lo + n ≤ b.length) (hn : 0 < n) (cap : Nat) :
    (convert 22 9 (.slice (some ⟨b0, off + lo, none⟩) n cap)).run Tryz.prog W = .ok (.string ⟨((b.drop lo).take n).toArray⟩) W := by
  obtain ⟨_, a, c, e, _, _, hcs⟩ := hrow
  cases e
  obtain ⟨b1, o1, e, hlt, hcell⟩ := hcs (by omega)
  cases e
  have hl : ((b.drop lo).take n).length = n := by rw [List.length_take, List.length_drop]; omega
  have := conv_cells (P := Tryz.prog) (w := W) (cap := cap) (src := 22) (dst := 9) (g := b0) (off := off + lo) (l := (b.drop lo).take n) Tryz.underlying22 Tryz.underlying5 Tryz.underlying9 (fun j hj => by
    rw [hl] at hj
    rw [hb.cell (p := ⟨b0, _, none⟩) hlt, Nat.add_assoc, hcell (lo + j) (by simp [Lib.byteCells]; omega)]
    simp [Lib.byteCells])
  rw [hl] at this
  exact this
theorem w64_nat {z : Int} (n : Nat) (h : z = (n : Int)) (hn : n ≤ 9000000000000000000) : wrap64 z = (n : Int) := by
  subst h
  unfold wrap64
  omega
theorem u64_nat (n : Nat) (hn : n ≤ 9000000000000000000) : IntKind.u64.wrap (n : Int) = (n : Int) := by
  rw [IntKind.wrap_u64]
  omega
theorem i64_nat (n : Nat) (hn : n ≤ 9000000000000000000) : IntKind.i64.wrap (n : Int) = (n : Int) := by
  rw [IntKind.wrap_i64]
  omega
end Go.Proofs.YtljnbbdhmlfhjaaGreatDoor
/-
  record's reader, whatever its state: number, text, count; what they come to, laid together.
-/
namespace Go.Proofs.YtljnbbdhmlfhjaaGreatDoor
open Go.RowKit
/-- A reader's state: a place, or a fault. -/
abbrev RS := Except Int Nat
/-- A reading, in whatever state. -/
def rdS {α : Type} (b : List UInt8) (p : Rdr α) : RS → RS
  | .error E => .error E
  | .ok a => match p (b.drop a) with
    | .error E => .error E
    | .ok (_, c) => .ok (a + c)
def rdV {α : Type} (b : List UInt8) (p : Rdr α) (d : α) : RS → α
  | .error _ => d
  | .ok a => match p (b.drop a) with
    | .error _ => d
    | .ok (y, _) => y
/-! ### A record, laid together -/
def rdLabS (b : List UInt8) (x : RS) : RS := rdS b strP (rdS b strP x)
def rdLabV (b : List UInt8) (x : RS) : Lab := (rdV b strP ⟨#[]⟩ x, rdV b strP ⟨#[]⟩ (rdS b strP x))
def rdLabsS (b : List UInt8) : Nat → RS → RS
  | 0, x => x
  | k + 1, x => rdLabsS b k (rdLabS b x)
def rdLabsV (b : List UInt8) : Nat → RS → List Lab
  | 0, _ => []
  | k + 1, x => rdLabV b x :: rdLabsV b k (rdLabS b x)
theorem rdLabsV_len (b : List UInt8) : ∀ k x, (rdLabsV b k x).length = k
  | 0, _ => rfl
  | k + 1, x => by
    unfold rdLabsV
    rw [List.length_cons, rdLabsV_len b k]
def recX1 (b : List UInt8) (n1 : Nat) (x1 : RS) : RS × Rec :=
  let x2 := rdS b num x1
  let x3 := rdS b (cntN 16) x2
  let n := rdV b (cntN 16) 0 x2
  let x4 := rdLabsS b n x3
  (rdS b strP x4, ⟨zag (n1 : Int), rdV b num 0 x1, rdLabsV b n x3, rdV b strP ⟨#[]⟩ x4⟩)
def recX (b : List UInt8) (x : RS) : RS × Rec := recX1 b (rdV b num 0 x) (rdS b num x)
def recF1 (b : List UInt8) (n1 : Nat) (x1 : RS) : RS := match (recX1 b n1 x1).1 with
  | .error E => .error E
  | .ok a => if chkRec (recX1 b n1 x1).2 = 0 then .ok a else .error (chkRec (recX1 b n1 x1).2)
def recF (b : List UInt8) (x : RS) : RS := match (recX b x).1 with
  | .error E => .error E
  | .ok a => if chkRec (recX b x).2 = 0 then .ok a else .error (chkRec (recX b x).2)
theorem labs_rep (b : List UInt8) : ∀ (k a : Nat), match repP labP k (b.drop a) with
    | .error E => rdLabsS b k (.ok a) = .error E
    | .ok (l, c) => rdLabsS b k (.ok a) = .ok (a + c) ∧ rdLabsV b k (.ok a) = l
  | 0, a => by simp [repP, rdLabsS, rdLabsV]
  | k + 1, a => by
    have e : labP (b.drop a) = match strP (b.drop a) with
        | .error e => .error e
        | .ok (x, c) => match strP ((b.drop a).drop c) with
          | .error e => .error e
          | .ok (y, d) => .ok ((x, y), c + d) := by
      unfold labP seqP
      cases strP (b.drop a) with
      | error E => rfl
      | ok z =>
        obtain ⟨x, c⟩ := z
        simp only
        cases strP ((b.drop a).drop c) with
        | error E => rfl
        | ok z => rfl
    unfold repP rdLabsS rdLabsV rdLabS rdLabV
    rw [e]
    clear e
    cases h1 : strP (b.drop a) with
    | error E =>
      have : ∀ m E, rdLabsS b m (.error E) = .error E := fun m E => by
        induction m with
        | zero => rfl
        | succ m ih => exact ih
      simp only [rdS, h1, this]
    | ok z =>
      obtain ⟨s, c⟩ := z
      simp only [rdS, rdV, h1]
      rw [List.drop_drop]
      cases h2 : strP (b.drop (a + c)) with
      | error E =>
        have : ∀ m E, rdLabsS b m (.error E) = .error E := fun m E => by
          induction m with
          | zero => rfl
          | succ m ih => exact ih
        simp only [this]
      | ok y =>
        obtain ⟨t, d⟩ := y
        simp only
        have ih := labs_rep b k (a + c + d)
        rw [List.drop_drop, show a + (c + d) = a + c + d by omega]
        cases h3 : repP labP k (b.drop (a + c + d)) with
        | error E =>
          rw [h3] at ih
          exact ih
        | ok u =>
          rw [h3] at ih
          simp only at ih ⊢
          rw [ih.1, ih.2]
          exact ⟨by congr 1; omega, rfl⟩
theorem rdLabsS_err (b : List UInt8) (m : Nat) (E : Int) : rdLabsS b m (.error E) = .error E := by
  induction m with
  | zero => rfl
  | succ m ih => exact ih
theorem rec_rel (b : List UInt8) (a : Nat) : recF b (.ok a) = rdS b recP (.ok a) ∧ ∀ r c, recP (b.drop a) = .ok (r, c) → (recX b (.ok a)).2 = r := by
  have key : match recP (b.drop a) with
      | .error E => recF b (.ok a) = .error E
      | .ok (r, c) => recF b (.ok a) = .ok (a + c) ∧ (recX b (.ok a)).2 = r := by
    unfold recF recX recX1 recP chkP mapP seqP cntP
    simp only
    cases h1 : num (b.drop a) with
    | error E => simp only [rdS, h1, rdLabsS_err]
    | ok z =>
      obtain ⟨n1, c1⟩ := z
      simp only [rdS, rdV, h1]
      rw [List.drop_drop]
      cases h2 : num (b.drop (a + c1)) with
      | error E => simp only [rdLabsS_err]
      | ok z =>
        obtain ⟨n2, c2⟩ := z
        simp only
        rw [List.drop_drop, show a + (c1 + c2) = a + c1 + c2 by omega]
        unfold cntN
        cases h3 : num (b.drop (a + c1 + c2)) with
        | error E => simp only [rdLabsS_err]
        | ok z =>
          obtain ⟨n, c3⟩ := z
          simp only
          by_cases hn : 16 < n
          · simp only [if_pos hn, rdLabsS_err]
          · simp only [if_neg hn]
            rw [List.drop_drop]
            have ih := labs_rep b n (a + c1 + c2 + c3)
            cases h4 : repP labP n (b.drop (a + c1 + c2 + c3)) with
            | error E =>
              rw [h4] at ih
              simp only at ih ⊢
              rw [ih]
            | ok z =>
              obtain ⟨L, c4⟩ := z
              rw [h4] at ih
              simp only at ih ⊢
              rw [ih.1, ih.2, List.drop_drop, show a + c1 + c2 + (c3 + c4) = a + c1 + c2 + c3 + c4 by omega]
              simp only
              cases h5 : strP (b.drop (a + c1 + c2 + c3 + c4)) with
              | error E => rfl
              | ok z =>
                obtain ⟨s, c5⟩ := z
                simp only
                rw [show mkRec ((n1, n2), L, s) = (⟨zag n1, n2, L, s⟩ : Rec) from rfl]
                by_cases hc : chkRec ⟨zag n1, n2, L, s⟩ = 0
                · rw [if_pos hc]
                  simp only
                  rw [if_pos hc]
                  exact ⟨by congr 1; omega, by first | rfl | trivial⟩
                · rw [if_neg hc]
                  simp only
                  rw [if_neg hc]
  unfold rdS
  simp only
  cases h : recP (b.drop a) with
  | error E =>
    rw [h] at key
    exact ⟨key, fun r c e => by cases e⟩
  | ok z =>
    obtain ⟨r, c⟩ := z
    rw [h] at key
    exact ⟨key.1, fun r' c' e => by cases e; exact key.2⟩
theorem rdV_lt (b : List UInt8) (y : RS) : rdV b num 0 y < 18446744073709551616 := by
  unfold rdV
  split
  · decide
  · split
    · decide
    · rename_i h
      exact (num_reads.back _ _ _ h).1
theorem recF1_err (b : List UInt8) (E : Int) : recF1 b 0 (.error E) = .error E := by
  unfold recF1 recX1
  simp only [rdS, rdLabsS_err]
end Go.Proofs.YtljnbbdhmlfhjaaGreatDoor
/-
  record's reader: a record.
-/
namespace Go.Proofs.YtljnbbdhmlfhjaaGreatDoor
open Go.RowKit
theorem EL : ElemT Tryz.prog 32 55 (.agg #[.string ⟨#[]⟩, .string ⟨#[]⟩]) 2 32 := ⟨Tryz.underlying32, by kernel_rfl, rfl, by decide⟩
/-- What record has laid: its answer's cells, its record's cells with their labels. -/
structure Mk (B r0 bx : Nat) (t s lv : Value) (line : ByteArray) (P : List Lab) (W : World) : Prop where
  c0 : ∃ cs : Array Value, cs.size = 4 ∧ W.heap[r0]? = some (.cells cs 34 (0, 0))
  c1 : W.heap[bx]? = some (.cells #[t, s, lv, .string line] 34 (0, 0))
  own : W.ownsRow B 55 2 lv P.length (labCells P)
  l0 : r0 < bx
  l1 : bx < B
theorem Mk.kept {B r0 bx : Nat} {t s lv : Value} {line : ByteArray} {P : List Lab} {W W' : World} {row : Option Nat} (h : Mk B r0 bx t s lv line P W) (hg : W.grownBy W' row) (hr : ∀ k, row = some k → k < r0) : Mk B r0 bx t s lv line P W' := by
  obtain ⟨⟨cs, hcs, c0⟩, c1, own, l0, l1⟩ := h
  have lt := (Array.getElem?_eq_some_iff.1 c1).1
  refine ⟨⟨cs, hcs, ?_⟩, ?_, own.kept hg ?_, l0, l1⟩
  · rw [hg.block r0 (by omega) (fun e => by have := hr r0 e.symm; omega)]
    exact c0
  · rw [hg.block bx lt (fun e => by have := hr bx e.symm; omega)]
    exact c1
  · cases hv : lv.ownBlock with
    | none => exact .inl rfl
    | some j =>
      refine .inr fun e => ?_
      have := (own.lt j hv).1
      have := hr j e.symm
      omega
theorem Mk.keptB {B r0 bx : Nat} {t s lv : Value} {line : ByteArray} {P : List Lab} {W W' : World} (h : Mk B r0 bx t s lv line P W) (hb : Below W.heap.size W W') : Mk B r0 bx t s lv line P W' :=
  h.kept (grown_of_below hb none) (fun k hk => by cases hk)
theorem Mk.cells {B r0 bx : Nat} {t s lv : Value} {line : ByteArray} {P : List Lab} {W : World} (h : Mk B r0 bx t s lv line P W) :
    W.cell? ⟨bx, 0, none⟩ = some t ∧ W.cell? ⟨bx, 1, none⟩ = some s ∧ W.cell? ⟨bx, 2, none⟩ = some lv ∧ W.cell? ⟨bx, 3, none⟩ = some (.string line) ∧ W.frozen? ⟨bx, 2, none⟩ = false ∧ W.frozen? ⟨bx, 3, none⟩ = false :=
  ⟨by rw [Lib.cell_of_heap h.c1]; rfl, by rw [Lib.cell_of_heap h.c1]; rfl, by rw [Lib.cell_of_heap h.c1]; rfl, by rw [Lib.cell_of_heap h.c1]; rfl, Lib.frozen_of_heap h.c1 2, Lib.frozen_of_heap h.c1 3⟩
theorem Mk.kept' {B r0 bx : Nat} {t s lv : Value} {line : ByteArray} {P : List Lab} {W W' : World} {row : Option Nat} (h : Mk B r0 bx t s lv line P W) (hg : W.grownBy W' row) (hr : ∀ k, row = some k → k ≠ r0 ∧ k ≠ bx ∧ lv.ownBlock ≠ some k) : Mk B r0 bx t s lv line P W' := by
  obtain ⟨⟨cs, hcs, c0⟩, c1, own, l0, l1⟩ := h
  have lt := (Array.getElem?_eq_some_iff.1 c1).1
  refine ⟨⟨cs, hcs, ?_⟩, ?_, own.kept hg ?_, l0, l1⟩
  · rw [hg.block r0 (by omega) (fun e => (hr r0 e.symm).1 rfl)]
    exact c0
  · rw [hg.block bx lt (fun e => (hr bx e.symm).2.1 rfl)]
    exact c1
  · cases hv : lv.ownBlock with
    | none => exact .inl rfl
    | some j => exact .inr fun e => (hr j e.symm).2.2 hv
theorem grown_new {w w1 w2 : World} {row row' : Option Nat} (h1 : w.grownBy w1 row) (h2 : w1.grownBy w2 row') (hr : ∀ k, row' = some k → w.heap.size ≤ k) : w.grownBy w2 row :=
  ⟨by rw [h2.os, h1.os], by rw [h2.tape, h1.tape], by rw [h2.output, h1.output], Nat.le_trans h1.size h2.size, fun k hk h => by rw [h2.block k (Nat.lt_of_lt_of_le hk h1.size) (fun e => by have := hr k e.symm; omega), h1.block k hk h]⟩
/-- The labels' row turned into a longer one, and laid in the record. -/
theorem Mk.more {r0 bx : Nat} {t s lv : Value} {line : ByteArray} {P : List Lab} {z : Lab} {W W' : World} {a : Option Addr} {c : Nat} (h : Mk (bx + 1) r0 bx t s lv line P W) (hg : W.grownBy W' lv.ownBlock)
    (ho : W'.ownsRow (bx + 1) 55 2 (.slice a (P.length + 1) c) (P.length + 1) (labCells P ++ encLab z)) :
    Mk (bx + 1) r0 bx t s (.slice a (P.length + 1) c) line (P ++ [z]) (W'.setCell ⟨bx, 2, none⟩ (.slice a (P.length + 1) c)) := by
  have hne : ∀ k, lv.ownBlock = some k → bx < k := fun k hk => by have := (h.own.lt k hk).1; omega
  obtain ⟨⟨cs, hcs, c0⟩, c1, own, l0, l1⟩ := h
  have lt := (Array.getElem?_eq_some_iff.1 c1).1
  have d0 : W'.heap[r0]? = some (.cells cs 34 (0, 0)) := by
    rw [hg.block r0 (by omega) (fun e => by have := hne r0 e.symm; omega)]; exact c0
  have d1 : W'.heap[bx]? = some (.cells #[t, s, lv, .string line] 34 (0, 0)) := by
    rw [hg.block bx lt (fun e => by have := hne bx e.symm; omega)]; exact c1
  refine ⟨⟨cs, hcs, ?_⟩, ?_, ?_, l0, l1⟩
  · rw [Below.heap_setCell _ _ _ _ (show r0 ≠ bx by omega)]; exact d0
  · rw [heap_setCell_same _ _ _ _ _ _ d1]; rfl
  · have e1 : (P ++ [z]).length = P.length + 1 := by simp
    have e2 : labCells (P ++ [z]) = labCells P ++ encLab z := by rw [labCells_append]; simp [labCells]
    rw [e1, e2]
    refine ho.kept (grown_set _ _ _ _) ?_
    cases hv : (Value.slice a (P.length + 1) c).ownBlock with
    | none => exact .inl rfl
    | some j => exact .inr fun e => by have := (ho.lt j hv).1; have := Option.some.inj e; omega
theorem Mk.beside {r0 bx : Nat} {t s lv : Value} {line : ByteArray} {P : List Lab} {W W' : World} (h : Mk (bx + 1) r0 bx t s lv line P W) (hg : W.grownBy W' lv.ownBlock) : W'.cell? ⟨bx, 2, none⟩ = some lv ∧ W'.frozen? ⟨bx, 2, none⟩ = false := by
  have hne : ∀ k, lv.ownBlock = some k → bx < k := fun k hk => by have := (h.own.lt k hk).1; omega
  have lt := (Array.getElem?_eq_some_iff.1 h.c1).1
  have d1 : W'.heap[bx]? = some (.cells #[t, s, lv, .string line] 34 (0, 0)) := by
    rw [hg.block bx lt (fun e => by have := hne bx e.symm; omega)]; exact h.c1
  exact ⟨by rw [Lib.cell_of_heap d1]; rfl, Lib.frozen_of_heap d1 2⟩
theorem Mk.line {B r0 bx : Nat} {t s lv : Value} {line : ByteArray} {P : List Lab} {W : World} (h : Mk B r0 bx t s lv line P W) (S : ByteArray) : Mk B r0 bx t s lv S P (W.setCell ⟨bx, 3, none⟩ (.string S)) := by
  obtain ⟨⟨cs, hcs, c0⟩, c1, own, l0, l1⟩ := h
  refine ⟨⟨cs, hcs, ?_⟩, ?_, own.kept (grown_set _ _ _ _) ?_, l0, l1⟩
  · rw [Below.heap_setCell _ _ _ _ (show r0 ≠ bx by omega)]; exact c0
  · rw [heap_setCell_same _ _ _ _ _ _ c1]; rfl
  · cases hv : lv.ownBlock with
    | none => exact .inl rfl
    | some j => exact .inr fun e => by have := (own.lt j hv).1; have := Option.some.inj e; omega
theorem size4 {cs : Array Value} (h : cs.size = 4) : ∃ a b c d, cs = #[a, b, c, d] := by
  obtain ⟨l⟩ := cs
  match l, h with
  | [a, b, c, d], _ => exact ⟨a, b, c, d, rfl⟩
theorem Mk.back {B r0 bx : Nat} {t s lv : Value} {line : ByteArray} {P : List Lab} {W : World} (h : Mk B r0 bx t s lv line P W) :
    ∃ a b c d, W.heap[r0]? = some (.cells #[a, b, c, d] 34 (0, 0)) := by
  obtain ⟨⟨cs, hcs, c0⟩, -, -, -, -⟩ := h
  obtain ⟨a, b, c, d, rfl⟩ := size4 hcs
  exact ⟨a, b, c, d, c0⟩
theorem cells4 {W : World} {r : Nat} {a b c d : Value} {T : TypeId} (c0 : W.heap[r]? = some (.cells #[a, b, c, d] T (0, 0))) :
    W.cell? ⟨r, 0, none⟩ = some a ∧ W.cell? ⟨r, 1, none⟩ = some b ∧ W.cell? ⟨r, 2, none⟩ = some c ∧ W.cell? ⟨r, 3, none⟩ = some d ∧ W.frozen? ⟨r, 0, none⟩ = false ∧ W.frozen? ⟨r, 1, none⟩ = false ∧ W.frozen? ⟨r, 2, none⟩ = false ∧ W.frozen? ⟨r, 3, none⟩ = false :=
  ⟨by rw [Lib.cell_of_heap c0]; rfl, by rw [Lib.cell_of_heap c0]; rfl, by rw [Lib.cell_of_heap c0]; rfl, by rw [Lib.cell_of_heap c0]; rfl, Lib.frozen_of_heap c0 0, Lib.frozen_of_heap c0 1, Lib.frozen_of_heap c0 2, Lib.frozen_of_heap c0 3⟩
theorem set4 {W : World} {r : Nat} {a b c d : Value} {T : TypeId} (c0 : W.heap[r]? = some (.cells #[a, b, c, d] T (0, 0))) (x y z u : Value) :
    ((((W.setCell ⟨r, 0, none⟩ x).setCell ⟨r, 1, none⟩ y).setCell ⟨r, 2, none⟩ z).setCell ⟨r, 3, none⟩ u).heap[r]? = some (.cells #[x, y, z, u] T (0, 0)) ∧ W.grownBy ((((W.setCell ⟨r, 0, none⟩ x).setCell ⟨r, 1, none⟩ y).setCell ⟨r, 2, none⟩ z).setCell ⟨r, 3, none⟩ u) (some r) := by
  refine ⟨?_, grown_trans (grown_trans (grown_trans (grown_set _ _ _ _) (grown_set _ _ _ _)) (grown_set _ _ _ _)) (grown_set _ _ _ _)⟩
  have h1 := heap_setCell_same W r 0 _ _ x c0
  have h2 := heap_setCell_same _ r 1 _ _ y h1
  have h3 := heap_setCell_same _ r 2 _ _ z h2
  rw [heap_setCell_same _ r 3 _ _ u h3]
  rfl
/-- The answer's record, laid in its cells. -/
theorem Mk.out {r0 bx B : Nat} {t s : Value} {line : ByteArray} {P : List Lab} {W : World} {a b c d lv : Value} {z : Int} {n : Nat} (h : Mk B r0 bx t s lv line P W) (c0 : W.heap[r0]? = some (.cells #[a, b, c, d] 34 (0, 0)))
    (hrec : RecAt W lv ⟨z, n, P, line⟩) (x y u v : Value) :
    let W' := (((W.setCell ⟨r0, 0, none⟩ x).setCell ⟨r0, 1, none⟩ y).setCell ⟨r0, 2, none⟩ u).setCell ⟨r0, 3, none⟩ v
    W'.ownsRow r0 55 2 lv P.length (labCells P) ∧ RecAt W' lv ⟨z, n, P, line⟩ := by
  intro W'
  have hg := (set4 c0 x y u v).2
  have hown : W'.ownsRow B 55 2 lv P.length (labCells P) := h.own.kept hg (by
    cases hv : lv.ownBlock with
    | none => exact .inl rfl
    | some j => exact .inr fun e => by have := (h.own.lt j hv).1; have := h.l0; have := h.l1; have := Option.some.inj e; omega)
  exact ⟨owns_base hown (by have := h.l0; have := h.l1; omega), LRow_own hown, hrec.2⟩
end Go.Proofs.YtljnbbdhmlfhjaaGreatDoor
/-
  record.Get.
-/
namespace Go.Proofs.YtljnbbdhmlfhjaaGreatDoor
open Go.RowKit
def noRec : Rec := ⟨0, 0, [], ⟨#[]⟩⟩
def getE (b : List UInt8) (z : Int) : Int := if z < 0 ∨ (b.length : Int) < z then 1 else match recP (b.drop z.toNat) with
  | .error E => E
  | .ok _ => 0
def getR (b : List UInt8) (z : Int) : Rec := if z < 0 ∨ (b.length : Int) < z then noRec else match recP (b.drop z.toNat) with
  | .error _ => noRec
  | .ok (r, _) => r
def getTo (b : List UInt8) (z : Int) : Nat := if z < 0 ∨ (b.length : Int) < z then 0 else match recP (b.drop z.toNat) with
  | .error _ => 0
  | .ok (_, c) => z.toNat + c
theorem no_labs (W : World) : LRow W (.slice none 0 0) [] := ⟨rfl, _, _, rfl, Nat.le_refl _, Nat.zero_le _, fun h => by simp at h⟩
end Go.Proofs.YtljnbbdhmlfhjaaGreatDoor
/-
  record.GetAll.
-/
namespace Go.Proofs.YtljnbbdhmlfhjaaGreatDoor
open Go.RowKit
theorem ER : ElemT Tryz.prog 24 34 (.agg #[.int .i64 0, .int .u64 0, .slice none 0 0, .string ⟨#[]⟩]) 4 56 := ⟨Tryz.underlying24, by kernel_rfl, rfl, by decide⟩
/-- Records of the call's own, their labels too. -/
structure ROwn (w : World) (B : Nat) (v : Value) (Z : List RecL) : Prop where
  own : w.ownsRow B 34 4 v Z.length (recsCells Z)
  labs : ∀ z ∈ Z, w.ownsRow B 55 2 z.2 z.1.labs.length (labCells z.1.labs) ∧ RecAt w z.2 z.1
theorem ROwn.nil (w : World) (B : Nat) : ROwn w B (.slice none 0 0) [] := ⟨World.ownsRow_nil _ _ _ _, fun z hz => by simp at hz⟩
theorem ROwn.row {w : World} {B : Nat} {v : Value} {Z : List RecL} (h : ROwn w B v Z) : RRow w v Z := ⟨argRow_owns h.own, fun z hz => (h.labs z hz).2⟩
theorem own_kept {w w' : World} {B size n : Nat} {e : TypeId} {v : Value} {xs : List Value} {row : Option Nat} (h : w.ownsRow B e size v n xs) (hg : w.grownBy w' row) (hr : ∀ k, row = some k → k < B) : w'.ownsRow B e size v n xs :=
  h.kept hg (by
    cases hv : v.ownBlock with
    | none => exact .inl rfl
    | some j => exact .inr fun e => by have := (h.lt j hv).1; have := hr j e.symm; omega)
theorem ROwn.kept {w w' : World} {B : Nat} {v : Value} {Z : List RecL} {row : Option Nat} (h : ROwn w B v Z) (hg : w.grownBy w' row) (hr : ∀ k, row = some k → k < B) : ROwn w' B v Z :=
  ⟨own_kept h.own hg hr, fun z hz => by
    have h1 := own_kept (h.labs z hz).1 hg hr
    exact ⟨h1, LRow_own h1, (h.labs z hz).2.2⟩⟩
theorem ROwn.keptB {w w' : World} {B : Nat} {v : Value} {Z : List RecL} (h : ROwn w B v Z) (hb : Below w.heap.size w w') : ROwn w' B v Z := h.kept (grown_of_below hb none) (fun k hk => by cases hk)
/-- Rows of different types lie in different blocks. -/
theorem own_apart {w : World} {B B' size size' n n' : Nat} {e e' : TypeId} {v v' : Value} {xs xs' : List Value} (h : w.ownsRow B e size v n xs) (h' : w.ownsRow B' e' size' v' n' xs') (he : e ≠ e') {k : Nat} (hk : v.ownBlock = some k) : v'.ownBlock ≠ some k := by
  intro hk'
  rcases h.2 with ⟨rfl, _⟩ | ⟨g, cap, cur, rfl, _, hg, _⟩
  · cases hk
  · rcases h'.2 with ⟨rfl, _⟩ | ⟨g', cap', cur', rfl, _, hg', _⟩
    · cases hk'
    · have e1 : g = k := Option.some.inj hk
      have e2 : g' = k := Option.some.inj hk'
      subst e1
      subst e2
      rw [hg] at hg'
      have := Obj.cells.inj (Option.some.inj hg')
      exact he this.2.1
/-- A record more. -/
theorem ROwn.more {w w' : World} {B : Nat} {v v' : Value} {Z : List RecL} {z : RecL} (h : ROwn w B v Z) (hz : w.ownsRow B 55 2 z.2 z.1.labs.length (labCells z.1.labs) ∧ RecAt w z.2 z.1) (hg : w.grownBy w' v.ownBlock)
    (ho : w'.ownsRow B 34 4 v' (Z.length + 1) (recsCells Z ++ recCells z)) : ROwn w' B v' (Z ++ [z]) := by
  have e1 : (Z ++ [z]).length = Z.length + 1 := by simp
  have e2 : recsCells (Z ++ [z]) = recsCells Z ++ recCells z := by rw [recsCells_append]; simp [recsCells]
  refine ⟨by rw [e1, e2]; exact ho, fun y hy => ?_⟩
  have hy' : w.ownsRow B 55 2 y.2 y.1.labs.length (labCells y.1.labs) ∧ RecAt w y.2 y.1 := by
    rcases List.mem_append.1 hy with hy | hy
    · exact h.labs y hy
    · have e : y = z := by simpa using hy
      subst e
      exact hz
  have h1 : w'.ownsRow B 55 2 y.2 y.1.labs.length (labCells y.1.labs) := hy'.1.kept hg (by
    cases hv : y.2.ownBlock with
    | none => exact .inl rfl
    | some j => exact .inr fun e => own_apart hy'.1 h.own (by decide) hv e.symm)
  exact ⟨h1, LRow_own h1, hy'.2.2⟩
def allE (b : List UInt8) : Int := match getAll b with
  | .error E => E
  | .ok _ => 0
def allL (b : List UInt8) : List Rec := match getAll b with
  | .error _ => []
  | .ok l => l
/-- What is left to read, k records on. -/
def Fin (b : List UInt8) (k : Nat) (Z : List RecL) : RS → Prop
  | .error E => E ≠ 0 ∧ getAll b = .error E
  | .ok a => a ≤ b.length ∧ getAll b = match repP recP k (b.drop a) with
    | .error E => .error E
    | .ok (l, c) => if a + c < b.length then .error 6 else .ok (Z.map Prod.fst ++ l)
theorem rec_err {T : List UInt8} {E : Int} (h : recP T = .error E) : E ≠ 0 := by
  have hn : ∀ T E, num T = .error E → E ≠ 0 := fun T E h => by
    unfold num at h
    split at h
    · cases h
    · rename_i h0
      cases h
      exact h0
  have hs : ∀ T E, strP T = .error E → E ≠ 0 := fun T E h => by
    cases hh : num T with
    | error F => rw [txt_num_err hh] at h; cases h; exact hn _ _ hh
    | ok z =>
      obtain ⟨n, c⟩ := z
      by_cases hk : T.length - c < n
      · rw [txt_short hh hk] at h; cases h; decide
      · rw [txt_ok hh hk] at h; cases h
  have hl : ∀ k T E, repP labP k T = .error E → E ≠ 0 := fun k => by
    induction k with
    | zero => intro T E h; cases h
    | succ k ih =>
      intro T E h
      unfold repP at h
      split at h
      · rename_i F hF
        cases h
        unfold labP seqP at hF
        split at hF
        · rename_i G hG
          cases hF
          exact hs _ _ hG
        · split at hF
          · rename_i G hG
            cases hF
            exact hs _ _ hG
          · cases hF
      · split at h
        · rename_i F hF
          cases h
          exact ih _ _ hF
        · cases h
  unfold recP chkP mapP seqP cntP at h
  cases h1 : num T with
  | error F => rw [h1] at h; cases h; exact hn _ _ h1
  | ok z =>
    obtain ⟨n1, c1⟩ := z
    rw [h1] at h
    simp only at h
    cases h2 : num (T.drop c1) with
    | error F => rw [h2] at h; cases h; exact hn _ _ h2
    | ok z =>
      obtain ⟨n2, c2⟩ := z
      rw [h2] at h
      simp only at h
      cases h3 : num (T.drop (c1 + c2)) with
      | error F => rw [h3] at h; cases h; exact hn _ _ h3
      | ok z =>
        obtain ⟨n3, c3⟩ := z
        rw [h3] at h
        simp only at h
        by_cases h16 : 16 < n3
        · rw [if_pos h16] at h
          cases h
          decide
        · rw [if_neg h16] at h
          cases h4 : repP labP n3 ((T.drop (c1 + c2)).drop c3) with
          | error F => rw [h4] at h; cases h; exact hl _ _ _ h4
          | ok z =>
            obtain ⟨L, c4⟩ := z
            rw [h4] at h
            simp only at h
            cases h5 : strP ((T.drop (c1 + c2)).drop (c3 + c4)) with
            | error F => rw [h5] at h; cases h; exact hs _ _ h5
            | ok z =>
              obtain ⟨s, c5⟩ := z
              rw [h5] at h
              simp only at h
              split at h
              · cases h
              · rename_i hc
                cases h
                exact hc
theorem fin_step {b : List UInt8} {k a : Nat} {Z : List RecL} {lv : Value} (h : Fin b (k + 1) Z (.ok a)) : Fin b k (Z ++ [((recX b (.ok a)).2, lv)]) (recF b (.ok a)) := by
  obtain ⟨hr1, hr2⟩ := rec_rel b a
  rw [hr1]
  obtain ⟨ha, h⟩ := h
  unfold rdS
  simp only
  unfold repP at h
  cases hp : recP (b.drop a) with
  | error E =>
    rw [hp] at h
    exact ⟨rec_err hp, h⟩
  | ok z =>
    obtain ⟨r, c⟩ := z
    have hl := rec_reads.len hp
    rw [List.length_drop] at hl
    rw [hp] at h
    simp only at h ⊢
    refine ⟨by omega, ?_⟩
    rw [h, List.drop_drop, hr2 r c hp]
    cases repP recP k (b.drop (a + c)) with
    | error E => rfl
    | ok z =>
      obtain ⟨l, d⟩ := z
      simp only
      rw [show a + (c + d) = a + c + d by omega]
      simp
theorem fin_start (b : List UInt8) : Fin b (rdV b (cntN 65536) 0 (.ok 0)) [] (rdS b (cntN 65536) (.ok 0)) := by
  unfold rdV rdS cntN
  simp only [List.drop_zero]
  have hg : getAll b = match batP b with
    | .error e => .error e
    | .ok (l, c) => if c < b.length then .error 6 else .ok l := rfl
  unfold batP cntP at hg
  cases h : num b with
  | error E =>
    rw [h] at hg
    refine ⟨?_, hg⟩
    unfold num at h
    split at h
    · cases h
    · rename_i h0
      cases h
      exact h0
  | ok z =>
    obtain ⟨n, c⟩ := z
    have hl := num_reads.len h
    rw [h] at hg
    simp only at hg ⊢
    by_cases hn : 65536 < n
    · rw [if_pos hn] at hg
      simp only [if_pos hn]
      exact ⟨by decide, hg⟩
    · rw [if_neg hn] at hg
      simp only [if_neg hn, Nat.zero_add]
      refine ⟨hl, ?_⟩
      rw [hg]
      cases repP recP n (b.drop c) with
      | error E => rfl
      | ok z => rfl
end Go.Proofs.YtljnbbdhmlfhjaaGreatDoor
