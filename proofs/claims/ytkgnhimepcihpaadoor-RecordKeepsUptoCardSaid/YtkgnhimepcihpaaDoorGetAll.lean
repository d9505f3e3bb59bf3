/-
  The reference's GetText.
-/
import Derived.Test.YtkgnhimepcihpaaDoorRdAll
import Derived.Test.YtkgnhimepcihpaaDoorLabJ
namespace Go.Proofs.YtkgnhimepcihpaaDoor
open Go.RowKit
def txtT (p : Nat) : Except Int (ByteArray × Nat) → Value
  | .ok (s, c) => .tuple #[.string s, .int .i64 ((p + c : Nat) : Int), .int .i64 0]
  | .error E => .tuple #[.string ⟨#[]⟩, .int .i64 0, .int .i64 E]
set_option maxRecDepth 100000 in
set_option maxHeartbeats 4000000 in
theorem rrec_GetText (v : Value) (b : List UInt8) (p : Nat) (w : World) (hp : p ≤ b.length) (hrow : argRow w v b.length 1 (Lib.byteCells b)) (hl : b.length ≤ 1000000000) :
    Calls Tryd.prog 41 #[v, .int .i64 (p : Int)] w fun en w' => en = .returned (txtT p (strP (b.drop p))) ∧ Below w.heap.size w w' := by
  have CG := Lib.hid (rvar_Get v b (p : Int) w hrow (by omega) (by omega) (by omega))
  have HRW := Lib.hid hrow
  obtain ⟨aa, ca, hv, hca, hca2⟩ : ∃ a c, v = .slice a b.length c ∧ b.length ≤ c ∧ c ≤ maxLen := by
    obtain ⟨_, a, c, e, h1, h2, _⟩ := HRW.out
    exact ⟨a, c, e, h1, h2⟩
  subst hv
  unfold maxLen at hca2
  clear hrow
  cases hn : num (b.drop p) with
  | error E =>
    obtain ⟨hv, hE⟩ := vget_err hp hn
    rw [txt_num_err hn]
    rw [hv] at CG
    have hE' : (E != 0) = true := by simpa using hE
    clear hn hE hv
    unfold txtT
    simp only at CG ⊢
    go_enter Tryd.func41, Tryd.ntmps41
    go_wp2_with (go_at_call 39; refine CG.out.mono ?_; rintro en w1 ⟨rfl, hb1⟩)
    go_ret3
    exact ⟨rfl, hb1⟩
  | ok z =>
    obtain ⟨n, c⟩ := z
    obtain ⟨hv, hac⟩ := vget_ok hp hn
    have hnr := (num_reads.back _ _ _ hn).1
    rw [hv] at CG
    simp only at CG
    obtain ⟨up, hup⟩ : ∃ u, p + c = u := ⟨_, rfl⟩
    rw [hup] at CG hac
    by_cases hs : (b.drop p).length - c < n
    · rw [txt_short hn hs]
      rw [List.length_drop] at hs
      have hi : ((b.length : Int) - (up : Int)) < (n : Int) := by omega
      unfold txtT
      simp only
      clear hn hv hs hup
      go_enter Tryd.func41, Tryd.ntmps41
      go_wp2_with (go_at_call 39; refine CG.out.mono ?_; rintro en w1 ⟨rfl, hb1⟩)
      go_ret3
      exact ⟨rfl, hb1⟩
    · rw [txt_ok hn hs]
      rw [List.length_drop] at hs
      have hi : ¬ ((b.length : Int) - (up : Int)) < (n : Int) := by omega
      have hu2 : up + n ≤ b.length := by omega
      rw [List.drop_drop, hup]
      have hto : p + (c + n) = up + n := by omega
      unfold txtT
      simp only
      rw [hto]
      obtain ⟨S, hS⟩ : ∃ S : ByteArray, (⟨((b.drop up).take n).toArray⟩ : ByteArray) = S := ⟨_, rfl⟩
      rw [hS]
      have HS := Lib.hid hS
      clear hn hv hs hup hto hS
      have hb1 : n ≤ 1099511627776 := by omega
      have hb2 : up ≤ 1099511627776 := by omega
      have hb3 : up + n ≤ 1099511627776 := by omega
      have iw2 : IntKind.i64.wrap (n : Int) = (n : Int) := i64_nat _ (Nat.le_trans hb1 (by decide))
      have s1 : (0 : Int) ≤ (up : Int) := by omega
      have s2 : (up : Int) ≤ (up : Int) + (n : Int) := by omega
      have s3 : (up : Int) + (n : Int) ≤ (ca : Int) := by omega
      by_cases hn0 : n = 0
      · subst hn0
        obtain rfl : S = ⟨#[]⟩ := by rw [← HS.out, List.take_zero]
        have hcn := fun (a : Option Addr) (cap : Nat) (W : World) => conv_nil (P := Tryd.prog) (w := W) (a := a) (cap := cap) (src := 22) (dst := 9) Tryd.underlying22 Tryd.underlying5 Tryd.underlying9
        clear s2 HS
        by_cases q : up = ca
        case' pos => subst q
        case' neg => have q' : ¬ ca = up := fun e => q e.symm
        all_goals
          rcases aa with _ | ⟨b0, off, spot⟩
          all_goals
            go_enter Tryd.func41, Tryd.ntmps41
            go_wp2_with (go_at_call 39; refine CG.out.mono ?_; rintro en w1 ⟨rfl, hb1⟩)
            go_ret3
            exact ⟨by first | rfl | simp, hb1⟩
      · obtain ⟨_, _, _, e, _, _, hcs⟩ := HRW.out
        cases e
        obtain ⟨b0, off, rfl, hb0, -⟩ := hcs (by omega)
        clear hcs
        have q1 : ¬ up = ca := by omega
        have q2 : ¬ ca = up := by omega
        have hcv : ∀ W, Below w.heap.size w W → ∀ cap, (convert 22 9 (.slice (some ⟨b0, off + up, none⟩) n cap)).run Tryd.prog W = .ok (.string S) W := fun W hW cap => by
          rw [← HS.out]
          exact slice_conv HRW.out hW hu2 (by omega) cap
        have HCV := Lib.hid hcv
        clear hn0 hcv
        go_enter Tryd.func41, Tryd.ntmps41
        go_wp2_with (go_at_call 39; refine CG.out.mono ?_; rintro en w1 ⟨rfl, hb1⟩; have hc1 := HCV.out w1 hb1)
        go_ret3
        exact ⟨by first | rfl | simp, hb1⟩
end Go.Proofs.YtkgnhimepcihpaaDoor
/-
  The reference's Get of a record.
-/
namespace Go.Proofs.YtkgnhimepcihpaaDoor
open Go.RowKit
/-- What the reference's Get has laid: its answer's cells, an empty record, its record with its labels. -/
structure Mk2 (B r0 rn bx : Nat) (t s lv : Value) (line : ByteArray) (P : List Lab) (W : World) : Prop where
  m : Mk B r0 bx t s lv line P W
  cn : W.heap[rn]? = some (.cells #[.int .i64 0, .int .u64 0, .slice none 0 0, .string ⟨#[]⟩] 27 (0, 0))
  n0 : r0 < rn
  n1 : rn < bx
theorem Mk2.keptB {B r0 rn bx : Nat} {t s lv : Value} {line : ByteArray} {P : List Lab} {W W' : World} (h : Mk2 B r0 rn bx t s lv line P W) (hb : Below W.heap.size W W') : Mk2 B r0 rn bx t s lv line P W' :=
  ⟨h.m.keptB hb, by rw [hb.block rn (Array.getElem?_eq_some_iff.1 h.cn).1]; exact h.cn, h.n0, h.n1⟩
theorem Mk2.set {B r0 rn bx j : Nat} {t s lv : Value} {line : ByteArray} {P : List Lab} {W : World} {v t' s' lv' : Value} {line' : ByteArray} {P' : List Lab} (h : Mk2 B r0 rn bx t s lv line P W) (hm : Mk B r0 bx t' s' lv' line' P' (W.setCell ⟨bx, j, none⟩ v)) : Mk2 B r0 rn bx t' s' lv' line' P' (W.setCell ⟨bx, j, none⟩ v) :=
  ⟨hm, by rw [Below.heap_setCell _ _ _ _ (show rn ≠ bx by have := h.n1; omega)]; exact h.cn, h.n0, h.n1⟩
theorem Mk.set0 {B r0 bx : Nat} {t s lv : Value} {line : ByteArray} {P : List Lab} {W : World} (h : Mk B r0 bx t s lv line P W) (x : Value) : Mk B r0 bx x s lv line P (W.setCell ⟨bx, 0, none⟩ x) := by
  obtain ⟨⟨cs, hcs, c0⟩, c1, own, l0, l1⟩ := h
  refine ⟨⟨cs, hcs, ?_⟩, ?_, own.kept (grown_set _ _ _ _) ?_, l0, l1⟩
  · rw [Below.heap_setCell _ _ _ _ (show r0 ≠ bx by omega)]; exact c0
  · rw [heap_setCell_same _ _ _ _ _ _ c1]; rfl
  · cases hv : lv.ownBlock with
    | none => exact .inl rfl
    | some j => exact .inr fun e => by have := (own.lt j hv).1; have := Option.some.inj e; omega
theorem Mk.set1 {B r0 bx : Nat} {t s lv : Value} {line : ByteArray} {P : List Lab} {W : World} (h : Mk B r0 bx t s lv line P W) (x : Value) : Mk B r0 bx t x lv line P (W.setCell ⟨bx, 1, none⟩ x) := by
  obtain ⟨⟨cs, hcs, c0⟩, c1, own, l0, l1⟩ := h
  refine ⟨⟨cs, hcs, ?_⟩, ?_, own.kept (grown_set _ _ _ _) ?_, l0, l1⟩
  · rw [Below.heap_setCell _ _ _ _ (show r0 ≠ bx by omega)]; exact c0
  · rw [heap_setCell_same _ _ _ _ _ _ c1]; rfl
  · cases hv : lv.ownBlock with
    | none => exact .inl rfl
    | some j => exact .inr fun e => by have := (own.lt j hv).1; have := Option.some.inj e; omega
theorem Mk.froz {B r0 bx : Nat} {t s lv : Value} {line : ByteArray} {P : List Lab} {W : World} (h : Mk B r0 bx t s lv line P W) : W.frozen? ⟨bx, 0, none⟩ = false ∧ W.frozen? ⟨bx, 1, none⟩ = false := ⟨Lib.frozen_of_heap h.c1 0, Lib.frozen_of_heap h.c1 1⟩
/-- The empty record laid in the answer's cells. -/
theorem Mk2.empty {B r0 rn bx : Nat} {t s lv : Value} {line : ByteArray} {P : List Lab} {W : World} (h : Mk2 B r0 rn bx t s lv line P W) :
    ∃ a b c d, W.heap[r0]? = some (.cells #[a, b, c, d] 27 (0, 0)) ∧
      let W' := (((W.setCell ⟨r0, 0, none⟩ (.int .i64 0)).setCell ⟨r0, 1, none⟩ (.int .u64 0)).setCell ⟨r0, 2, none⟩ (.slice none 0 0)).setCell ⟨r0, 3, none⟩ (.string ⟨#[]⟩)
      W'.heap[r0]? = some (.cells #[.int .i64 0, .int .u64 0, .slice none 0 0, .string ⟨#[]⟩] 27 (0, 0)) ∧ W.grownBy W' (some r0) := by
  obtain ⟨a, b, c, d, h0⟩ := h.m.back
  exact ⟨a, b, c, d, h0, set4 h0 _ _ _ _⟩
theorem get_rel (b : List UInt8) (p : Nat) (hp : p ≤ b.length) : (∀ E, recF b (.ok p) = .error E → getE b (p : Int) = E ∧ getR b (p : Int) = noRec ∧ getTo b (p : Int) = 0) ∧ (∀ a, recF b (.ok p) = .ok a → getE b (p : Int) = 0 ∧ getR b (p : Int) = (recX b (.ok p)).2 ∧ getTo b (p : Int) = a) := by
  obtain ⟨hr1, hr2⟩ := rec_rel b p
  rw [hr1]
  unfold getE getR getTo rdS
  rw [if_neg (by omega), if_neg (by omega), if_neg (by omega), Int.toNat_natCast]
  simp only
  cases h : recP (b.drop p) with
  | error E => exact ⟨fun F e => (by cases e; exact ⟨rfl, rfl, rfl⟩), fun a e => (by cases e)⟩
  | ok u =>
    obtain ⟨r, c⟩ := u
    exact ⟨fun F e => (by cases e), fun a e => (by cases e; exact ⟨rfl, (hr2 r c h).symm, rfl⟩)⟩
theorem recF1_err' (b : List UInt8) (n : Nat) (E : Int) : recF1 b n (.error E) = .error E := by
  unfold recF1 recX1
  simp only [rdS, rdLabsS_err]
theorem recF_at {b : List UInt8} {p n1 c1 : Nat} (h1 : num (b.drop p) = .ok (n1, c1)) : recF b (.ok p) = recF1 b n1 (.ok (p + c1)) ∧ recX b (.ok p) = recX1 b n1 (.ok (p + c1)) := by
  have e1 : rdV b num 0 (.ok p) = n1 := by unfold rdV; simp only [h1]
  have e2 : rdS b num (.ok p) = .ok (p + c1) := by unfold rdS; simp only [h1]
  have e3 : recF b (.ok p) = recF1 b (rdV b num 0 (.ok p)) (rdS b num (.ok p)) := rfl
  have e4 : recX b (.ok p) = recX1 b (rdV b num 0 (.ok p)) (rdS b num (.ok p)) := rfl
  rw [e1, e2] at e3 e4
  exact ⟨e3, e4⟩
/-- The rest behind two numbers, told by its count. -/
def restX (b : List UInt8) (z : Int) (n2 n : Nat) (x3 : RS) : RS × Rec := (rdS b strP (rdLabsS b n x3), ⟨z, n2, rdLabsV b n x3, rdV b strP ⟨#[]⟩ (rdLabsS b n x3)⟩)
theorem recX1_at {b : List UInt8} {n1 a n2 c2 : Nat} (h2 : num (b.drop a) = .ok (n2, c2)) : recX1 b n1 (.ok a) = restX b (zag (n1 : Int)) n2 (rdV b (cntN 16) 0 (.ok (a + c2))) (rdS b (cntN 16) (.ok (a + c2))) := by
  have e1 : rdV b num 0 (.ok a) = n2 := by unfold rdV; simp only [h2]
  have e2 : rdS b num (.ok a) = .ok (a + c2) := by unfold rdS; simp only [h2]
  unfold recX1 restX
  simp only [e1, e2]
theorem recX1_bad {b : List UInt8} {n1 a : Nat} {E : Int} (h2 : num (b.drop a) = .error E) : (recX1 b n1 (.ok a)).1 = .error E := by
  have e2 : rdS b num (.ok a) = .error E := by unfold rdS; simp only [h2]
  unfold recX1
  simp only [e2]
  simp only [rdS, rdLabsS_err]
theorem recF1_of {b : List UInt8} {n1 : Nat} {x1 : RS} {E : Int} (h : (recX1 b n1 x1).1 = .error E) : recF1 b n1 x1 = .error E := by
  unfold recF1
  rw [h]
theorem rvarG (v : Value) (b : List UInt8) (a : Nat) (w0 W : World) (ha : a ≤ b.length) (hrow : argRow w0 v b.length 1 (Lib.byteCells b)) (hW : Below w0.heap.size w0 W) (hl : b.length ≤ 1000000000) :
    Calls Tryd.prog 39 #[v, .int .i64 (a : Int)] W fun e w' => (match num (b.drop a) with
      | .error E => E ≠ 0 ∧ e = .returned (.tuple #[.int .u64 0, .int .i64 0, .int .i64 E])
      | .ok (n, c) => a + c ≤ b.length ∧ n < 18446744073709551616 ∧ e = .returned (.tuple #[.int .u64 (n : Int), .int .i64 ((a + c : Nat) : Int), .int .i64 0])) ∧ Below W.heap.size W w' := by
  refine (rvar_Get v b (a : Int) W (argRow_below hrow hW) (by omega) (by omega) (by omega)).mono ?_
  rintro e w' ⟨rfl, hb⟩
  refine ⟨?_, hb⟩
  cases h : num (b.drop a) with
  | error E =>
    obtain ⟨h1, h2⟩ := vget_err ha h
    rw [h1]
    exact ⟨h2, rfl⟩
  | ok z =>
    obtain ⟨n, c⟩ := z
    obtain ⟨h1, h2⟩ := vget_ok ha h
    rw [h1]
    exact ⟨h2, (num_reads.back _ _ _ h).1, rfl⟩

theorem Mk2.kept' {B r0 rn bx : Nat} {t s lv : Value} {line : ByteArray} {P : List Lab} {W W' : World} {row : Option Nat} (h : Mk2 B r0 rn bx t s lv line P W) (hg : W.grownBy W' row) (hr : ∀ k, row = some k → k ≠ r0 ∧ k ≠ rn ∧ k ≠ bx ∧ lv.ownBlock ≠ some k) : Mk2 B r0 rn bx t s lv line P W' :=
  ⟨h.m.kept' hg (fun k hk => ⟨(hr k hk).1, (hr k hk).2.2⟩), by rw [hg.block rn (Array.getElem?_eq_some_iff.1 h.cn).1 (fun e => (hr rn e.symm).2.1 rfl)]; exact h.cn, h.n0, h.n1⟩
theorem Mk2.more {r0 rn bx : Nat} {t s lv : Value} {line : ByteArray} {P : List Lab} {z : Lab} {W W' : World} {a : Option Addr} {c : Nat} (h : Mk2 (bx + 1) r0 rn bx t s lv line P W) (hg : W.grownBy W' lv.ownBlock)
    (ho : W'.ownsRow (bx + 1) 47 2 (.slice a (P.length + 1) c) (P.length + 1) (labCells P ++ encLab z)) :
    Mk2 (bx + 1) r0 rn bx t s (.slice a (P.length + 1) c) line (P ++ [z]) (W'.setCell ⟨bx, 2, none⟩ (.slice a (P.length + 1) c)) := by
  have hm := h.m.more hg ho
  refine ⟨hm, ?_, h.n0, h.n1⟩
  rw [Below.heap_setCell _ _ _ _ (show rn ≠ bx by have := h.n1; omega), hg.block rn (Array.getElem?_eq_some_iff.1 h.cn).1 (fun e => by have := (h.m.own.lt rn e.symm).1; have := h.n1; omega)]
  exact h.cn
theorem str_err {T : List UInt8} {E : Int} (h : strP T = .error E) : E ≠ 0 := by
  cases hh : num T with
  | error F =>
    rw [txt_num_err hh] at h
    cases h
    unfold num at hh
    split at hh
    · cases hh
    · rename_i h0
      cases hh
      exact h0
  | ok z =>
    obtain ⟨n, c⟩ := z
    by_cases hk : T.length - c < n
    · rw [txt_short hh hk] at h; cases h; decide
    · rw [txt_ok hh hk] at h; cases h
theorem str_size {b : List UInt8} {a c : Nat} {s : ByteArray} (h : strP (b.drop a) = .ok (s, c)) : s.size ≤ b.length := by
  obtain ⟨_, h1, _⟩ := str_reads.back _ _ _ h
  have h2 := str_reads.len h
  rw [List.length_drop] at h2
  have h3 : s.size ≤ (wStr s).length := by
    rw [wStr_eq, List.length_append]
    simp [ByteArray.size_data]
  omega
theorem labs_bad1 {b : List UInt8} {a m : Nat} {E : Int} (h : strP (b.drop a) = .error E) : rdLabsS b (m + 1) (.ok a) = .error E := by
  show rdLabsS b m (rdS b strP (rdS b strP (.ok a))) = _
  have e : rdS b strP (.ok a) = .error E := by unfold rdS; simp only [h]
  rw [e]
  exact rdLabsS_err b m E
theorem labs_bad2 {b : List UInt8} {a m d1 : Nat} {t1 : ByteArray} {E : Int} (h1 : strP (b.drop a) = .ok (t1, d1)) (h : strP (b.drop (a + d1)) = .error E) : rdLabsS b (m + 1) (.ok a) = .error E := by
  show rdLabsS b m (rdS b strP (rdS b strP (.ok a))) = _
  have e : rdS b strP (.ok a) = .ok (a + d1) := by unfold rdS; simp only [h1]
  have e2 : rdS b strP (.ok (a + d1)) = .error E := by unfold rdS; simp only [h]
  rw [e, e2]
  exact rdLabsS_err b m E
theorem labs_ok {b : List UInt8} {a m d1 d2 : Nat} {t1 t2 : ByteArray} (h1 : strP (b.drop a) = .ok (t1, d1)) (h : strP (b.drop (a + d1)) = .ok (t2, d2)) : rdLabsS b (m + 1) (.ok a) = rdLabsS b m (.ok (a + d1 + d2)) ∧ rdLabsV b (m + 1) (.ok a) = (t1, t2) :: rdLabsV b m (.ok (a + d1 + d2)) := by
  have e : rdS b strP (.ok a) = .ok (a + d1) := by unfold rdS; simp only [h1]
  have e2 : rdS b strP (.ok (a + d1)) = .ok (a + d1 + d2) := by unfold rdS; simp only [h]
  have e3 : rdV b strP ⟨#[]⟩ (.ok a) = t1 := by unfold rdV; simp only [h1]
  have e4 : rdV b strP ⟨#[]⟩ (.ok (a + d1)) = t2 := by unfold rdV; simp only [h]
  refine ⟨?_, ?_⟩
  · show rdLabsS b m (rdS b strP (rdS b strP (.ok a))) = _
    rw [e, e2]
  · show (rdV b strP ⟨#[]⟩ (.ok a), rdV b strP ⟨#[]⟩ (rdS b strP (.ok a))) :: rdLabsV b m (rdS b strP (rdS b strP (.ok a))) = _
    rw [e, e2, e3, e4]
theorem vget_cases (b : List UInt8) (z : Int) : (∃ E, E ≠ 0 ∧ vget b z = (E, 0, 0) ∧ getE b z = E ∧ getR b z = noRec ∧ getTo b z = 0) ∨ (∃ p n c : Nat, z = (p : Int) ∧ p + c ≤ b.length ∧ num (b.drop p) = .ok (n, c) ∧ vget b z = (0, n, p + c) ∧ n < 18446744073709551616) := by
  by_cases hz : z < 0 ∨ (b.length : Int) < z
  · refine .inl ⟨1, by decide, ?_, ?_, ?_, ?_⟩
    · unfold vget; rw [if_pos hz]
    · unfold getE; rw [if_pos hz]
    · unfold getR; rw [if_pos hz]
    · unfold getTo; rw [if_pos hz]
  · obtain ⟨p, rfl⟩ : ∃ p : Nat, z = p := ⟨z.toNat, by omega⟩
    have hp : p ≤ b.length := by omega
    cases h : num (b.drop p) with
    | error E =>
      obtain ⟨h1, h2⟩ := vget_err hp h
      have hF : recF b (.ok p) = .error E := by
        have e2 : rdS b num (.ok p) = .error E := by unfold rdS; simp only [h]
        have : recF b (.ok p) = recF1 b (rdV b num 0 (.ok p)) (rdS b num (.ok p)) := rfl
        rw [this, e2, recF1_err']
      exact .inl ⟨E, h2, h1, (get_rel b p hp).1 E hF⟩
    | ok u =>
      obtain ⟨n, c⟩ := u
      obtain ⟨h1, h2⟩ := vget_ok hp h
      exact .inr ⟨p, n, c, rfl, h2, h, h1, (num_reads.back _ _ _ h).1⟩
set_option maxRecDepth 100000 in
set_option maxHeartbeats 8000000 in
theorem rrec_Get (v : Value) (b : List UInt8) (z : Int) (w : World) (h1 : -9223372036854775808 ≤ z) (h2 : z ≤ 9223372036854775807) (hrow : argRow w v b.length 1 (Lib.byteCells b)) (hl : b.length ≤ 1000000000) :
    Calls Tryd.prog 14 #[v, .int .i64 z] w fun en w' => ∃ lv, en = .returned (.tuple #[recV (getR b z) lv, .int .i64 (getTo b z), .int .i64 (getE b z)]) ∧ RecAt w' lv (getR b z) ∧ w'.ownsRow w.heap.size 47 2 lv (getR b z).labs.length (labCells (getR b z).labs) ∧ Below w.heap.size w w' := by
  have C1 := Lib.hid (fun W (hW : Below w.heap.size w W) => rvar_Get v b z W (argRow_below hrow hW) (by omega) h1 h2)
  have CG := Lib.hid (fun a W (ha : a ≤ b.length) (hW : Below w.heap.size w W) => rvarG v b a w W ha hrow hW hl)
  have CT := Lib.hid (fun a W (ha : a ≤ b.length) (hW : Below w.heap.size w W) => rrec_GetText v b a W ha (argRow_below hrow hW) hl)
  have hcase := vget_cases b z
  have HREL := Lib.hid (fun p => get_rel b p)
  obtain ⟨aa, ca, rfl⟩ : ∃ a c, v = .slice a b.length c := by
    obtain ⟨_, a, c, e, _⟩ := hrow
    exact ⟨a, c, e⟩
  clear hrow
  obtain ⟨RR, hRR⟩ : ∃ r, getR b z = r := ⟨_, rfl⟩
  obtain ⟨RE, hRE⟩ : ∃ r, getE b z = r := ⟨_, rfl⟩
  obtain ⟨RT, hRT⟩ : ∃ r, getTo b z = r := ⟨_, rfl⟩
  rw [hRR, hRE, hRT] at hcase
  rw [hRR, hRE, hRT]
  have HC := Lib.hid hcase
  have HRR := Lib.hid hRR
  have HRE := Lib.hid hRE
  have HRT := Lib.hid hRT
  clear hcase hRR hRE hRT
  have hM0 : Mk2 (w.heap.size + 3) w.heap.size (w.heap.size + 1) (w.heap.size + 2) (.int .i64 0) (.int .u64 0) (.slice none 0 0) ⟨#[]⟩ [] (((w.alloc (.cells #[.int .i64 0, .int .u64 0, .slice none 0 0, .string ⟨#[]⟩] 27)).alloc (.cells #[.int .i64 0, .int .u64 0, .slice none 0 0, .string ⟨#[]⟩] 27)).alloc (.cells #[.int .i64 0, .int .u64 0, .slice none 0 0, .string ⟨#[]⟩] 27)) := by
    have s1 : (w.alloc (.cells #[.int .i64 0, .int .u64 0, .slice none 0 0, .string ⟨#[]⟩] 27)).heap.size = w.heap.size + 1 := by simp
    have s2 : ((w.alloc (.cells #[.int .i64 0, .int .u64 0, .slice none 0 0, .string ⟨#[]⟩] 27)).alloc (.cells #[.int .i64 0, .int .u64 0, .slice none 0 0, .string ⟨#[]⟩] 27)).heap.size = w.heap.size + 2 := by simp
    refine ⟨⟨⟨#[.int .i64 0, .int .u64 0, .slice none 0 0, .string ⟨#[]⟩], rfl, ?_⟩, ?_, World.ownsRow_nil _ _ _ _, by omega, by omega⟩, ?_, by omega, by omega⟩
    · rw [heap_alloc_old _ _ (by omega), heap_alloc_old _ _ (by omega)]; exact heap_alloc_new _ _
    · rw [← s2]; exact heap_alloc_new _ _
    · rw [heap_alloc_old _ _ (by omega), ← s1]; exact heap_alloc_new _ _
  have hB0 : Below w.heap.size w (((w.alloc (.cells #[.int .i64 0, .int .u64 0, .slice none 0 0, .string ⟨#[]⟩] 27)).alloc (.cells #[.int .i64 0, .int .u64 0, .slice none 0 0, .string ⟨#[]⟩] 27)).alloc (.cells #[.int .i64 0, .int .u64 0, .slice none 0 0, .string ⟨#[]⟩] 27)) := belowA (belowA (belowA (Below.refl _ _)))
  go_enter Tryd.func14, Tryd.ntmps14
  go_upto_region 3 with fail
  generalize ((w.alloc (.cells #[.int .i64 0, .int .u64 0, .slice none 0 0, .string ⟨#[]⟩] 27)).alloc (.cells #[.int .i64 0, .int .u64 0, .slice none 0 0, .string ⟨#[]⟩] 27)).alloc (.cells #[.int .i64 0, .int .u64 0, .slice none 0 0, .string ⟨#[]⟩] 27) = wa at *
  go_upto_region 4 with (go_at_call 39; refine (C1.out _ hB0).mono ?_; rintro en w1 ⟨rfl, hb1⟩)
  have hM1 := hM0.keptB hb1
  have hB1 := below_seq hB0 hb1
  clear hM0 hB0 hb1 C1
  rcases HC.out with ⟨E, hE, hv, rfl, rfl, rfl⟩ | ⟨p, n1, c1, rfl, hpc, hn1, hv, hn1b⟩
  · simp only [hv]
    have hE' : (RE != 0) = true := by simpa using hE
    clear hE hv HC
    obtain ⟨a0, a1, a2, a3, hr0, hset⟩ := hM1.empty
    obtain ⟨d0, d1, d2, d3, g0, g1, g2, g3⟩ := cells4 hr0
    obtain ⟨m0, m1, m2, m3, -, -, -, -⟩ := cells4 hM1.cn
    have HSET := Lib.hid hset
    clear hset hr0
    go_wp2
    obtain ⟨k0, k1, k2, k3, -, -, -, -⟩ := cells4 HSET.out.1
    have hBx := hB1.grown HSET.out.2 hB1.size (fun k hk => by cases hk; exact Nat.le_refl _)
    refine bodyPost_ret (v := .tuple #[recV noRec (.slice none 0 0), .int .i64 0, .int .i64 RE]) (by simp [results, Tryd.results14, go_sem, k0, k1, k2, k3, recV, noRec]) rfl ⟨.slice none 0 0, rfl, ⟨no_labs _, fun z hz => by simp [noRec] at hz, by decide, by decide⟩, World.ownsRow_nil _ _ _ _, hBx⟩
  · simp only [hv]
    clear HC hv
    obtain ⟨a1, ha1⟩ : ∃ a, p + c1 = a := ⟨_, rfl⟩
    obtain ⟨hF0, hX0⟩ := recF_at hn1
    rw [ha1] at hF0 hX0 hpc
    rw [ha1]
    have HF0 := Lib.hid hF0
    have HX0 := Lib.hid hX0
    have hple : p ≤ b.length := by omega
    have CZ := Lib.hid (fun W => rvar_Zag (n1 : Int) W (by omega) (by omega))
    clear ha1 hF0 hX0 hn1
    obtain ⟨q0, q1, q2, q3, f2, f3⟩ := hM1.m.cells
    obtain ⟨f0, f1⟩ := hM1.m.froz
    go_upto_region 7 with (go_at_call 40; refine (CZ.out _).mono ?_; rintro en wz ⟨rfl, rfl⟩)
    have hM2 := hM1.set (hM1.m.set0 (.int .i64 (zag (n1 : Int))))
    have hB2 := hB1.setCell (p := ⟨w.heap.size + 2, 0, none⟩) (show w.heap.size ≤ w.heap.size + 2 by omega) (.int .i64 (zag (n1 : Int)))
    clear q0 q1 q2 q3 f0 f1 f2 f3 hM1 hB1 CZ
    generalize w1.setCell ⟨w.heap.size + 2, 0, none⟩ (.int .i64 (zag (n1 : Int))) = w2 at *
    have CA := CG.out a1 w2 hpc hB2
    cases h2 : num (b.drop a1) with
    | error E =>
      rw [h2] at CA
      simp only at CA
      have CAH := Lib.hid CA
      clear CA
      obtain ⟨e1, e2, e3⟩ := (HREL.out p hple).1 E (by rw [HF0.out]; exact recF1_of (recX1_bad h2))
      obtain rfl : RE = E := by rw [← HRE.out]; exact e1
      obtain rfl : RR = noRec := by rw [← HRR.out]; exact e2
      obtain rfl : RT = 0 := by rw [← HRT.out]; exact e3
      clear e1 e2 e3 h2 HRE HRR HRT HREL HF0 HX0
      go_upto_region 8 with (go_at_call 39; refine CAH.out.mono ?_; rintro en w3 ⟨⟨hE, rfl⟩, hb3⟩)
      have hM3 := hM2.keptB hb3
      have hB3 := below_seq hB2 hb3
      have hE' : (RE != 0) = true := by simpa using hE
      clear hE hM2 hB2 hb3
      obtain ⟨a0, a1, a2, a3, hr0, hset⟩ := hM3.empty
      obtain ⟨d0, d1, d2, d3, g0, g1, g2, g3⟩ := cells4 hr0
      obtain ⟨m0, m1, m2, m3, -, -, -, -⟩ := cells4 hM3.cn
      have HSET := Lib.hid hset
      clear hset hr0
      go_wp2
      obtain ⟨k0, k1, k2, k3, -, -, -, -⟩ := cells4 HSET.out.1
      have hBx := hB3.grown HSET.out.2 hB3.size (fun k hk => by cases hk; exact Nat.le_refl _)
      refine bodyPost_ret (v := .tuple #[recV noRec (.slice none 0 0), .int .i64 0, .int .i64 RE]) (by simp [results, Tryd.results14, go_sem, k0, k1, k2, k3, recV, noRec]) rfl ⟨.slice none 0 0, rfl, ⟨no_labs _, fun z hz => by simp [noRec] at hz, by decide, by decide⟩, World.ownsRow_nil _ _ _ _, hBx⟩
    | ok z2 =>
      obtain ⟨n2, c2⟩ := z2
      rw [h2] at CA
      simp only at CA
      have hX1 := recX1_at (n1 := n1) h2
      obtain ⟨a2, he2⟩ : ∃ a, a1 + c2 = a := ⟨_, rfl⟩
      rw [he2] at CA hX1
      have CAH := Lib.hid CA
      have HX1 := Lib.hid hX1
      clear CA he2 hX1
      go_upto_region 8 with (go_at_call 39; refine CAH.out.mono ?_; rintro en w3 ⟨⟨ha2, hn2, rfl⟩, hb3⟩)
      have hM3 := hM2.keptB hb3
      have hB3 := below_seq hB2 hb3
      clear hM2 hB2 hb3 h2 CAH
      obtain ⟨q0, q1, q2, q3, f2, f3⟩ := hM3.m.cells
      obtain ⟨f0, f1⟩ := hM3.m.froz
      go_upto_region 11 with fail
      have hM4 := hM3.set (hM3.m.set1 (.int .u64 (n2 : Int)))
      have hB4 := hB3.setCell (p := ⟨w.heap.size + 2, 1, none⟩) (show w.heap.size ≤ w.heap.size + 2 by omega) (.int .u64 (n2 : Int))
      clear q0 q1 q2 q3 f0 f1 f2 f3 hM3 hB3
      generalize w3.setCell ⟨w.heap.size + 2, 1, none⟩ (.int .u64 (n2 : Int)) = w4 at *
      have CA := CG.out a2 w4 ha2 hB4
      cases h3 : num (b.drop a2) with
      | error E =>
        rw [h3] at CA
        simp only at CA
        have CAH := Lib.hid CA
        clear CA
        have hS : rdS b (cntN 16) (.ok a2) = .error E := by unfold rdS cntN; simp only [h3]
        obtain ⟨e1, e2, e3⟩ := (HREL.out p hple).1 E (by rw [HF0.out]; refine recF1_of ?_; rw [HX1.out, hS]; unfold restX; simp only [rdLabsS_err]; rfl)
        obtain rfl : RE = E := by rw [← HRE.out]; exact e1
        obtain rfl : RR = noRec := by rw [← HRR.out]; exact e2
        obtain rfl : RT = 0 := by rw [← HRT.out]; exact e3
        clear e1 e2 e3 h3 hS HRE HRR HRT HREL HF0 HX0 HX1
        go_upto_region 12 with (go_at_call 39; refine CAH.out.mono ?_; rintro en w5 ⟨⟨hE, rfl⟩, hb5⟩)
        have hM5 := hM4.keptB hb5
        have hB5 := below_seq hB4 hb5
        have hE' : (RE != 0) = true := by simpa using hE
        clear hE hM4 hB4 hb5
        obtain ⟨a0, a1, a2, a3, hr0, hset⟩ := hM5.empty
        obtain ⟨d0, d1, d2, d3, g0, g1, g2, g3⟩ := cells4 hr0
        obtain ⟨m0, m1, m2, m3, -, -, -, -⟩ := cells4 hM5.cn
        have HSET := Lib.hid hset
        clear hset hr0
        go_wp2
        obtain ⟨k0, k1, k2, k3, -, -, -, -⟩ := cells4 HSET.out.1
        have hBx := hB5.grown HSET.out.2 hB5.size (fun k hk => by cases hk; exact Nat.le_refl _)
        refine bodyPost_ret (v := .tuple #[recV noRec (.slice none 0 0), .int .i64 0, .int .i64 RE]) (by simp [results, Tryd.results14, go_sem, k0, k1, k2, k3, recV, noRec]) rfl ⟨.slice none 0 0, rfl, ⟨no_labs _, fun z hz => by simp [noRec] at hz, by decide, by decide⟩, World.ownsRow_nil _ _ _ _, hBx⟩
      | ok z3 =>
        obtain ⟨n3, c3⟩ := z3
        rw [h3] at CA
        simp only at CA
        obtain ⟨a3, he3⟩ : ∃ a, a2 + c3 = a := ⟨_, rfl⟩
        rw [he3] at CA
        have CAH := Lib.hid CA
        have HE3 := Lib.hid he3
        clear CA he3
        go_upto_region 12 with (go_at_call 39; refine CAH.out.mono ?_; rintro en w5 ⟨⟨ha3, hn3, rfl⟩, hb5⟩)
        have hM5 := hM4.keptB hb5
        have hB5 := below_seq hB4 hb5
        clear hM4 hB4 hb5 CAH
        by_cases h16 : 16 < n3
        · have hS : rdS b (cntN 16) (.ok a2) = .error 3 := by unfold rdS cntN; simp only [h3, if_pos h16]
          obtain ⟨e1, e2, e3⟩ := (HREL.out p hple).1 3 (by rw [HF0.out]; refine recF1_of ?_; rw [HX1.out, hS]; unfold restX; simp only [rdLabsS_err]; rfl)
          obtain rfl : RE = 3 := by rw [← HRE.out]; exact e1
          obtain rfl : RR = noRec := by rw [← HRR.out]; exact e2
          obtain rfl : RT = 0 := by rw [← HRT.out]; exact e3
          have i16 : (16 : Int) < (n3 : Int) := by omega
          clear e1 e2 e3 h3 hS HE3 HRE HRR HRT HREL HF0 HX0 HX1
          obtain ⟨a0, a1, a2, a3, hr0, hset⟩ := hM5.empty
          obtain ⟨d0, d1, d2, d3, g0, g1, g2, g3⟩ := cells4 hr0
          obtain ⟨m0, m1, m2, m3, -, -, -, -⟩ := cells4 hM5.cn
          have HSET := Lib.hid hset
          clear hset hr0
          go_wp2
          obtain ⟨k0, k1, k2, k3, -, -, -, -⟩ := cells4 HSET.out.1
          have hBx := hB5.grown HSET.out.2 hB5.size (fun k hk => by cases hk; exact Nat.le_refl _)
          refine bodyPost_ret (v := .tuple #[recV noRec (.slice none 0 0), .int .i64 0, .int .i64 3]) (by simp [results, Tryd.results14, go_sem, k0, k1, k2, k3, recV, noRec]) rfl ⟨.slice none 0 0, rfl, ⟨no_labs _, fun z hz => by simp [noRec] at hz, by decide, by decide⟩, World.ownsRow_nil _ _ _ _, hBx⟩
        · have hS : rdS b (cntN 16) (.ok a2) = .ok a3 := by unfold rdS cntN; simp only [h3, if_neg h16, HE3.out]
          have hV : rdV b (cntN 16) 0 (.ok a2) = n3 := by unfold rdV cntN; simp only [h3, if_neg h16]
          have hX1 := HX1.out
          rw [hS, hV] at hX1
          have HX1 := Lib.hid hX1
          have i16 : ¬ (16 : Int) < (n3 : Int) := by omega
          have hu : IntKind.i64.wrap (n3 : Int) = (n3 : Int) := i64_nat _ (by omega)
          clear h3 hS hV HE3 hX1 hn3
          obtain ⟨L, hL⟩ : ∃ L, rdLabsV b n3 (.ok a3) = L := ⟨_, rfl⟩
          obtain ⟨X4, hX4⟩ : ∃ L, rdLabsS b n3 (.ok a3) = L := ⟨_, rfl⟩
          have hX1 := HX1.out
          unfold restX at hX1
          rw [hL, hX4] at hX1
          have HX1 := Lib.hid hX1
          have HL := Lib.hid hL
          have HX4 := Lib.hid hX4
          have hn16 : n3 ≤ 16 := by omega
          clear hX1 hL hX4
          go_wp2_with fail
          go_loopw [1, 12, 13, 14, 15, 16, 17] (fun av iv _ _ _ _ _ wr => ∃ (k a : Nat) (lv : Value) (P : List Lab), iv = .int .i64 (k : Int) ∧ av = .int .i64 (a : Int) ∧ k ≤ n3 ∧ P.length = k ∧ a ≤ b.length ∧ P ++ rdLabsV b (n3 - k) (.ok a) = L ∧ rdLabsS b (n3 - k) (.ok a) = X4 ∧ (∀ z ∈ P, z.1.size ≤ b.length ∧ z.2.size ≤ b.length) ∧ Mk2 (w.heap.size + 3) w.heap.size (w.heap.size + 1) (w.heap.size + 2) (.int .i64 (zag (n1 : Int))) (.int .u64 (n2 : Int)) lv ⟨#[]⟩ P wr ∧ Below w.heap.size w wr) (fun _ iv _ _ _ _ _ _ => n3 - (intOf iv).toNat)
          case atStart => exact ⟨0, a3, _, [], rfl, rfl, Nat.zero_le _, rfl, ha3, HL.out, HX4.out, fun z hz => by simp at hz, hM5, hB5⟩
          case round =>
            obtain ⟨k, a, lv, P, rfl, rfl, hk, hPk, hal, hP, hY, hsz, hM, hB⟩ := hrel
            have HP := Lib.hid hP
            have HY := Lib.hid hY
            have HSZ := Lib.hid hsz
            have HPK := Lib.hid hPk
            have hPn : P.length ≤ 16 := by omega
            clear hP hY hsz hPk hM5 hB5
            by_cases hlt : k < n3
            · obtain ⟨m, hm⟩ : ∃ m, n3 - k = m + 1 := ⟨n3 - k - 1, by omega⟩
              have hP := HP.out
              have hY := HY.out
              rw [hm] at hP hY
              have HP := Lib.hid hP
              have HY := Lib.hid hY
              have hm2 : n3 - (k + 1) = m := by omega
              have HM2 := Lib.hid hm2
              clear hP hY hm hm2
              have i1 : (k : Int) < (n3 : Int) := by omega
              have hbl : Below wr.heap.size wr (wr.alloc (.cells #[.string ⟨#[]⟩, .string ⟨#[]⟩] 47)) := belowA (Below.refl _ _)
              have hhl : (wr.alloc (.cells #[.string ⟨#[]⟩, .string ⟨#[]⟩] 47)).heap[wr.heap.size]? = some (.cells #[.string ⟨#[]⟩, .string ⟨#[]⟩] 47 (0, 0)) := heap_alloc_new _ _
              have hsl : (wr.alloc (.cells #[.string ⟨#[]⟩, .string ⟨#[]⟩] 47)).heap.size = wr.heap.size + 1 := by simp
              have hMl := hM.keptB hbl
              have hBl := below_seq hB hbl
              have hbxr : w.heap.size + 2 < wr.heap.size := (Array.getElem?_eq_some_iff.1 hM.m.c1).1
              have hlvn : ∀ j, lv.ownBlock = some j → j < wr.heap.size := fun j hj => (hM.m.own.lt j hj).2
              clear hbl hM hB
              go_upto_region 20 with fail
              generalize wr.alloc (.cells #[.string ⟨#[]⟩, .string ⟨#[]⟩] 47) = wl at *
              generalize wr.heap.size = bl at *
              have CA := CT.out a wl hal hBl
              cases s1 : strP (b.drop a) with
              | error E =>
                rw [s1] at CA
                unfold txtT at CA
                simp only at CA
                have CAH := Lib.hid CA
                have hE := str_err s1
                obtain ⟨e1, e2, e3⟩ := (HREL.out p hple).1 E (by rw [HF0.out]; refine recF1_of ?_; rw [HX1.out]; show rdS b strP X4 = _; rw [show X4 = .error E by rw [← HY.out]; exact labs_bad1 s1]; rfl)
                obtain rfl : RE = E := by rw [← HRE.out]; exact e1
                obtain rfl : RR = noRec := by rw [← HRR.out]; exact e2
                obtain rfl : RT = 0 := by rw [← HRT.out]; exact e3
                have hE' : (RE != 0) = true := by simpa using hE
                clear CA hE e1 e2 e3 s1 HRE HRR HRT HREL HF0 HX0 HX1 HP HY HSZ HPK HM2
                go_upto_region 21 with (go_at_call 41; refine CAH.out.mono ?_; rintro en w6 ⟨rfl, hb6⟩)
                have hM6 := hMl.keptB hb6
                have hB6 := below_seq hBl hb6
                clear hMl hBl hb6
                obtain ⟨a0, a1, a2, a3, hr0, hset⟩ := hM6.empty
                obtain ⟨d0, d1, d2, d3, g0, g1, g2, g3⟩ := cells4 hr0
                obtain ⟨m0, m1, m2, m3, -, -, -, -⟩ := cells4 hM6.cn
                have HSET := Lib.hid hset
                clear hset hr0
                go_wp2
                obtain ⟨k0, k1, k2, k3, -, -, -, -⟩ := cells4 HSET.out.1
                have hBx := hB6.grown HSET.out.2 hB6.size (fun k hk => by cases hk; exact Nat.le_refl _)
                refine bodyPost_ret (v := .tuple #[recV noRec (.slice none 0 0), .int .i64 0, .int .i64 RE]) (by simp [results, Tryd.results14, go_sem, k0, k1, k2, k3, recV, noRec]) rfl ⟨.slice none 0 0, rfl, ⟨no_labs _, fun z hz => by simp [noRec] at hz, by decide, by decide⟩, World.ownsRow_nil _ _ _ _, hBx⟩
              | ok z1 =>
                obtain ⟨t1, d1⟩ := z1
                rw [s1] at CA
                unfold txtT at CA
                simp only at CA
                have had := str_reads.len s1
                rw [List.length_drop] at had
                have ht1 : t1.size ≤ b.length := str_size s1
                obtain ⟨a', ha'⟩ : ∃ x, a + d1 = x := ⟨_, rfl⟩
                rw [ha'] at CA
                have HA' := Lib.hid ha'
                have hal' : a' ≤ b.length := by omega
                have CAH := Lib.hid CA
                clear CA had ha'
                go_upto_region 23 with (go_at_call 41; refine CAH.out.mono ?_; rintro en w6 ⟨rfl, hb6⟩)
                have hM6 := hMl.keptB hb6
                have hB6 := below_seq hBl hb6
                have hh6 : w6.heap[bl]? = some (.cells #[.string ⟨#[]⟩, .string ⟨#[]⟩] 47 (0, 0)) := by rw [hb6.block bl (by omega)]; exact hhl
                have hs6 := hb6.size
                clear hMl hBl hb6 hhl
                have CA := CT.out a' w6 hal' hB6
                cases s2 : strP (b.drop a') with
                | error E =>
                  rw [s2] at CA
                  unfold txtT at CA
                  simp only at CA
                  have CAH := Lib.hid CA
                  have hE := str_err s2
                  obtain ⟨e1, e2, e3⟩ := (HREL.out p hple).1 E (by rw [HF0.out]; refine recF1_of ?_; rw [HX1.out]; show rdS b strP X4 = _; rw [show X4 = .error E by rw [← HY.out]; exact labs_bad2 s1 (by rw [HA'.out]; exact s2)]; rfl)
                  obtain rfl : RE = E := by rw [← HRE.out]; exact e1
                  obtain rfl : RR = noRec := by rw [← HRR.out]; exact e2
                  obtain rfl : RT = 0 := by rw [← HRT.out]; exact e3
                  have hE' : (RE != 0) = true := by simpa using hE
                  clear CA hE e1 e2 e3 s1 s2 HRE HRR HRT HREL HF0 HX0 HX1 HP HY HSZ HPK HM2 HA'
                  go_upto_region 24 with (go_at_call 41; refine CAH.out.mono ?_; rintro en w7 ⟨rfl, hb7⟩)
                  have hM7 := hM6.keptB hb7
                  have hB7 := below_seq hB6 hb7
                  clear hM6 hB6 hb7 hh6
                  obtain ⟨a0, a1, a2, a3, hr0, hset⟩ := hM7.empty
                  obtain ⟨d0, d1, d2, d3, g0, g1, g2, g3⟩ := cells4 hr0
                  obtain ⟨m0, m1, m2, m3, -, -, -, -⟩ := cells4 hM7.cn
                  have HSET := Lib.hid hset
                  clear hset hr0
                  go_wp2
                  obtain ⟨k0, k1, k2, k3, -, -, -, -⟩ := cells4 HSET.out.1
                  have hBx := hB7.grown HSET.out.2 hB7.size (fun k hk => by cases hk; exact Nat.le_refl _)
                  refine bodyPost_ret (v := .tuple #[recV noRec (.slice none 0 0), .int .i64 0, .int .i64 RE]) (by simp [results, Tryd.results14, go_sem, k0, k1, k2, k3, recV, noRec]) rfl ⟨.slice none 0 0, rfl, ⟨no_labs _, fun z hz => by simp [noRec] at hz, by decide, by decide⟩, World.ownsRow_nil _ _ _ _, hBx⟩
                | ok z2 =>
                  obtain ⟨t2, d2⟩ := z2
                  rw [s2] at CA
                  unfold txtT at CA
                  simp only at CA
                  have had := str_reads.len s2
                  rw [List.length_drop] at had
                  have ht2 : t2.size ≤ b.length := str_size s2
                  obtain ⟨a'', ha''⟩ : ∃ x, a' + d2 = x := ⟨_, rfl⟩
                  rw [ha''] at CA
                  have hal'' : a'' ≤ b.length := by omega
                  have CAH := Lib.hid CA
                  have hlb := labs_ok (m := m) s1 (by rw [HA'.out]; exact s2)
                  rw [HA'.out, ha''] at hlb
                  have hP := HP.out
                  have hY := HY.out
                  rw [hlb.2, List.append_cons] at hP
                  rw [hlb.1] at hY
                  have HP := Lib.hid hP
                  have HY := Lib.hid hY
                  clear CA had ha'' hlb hP hY s1 s2
                  go_upto_region 26 with (go_at_call 41; refine CAH.out.mono ?_; rintro en w7 ⟨rfl, hb7⟩)
                  have hM7 := hM6.keptB hb7
                  have hB7 := below_seq hB6 hb7
                  have hh7 : w7.heap[bl]? = some (.cells #[.string ⟨#[]⟩, .string ⟨#[]⟩] 47 (0, 0)) := by rw [hb7.block bl (by omega)]; exact hh6
                  have hs7 := hb7.size
                  clear hM6 hB6 hb7 hh6
                  have x0 : w7.cell? ⟨bl, 0, none⟩ = some (.string ⟨#[]⟩) := by rw [Lib.cell_of_heap hh7]; rfl
                  have x1 : w7.cell? ⟨bl, 1, none⟩ = some (.string ⟨#[]⟩) := by rw [Lib.cell_of_heap hh7]; rfl
                  have y0 := Lib.frozen_of_heap hh7 0
                  have y1 := Lib.frozen_of_heap hh7 1
                  go_upto_region 29 with fail
                  have hg8 := grown_trans (grown_set w7 bl 0 (.string t1)) (grown_set _ bl 1 (.string t2))
                  have hh8 : ((w7.setCell ⟨bl, 0, none⟩ (.string t1)).setCell ⟨bl, 1, none⟩ (.string t2)).heap[bl]? = some (.cells #[.string t1, .string t2] 47 (0, 0)) := by
                    rw [heap_setCell_same _ _ _ _ _ _ (heap_setCell_same _ _ _ _ _ _ hh7)]; rfl
                  have hs8 : w7.heap.size ≤ ((w7.setCell ⟨bl, 0, none⟩ (.string t1)).setCell ⟨bl, 1, none⟩ (.string t2)).heap.size := by simp
                  have hM8 := hM7.kept' hg8 (fun j hj => by cases hj; exact ⟨by omega, by omega, by omega, fun e => by have := hlvn _ e; omega⟩)
                  have hB8 := hB7.grown hg8 hB7.size (fun j hj => by cases hj; omega)
                  clear hg8 hM7 hB7 hh7 x0 x1 y0 y1
                  generalize (w7.setCell ⟨bl, 0, none⟩ (.string t1)).setCell ⟨bl, 1, none⟩ (.string t2) = w8 at *
                  have x0 : w8.cell? ⟨bl, 0, none⟩ = some (.string t1) := by rw [Lib.cell_of_heap hh8]; rfl
                  have x1 : w8.cell? ⟨bl, 1, none⟩ = some (.string t2) := by rw [Lib.cell_of_heap hh8]; rfl
                  obtain ⟨-, -, q2, -, -, -⟩ := hM8.m.cells
                  obtain ⟨al, cl, hlv⟩ := owns_slice hM8.m.own
                  subst hlv
                  have hb9 : Below w8.heap.size w8 (w8.alloc (.cells #[.string t1, .string t2] 47)) := belowA (Below.refl _ _)
                  have hM9 := Lib.hid (hM8.keptB hb9)
                  have hB9 := below_seq hB8 hb9
                  have hs9 : w.heap.size + 3 ≤ (w8.alloc (.cells #[.string t1, .string t2] 47)).heap.size := by simp; omega
                  clear hM8 hB8 hb9
                  go_wp2_with (at_builtin; refine wpList_append_src rfl _ _ _ _ rfl (w.heap.size + 3) EL _ _ _ rfl hM9.out.m.own _ 1 [.string t1, .string t2] rfl (by exact src_last (cs := #[.string t1, .string t2]) Tryd.underlying25 1 1 2 rfl rfl (by simp [Value.oneCell'])) (by unfold maxLen; omega) (by omega) (by omega) ?_; intro v9 w9 hown9 hgr9 _ _; obtain ⟨a9, c9, rfl⟩ := owns_slice hown9; have hmk := Mk2.more (z := (t1, t2)) hM9.out hgr9 hown9; have hq9 := Mk.beside hM9.out.m hgr9; have q9 := hq9.1; have f9 := hq9.2; clear hq9)
                  have hgr9' : (w8.alloc (.cells #[.string t1, .string t2] 47)).grownBy w9 (Value.slice al P.length cl).ownBlock := hgr9
                  have hlt9 : ∀ j, (Value.slice al P.length cl).ownBlock = some j → w.heap.size ≤ j := fun j hj => by have := (hM9.out.m.own.lt j hj).1; omega
                  have hB10 := (hB9.grown hgr9' (by omega) hlt9).grown (grown_set w9 (w.heap.size + 2) 2 (.slice a9 (P.length + 1) c9)) (by have := hgr9'.size; omega) (fun j hj => by cases hj; omega)
                  go_roundw
                  case rel => exact ⟨k + 1, a'', _, P ++ [(t1, t2)], by go_num, rfl, by omega, by have := HPK.out; simp; omega, hal'', by rw [HM2.out]; exact HP.out, by rw [HM2.out]; exact HY.out, fun z hz => by
                    rcases List.mem_append.1 hz with hz | hz
                    · exact HSZ.out z hz
                    · have e : z = (t1, t2) := by simpa using hz
                      subst e
                      exact ⟨ht1, ht2⟩, hmk, hB10⟩
                  case measure => simp [intOf]; omega
            · obtain rfl : k = n3 := by omega
              have hP := HP.out
              have hY := HY.out
              rw [Nat.sub_self] at hP hY
              have hY' : (Except.ok a : RS) = X4 := hY
              have hP' : P = L := by
                rw [← hP]
                show P = P ++ []
                rw [List.append_nil]
              subst hY' hP'
              clear hP hY HP HY HL HX4 HPK
              have i1 : ¬ (k : Int) < (k : Int) := by omega
              have CA := CT.out a wr hal hB
              have hX1 := HX1.out
              cases s1 : strP (b.drop a) with
              | error E =>
                rw [s1] at CA
                unfold txtT at CA
                simp only at CA
                have CAH := Lib.hid CA
                have hE := str_err s1
                obtain ⟨e1, e2, e3⟩ := (HREL.out p hple).1 E (by rw [HF0.out]; refine recF1_of ?_; rw [hX1]; show rdS b strP (.ok a) = _; unfold rdS; simp only [s1])
                obtain rfl : RE = E := by rw [← HRE.out]; exact e1
                obtain rfl : RR = noRec := by rw [← HRR.out]; exact e2
                obtain rfl : RT = 0 := by rw [← HRT.out]; exact e3
                have hE' : (RE != 0) = true := by simpa using hE
                clear CA hE e1 e2 e3 s1 HRE HRR HRT HREL HF0 HX0 HX1 hX1 HSZ
                go_upto_region 31 with (go_at_call 41; refine CAH.out.mono ?_; rintro en w6 ⟨rfl, hb6⟩)
                have hM6 := hM.keptB hb6
                have hB6 := below_seq hB hb6
                clear hM hB hb6
                obtain ⟨a0, a1, a2, a3, hr0, hset⟩ := hM6.empty
                obtain ⟨d0, d1, d2, d3, g0, g1, g2, g3⟩ := cells4 hr0
                obtain ⟨m0, m1, m2, m3, -, -, -, -⟩ := cells4 hM6.cn
                have HSET := Lib.hid hset
                clear hset hr0
                go_wp2
                obtain ⟨k0, k1, k2, k3, -, -, -, -⟩ := cells4 HSET.out.1
                have hBx := hB6.grown HSET.out.2 hB6.size (fun k hk => by cases hk; exact Nat.le_refl _)
                refine bodyPost_ret (v := .tuple #[recV noRec (.slice none 0 0), .int .i64 0, .int .i64 RE]) (by simp [results, Tryd.results14, go_sem, k0, k1, k2, k3, recV, noRec]) rfl ⟨.slice none 0 0, rfl, ⟨no_labs _, fun z hz => by simp [noRec] at hz, by decide, by decide⟩, World.ownsRow_nil _ _ _ _, hBx⟩
              | ok z1 =>
                obtain ⟨S, d1⟩ := z1
                rw [s1] at CA
                unfold txtT at CA
                simp only at CA
                have had := str_reads.len s1
                rw [List.length_drop] at had
                have hSs : S.size ≤ b.length := str_size s1
                obtain ⟨a', ha'⟩ : ∃ x, a + d1 = x := ⟨_, rfl⟩
                rw [ha'] at CA
                have hx1 : rdS b strP (.ok a) = .ok a' := by unfold rdS; simp only [s1, ha']
                have hx2 : rdV b strP ⟨#[]⟩ (.ok a) = S := by unfold rdV; simp only [s1]
                rw [hx1, hx2] at hX1
                have HX2 := Lib.hid hX1
                have CAH := Lib.hid CA
                clear CA had ha' s1 hx1 hx2 hX1 HX1
                go_upto_region 33 with (go_at_call 41; refine CAH.out.mono ?_; rintro en w6 ⟨rfl, hb6⟩)
                have hM6 := hM.keptB hb6
                have hB6 := below_seq hB hb6
                clear hM hB hb6
                obtain ⟨q0, q1, q2, q3, f2, f3⟩ := hM6.m.cells
                go_upto_region 34 with fail
                have hM7 := hM6.set (hM6.m.line S)
                have hB7 := hB6.setCell (p := ⟨w.heap.size + 2, 3, none⟩) (show w.heap.size ≤ w.heap.size + 2 by omega) (.string S)
                clear hM6 hB6 q0 q1 q2 q3 f2 f3
                generalize w6.setCell ⟨w.heap.size + 2, 3, none⟩ (.string S) = w7 at *
                obtain ⟨al, cl, hlv⟩ := owns_slice hM7.m.own
                subst hlv
                obtain ⟨q0, q1, q2, q3, -, -⟩ := hM7.m.cells
                have hsz := HSZ.out
                have hrec : RecAt w7 (.slice al P.length cl) ⟨zag (n1 : Int), n2, P, S⟩ := ⟨LRow_own hM7.m.own, fun z hz => by have := hsz z hz; omega, by show P.length ≤ _; omega, by show S.size ≤ _; omega⟩
                have CK := rrec_Check ⟨zag (n1 : Int), n2, P, S⟩ (.slice al P.length cl) w7 hrec
                unfold recV at CK
                simp only at CK
                by_cases hc : chkRec ⟨zag (n1 : Int), n2, P, S⟩ = 0
                · have hFF : recF b (.ok p) = .ok a' := by
                    rw [HF0.out]
                    unfold recF1
                    rw [HX2.out]
                    simp only
                    rw [if_pos hc]
                  obtain ⟨e1, e2, e3⟩ := (HREL.out p hple).2 a' hFF
                  obtain rfl : RE = 0 := by rw [← HRE.out]; exact e1
                  obtain rfl : RR = ⟨zag (n1 : Int), n2, P, S⟩ := by rw [← HRR.out, e2, HX0.out, HX2.out]
                  obtain rfl : RT = a' := by rw [← HRT.out]; exact e3
                  rw [hc] at CK
                  have CKH := Lib.hid CK
                  clear e1 e2 e3 hFF hc HRE HRR HRT HREL HF0 HX0 HX2 HSZ hsz CK
                  go_upto_region 35 with (go_at_call 25; refine CKH.out.mono ?_; rintro en w8 ⟨rfl, hb8⟩)
                  have hM8 := hM7.keptB hb8
                  have hB8 := below_seq hB7 hb8
                  have hrec8 := hrec.below hb8
                  clear hM7 hB7 hb8 hrec q0 q1 q2 q3
                  obtain ⟨q0, q1, q2, q3, -, -⟩ := hM8.m.cells
                  obtain ⟨a0, b1, b2, b3, c3⟩ := hM8.m.back
                  obtain ⟨d0, d1, d2, d3, g0, g1, g2, g3⟩ := cells4 c3
                  have HSET := Lib.hid (set4 c3 (.int .i64 (zag (n1 : Int))) (.int .u64 (n2 : Int)) (.slice al P.length cl) (.string S))
                  have hout := hM8.m.out c3 hrec8 (.int .i64 (zag (n1 : Int))) (.int .u64 (n2 : Int)) (.slice al P.length cl) (.string S)
                  simp only at hout
                  have HOUT := Lib.hid hout
                  clear hout c3
                  go_wp2
                  obtain ⟨k0, k1, k2, k3, -, -, -, -⟩ := cells4 HSET.out.1
                  have hBx := hB8.grown HSET.out.2 hB8.size (fun k hk => by cases hk; exact Nat.le_refl _)
                  refine bodyPost_ret (v := .tuple #[recV ⟨zag (n1 : Int), n2, P, S⟩ (.slice al P.length cl), .int .i64 RT, .int .i64 0]) (by simp [results, Tryd.results14, go_sem, k0, k1, k2, k3, recV]) rfl ⟨_, rfl, HOUT.out.2, HOUT.out.1, hBx⟩
                · obtain ⟨chk, hchk⟩ : ∃ c, chkRec ⟨zag (n1 : Int), n2, P, S⟩ = c := ⟨_, rfl⟩
                  have hFF : recF b (.ok p) = .error chk := by
                    rw [HF0.out]
                    unfold recF1
                    rw [HX2.out]
                    simp only
                    rw [if_neg hc, hchk]
                  obtain ⟨e1, e2, e3⟩ := (HREL.out p hple).1 chk hFF
                  obtain rfl : RE = chk := by rw [← HRE.out]; exact e1
                  obtain rfl : RR = noRec := by rw [← HRR.out]; exact e2
                  obtain rfl : RT = 0 := by rw [← HRT.out]; exact e3
                  rw [hchk] at CK hc
                  have CKH := Lib.hid CK
                  have hE' : (RE != 0) = true := by simpa using hc
                  clear e1 e2 e3 hFF hc hchk HRE HRR HRT HREL HF0 HX0 HX2 HSZ hsz CK hrec
                  go_upto_region 35 with (go_at_call 25; refine CKH.out.mono ?_; rintro en w8 ⟨rfl, hb8⟩)
                  have hM8 := hM7.keptB hb8
                  have hB8 := below_seq hB7 hb8
                  clear hM7 hB7 hb8 q0 q1 q2 q3
                  obtain ⟨a0, a1, a2, a3, hr0, hset⟩ := hM8.empty
                  obtain ⟨d0, d1, d2, d3, g0, g1, g2, g3⟩ := cells4 hr0
                  obtain ⟨m0, m1, m2, m3, -, -, -, -⟩ := cells4 hM8.cn
                  have HSET := Lib.hid hset
                  clear hset hr0
                  go_wp2
                  obtain ⟨k0, k1, k2, k3, -, -, -, -⟩ := cells4 HSET.out.1
                  have hBx := hB8.grown HSET.out.2 hB8.size (fun k hk => by cases hk; exact Nat.le_refl _)
                  refine bodyPost_ret (v := .tuple #[recV noRec (.slice none 0 0), .int .i64 0, .int .i64 RE]) (by simp [results, Tryd.results14, go_sem, k0, k1, k2, k3, recV, noRec]) rfl ⟨.slice none 0 0, rfl, ⟨no_labs _, fun z hz => by simp [noRec] at hz, by decide, by decide⟩, World.ownsRow_nil _ _ _ _, hBx⟩
end Go.Proofs.YtkgnhimepcihpaaDoor
/-
  The reference's GetAll.
-/
namespace Go.Proofs.YtkgnhimepcihpaaDoor
open Go.RowKit
set_option maxRecDepth 100000 in
set_option maxHeartbeats 4000000 in
theorem rrec_GetAll (v : Value) (b : List UInt8) (w : World) (hrow : argRow w v b.length 1 (Lib.byteCells b)) (hl : b.length ≤ 1000000000) :
    Calls Tryd.prog 16 #[v] w fun en w' => ∃ v' Z, en = .returned (.tuple #[v', .int .i64 (allE b)]) ∧ Z.map Prod.fst = allL b ∧ ROwn w' w.heap.size v' Z ∧ Below w.heap.size w w' := by
  have CR := Lib.hid (fun W (a : Nat) (ha : a ≤ b.length) (hW : Below w.heap.size w W) => rrec_Get v b (a : Int) W (by omega) (by omega) (argRow_below hrow hW) hl)
  have CG := Lib.hid (rvarG v b 0 w w (Nat.zero_le _) hrow (Below.refl _ _) hl)
  obtain ⟨aa, ca, rfl⟩ : ∃ a c, v = .slice a b.length c := by
    obtain ⟨_, a, c, e, _⟩ := hrow
    exact ⟨a, c, e⟩
  have hfs := fin_start b
  have hcn : cntN 65536 b = match num b with | .error e => .error e | .ok (n, c) => if 65536 < n then .error 3 else .ok (n, c) := rfl
  have hS : rdS b (cntN 65536) (.ok 0) = match cntN 65536 b with | .error E => .error E | .ok (_, c) => .ok (0 + c) := by unfold rdS; simp only [List.drop_zero]; cases cntN 65536 b <;> rfl
  have hV : rdV b (cntN 65536) 0 (.ok 0) = match cntN 65536 b with | .error _ => 0 | .ok (y, _) => y := by unfold rdV; simp only [List.drop_zero]; cases cntN 65536 b <;> rfl
  rw [hS, hV] at hfs
  clear hS hV hrow
  obtain ⟨RE, hRE⟩ : ∃ r, allE b = r := ⟨_, rfl⟩
  obtain ⟨RL, hRL⟩ : ∃ r, allL b = r := ⟨_, rfl⟩
  rw [hRE, hRL]
  have HRE := Lib.hid hRE
  have HRL := Lib.hid hRL
  clear hRE hRL
  rw [List.drop_zero] at CG
  cases h0 : num b with
  | error E =>
    rw [h0] at CG hcn
    simp only at CG hcn
    rw [hcn] at hfs
    obtain ⟨hE, hga⟩ := hfs
    obtain ⟨e1, e2⟩ := all_err hga
    obtain rfl : RE = E := by rw [← HRE.out]; exact e1
    obtain rfl : RL = [] := by rw [← HRL.out]; exact e2
    have hE' : (RE != 0) = true := by simpa using hE
    clear e1 e2 hga hE hcn h0 HRE HRL CR
    go_enter Tryd.func16, Tryd.ntmps16
    go_wp2_with (go_at_call 39; refine CG.out.mono ?_; rintro en w1 ⟨⟨-, rfl⟩, hb1⟩)
    go_ret2
    exact ⟨_, [], rfl, rfl, ROwn.nil _ _, hb1⟩
  | ok z0 =>
    obtain ⟨n, c⟩ := z0
    rw [h0] at CG hcn
    simp only at CG hcn
    by_cases hn : 65536 < n
    · rw [if_pos hn] at hcn
      rw [hcn] at hfs
      obtain ⟨-, hga⟩ := hfs
      obtain ⟨e1, e2⟩ := all_err hga
      obtain rfl : RE = 3 := by rw [← HRE.out]; exact e1
      obtain rfl : RL = [] := by rw [← HRL.out]; exact e2
      have hn' : (65536 : Int) < (n : Int) := by omega
      clear e1 e2 hga hcn h0 HRE HRL CR
      go_enter Tryd.func16, Tryd.ntmps16
      go_wp2_with (go_at_call 39; refine CG.out.mono ?_; rintro en w1 ⟨⟨-, -, rfl⟩, hb1⟩)
      go_ret2
      exact ⟨_, [], rfl, rfl, ROwn.nil _ _, hb1⟩
    · rw [if_neg hn] at hcn
      rw [hcn] at hfs
      simp only [Nat.zero_add] at hfs CG
      have HFS := Lib.hid hfs
      have hn' : ¬ (65536 : Int) < (n : Int) := by omega
      have hnn : n ≤ 65536 := by omega
      have hu : IntKind.i64.wrap (n : Int) = (n : Int) := i64_nat _ (by omega)
      clear hfs hcn h0 hn
      go_enter Tryd.func16, Tryd.ntmps16
      go_wp2_with (go_at_call 39; refine CG.out.mono ?_; rintro en w1 ⟨⟨hca1, -, rfl⟩, hb1⟩)
      go_loopw [5, 7, 8, 9, 10, 11] (fun av lv iv _ _ _ wr => ∃ (i a : Nat) (Z : List RecL), iv = .int .i64 (i : Int) ∧ av = .int .i64 (a : Int) ∧ i ≤ n ∧ Z.length = i ∧ a ≤ b.length ∧ Fin b (n - i) Z (.ok a) ∧ ROwn wr w.heap.size lv Z ∧ Below w.heap.size w wr) (fun _ _ iv _ _ _ _ => n - (intOf iv).toNat)
      case atStart => exact ⟨0, c, [], rfl, rfl, Nat.zero_le _, rfl, hca1, HFS.out, ROwn.nil _ _, hb1⟩
      case round =>
        obtain ⟨i, a, Z, rfl, rfl, hi, hZi, hal, hfin, hown, hbr⟩ := hrel
        have HFIN := Lib.hid hfin
        have HZI := Lib.hid hZi
        have hZn : Z.length ≤ 65536 := by omega
        have hsr := hbr.size
        clear hfin hZi
        by_cases hlt : i < n
        · obtain ⟨m, hm⟩ : ∃ m, n - i = m + 1 := ⟨n - i - 1, by omega⟩
          have hfin := HFIN.out
          rw [hm] at hfin
          have hfs := fun lv => fin_step (lv := lv) hfin
          have hm2 : n - (i + 1) = m := by omega
          have HM2 := Lib.hid hm2
          obtain ⟨g1, g2⟩ := get_rel b a hal
          have i1 : (i : Int) < (n : Int) := by omega
          clear hfin hm hm2 HFIN
          have CA := CR.out wr a hal hbr
          obtain ⟨X, hX⟩ : ∃ X, getR b (a : Int) = X := ⟨_, rfl⟩
          obtain ⟨T, hT⟩ : ∃ X, getTo b (a : Int) = X := ⟨_, rfl⟩
          obtain ⟨E, hE⟩ : ∃ X, getE b (a : Int) = X := ⟨_, rfl⟩
          rw [hX, hT, hE] at CA
          unfold recV at CA
          have CAH := Lib.hid CA
          cases hF : recF b (.ok a) with
          | error F =>
            obtain ⟨e1, e2, e3⟩ := g1 F hF
            obtain rfl : E = F := by rw [← hE]; exact e1
            have hf := hfs (.slice none 0 0)
            rw [hF] at hf
            obtain ⟨hE0, hga⟩ := hf
            obtain ⟨k1, k2⟩ := all_err hga
            obtain rfl : RE = E := by rw [← HRE.out]; exact k1
            obtain rfl : RL = [] := by rw [← HRL.out]; exact k2
            have hE' : (RE != 0) = true := by simpa using hE0
            clear e1 e2 e3 hE0 hga k1 k2 hX hT hE g1 g2 hfs hF HRE HRL CA
            go_wp2_with (go_at_call 14; refine CAH.out.mono ?_; rintro en w4 ⟨lv, rfl, hrec4, hown4, hb4⟩; obtain ⟨al, cl, rfl⟩ := owns_slice hown4)
            go_ret2
            exact ⟨_, [], rfl, rfl, ROwn.nil _ _, (below_seq hbr hb4).trans ((belowA (Below.refl _ _)).mono (by have := hb4.size; omega))⟩
          | ok a' =>
            obtain ⟨e1, e2, e3⟩ := g2 a' hF
            obtain rfl : E = 0 := by rw [← hE]; exact e1
            obtain rfl : T = a' := by rw [← hT]; exact e3
            have hXX : (recX b (.ok a)).2 = X := by rw [← hX]; exact e2.symm
            rw [hF, hXX] at hfs
            have HFS2 := Lib.hid hfs
            have hal' : T ≤ b.length := (hfs (.slice none 0 0)).1
            clear e1 e2 e3 hX hT hE g1 g2 hfs hF CA hXX
            go_upto_region 13 with (go_at_call 14; refine CAH.out.mono ?_; rintro en w4 ⟨lv, rfl, hrec4, hown4, hb4⟩; obtain ⟨al, cl, rfl⟩ := owns_slice hown4)
            have hba := belowA (o := .cells #[.int .i64 X.time, .int .u64 (X.seq : Int), .slice al X.labs.length cl, .string X.line] 27) (Below.refl w4.heap.size w4)
            have hcx := cells4 (heap_alloc_new w4 (.cells #[.int .i64 X.time, .int .u64 (X.seq : Int), .slice al X.labs.length cl, .string X.line] 27))
            have hb5 := below_seq hb4 hba
            have hrec5 := hrec4.below hba
            have hown5 := owns_below hown4 hba
            generalize w4.alloc (.cells #[.int .i64 X.time, .int .u64 (X.seq : Int), .slice al X.labs.length cl, .string X.line] 27) = w5 at *
            obtain ⟨c0, c1, c2, c3, -, -, -, -⟩ := hcx
            have hs5 := hb5.size
            go_wp2_with (at_builtin; refine wpList_append_src rfl _ _ _ _ rfl w.heap.size ER _ _ _ rfl ((hown.keptB hb5).own.alloc _) _ 1 (recCells (X, .slice al X.labs.length cl)) rfl (by exact src_last (cs := (recCells (X, .slice al X.labs.length cl)).toArray) Tryd.underlying31 1 1 4 rfl rfl (by simp [recCells, Value.oneCell'])) (by unfold maxLen; omega) (by omega) (by simp; omega) ?_; intro v6 w6 hown6 hgr6 _ _)
            have hbb := belowA (o := .cells #[.int .i64 X.time, .int .u64 (X.seq : Int), .slice al X.labs.length cl, .string X.line] 27) (Below.refl w5.heap.size w5)
            have hown7 := (hown.keptB hb5).keptB hbb
            have hlab7 := owns_below (owns_base hown5 hsr) hbb
            have hmore := ROwn.more (z := (X, .slice al X.labs.length cl)) hown7 ⟨hlab7, hrec5.below hbb⟩ hgr6 hown6
            have hB7 : Below w.heap.size w w6 := (below_seq (below_seq hbr hb5) hbb).grown hgr6 (by simp; omega) (fun j hj => (hown7.own.lt j hj).1)
            go_roundw
            case rel => exact ⟨i + 1, T, _, by go_num, rfl, by omega, by have := HZI.out; simp; omega, hal', by rw [HM2.out]; exact HFS2.out _, hmore, hB7⟩
            case measure => simp [intOf]; omega
        · obtain rfl : i = n := by omega
          obtain ⟨ha, hga⟩ := HFIN.out
          rw [Nat.sub_self] at hga
          have hga' : getAll b = if a < b.length then .error 6 else .ok (Z.map Prod.fst) := by
            rw [hga]
            show (if a + 0 < b.length then _ else _) = _
            simp
          have i1 : ¬ (i : Int) < (i : Int) := by omega
          by_cases hlt : a < b.length
          · rw [if_pos hlt] at hga'
            obtain ⟨e1, e2⟩ := all_err hga'
            obtain rfl : RE = 6 := by rw [← HRE.out]; exact e1
            obtain rfl : RL = [] := by rw [← HRL.out]; exact e2
            have hne : ((a : Int) != (b.length : Int)) = true := by simp; omega
            clear HRE HRL HFIN hga hga' e1 e2
            go_wp2
            go_ret2
            first | exact ⟨_, [], rfl, rfl, ROwn.nil _ _, hbr⟩ | exact ⟨_, rfl, ROwn.nil _ _, hbr⟩
          · rw [if_neg hlt] at hga'
            obtain ⟨e1, e2⟩ := all_ok hga'
            obtain rfl : RE = 0 := by rw [← HRE.out]; exact e1
            obtain rfl : RL = Z.map Prod.fst := by rw [← HRL.out]; exact e2
            have hne : ((a : Int) != (b.length : Int)) = false := by simp; omega
            clear HRE HRL HFIN hga hga' e1 e2
            go_wp2
            go_ret2
            first | exact ⟨_, Z, rfl, rfl, hown, hbr⟩ | exact ⟨_, rfl, Z, rfl, hown, hbr⟩
end Go.Proofs.YtkgnhimepcihpaaDoor
/-
  law09's awake.
-/
namespace Go.Proofs.YtkgnhimepcihpaaDoor
open Go.RowKit
def rec09 : Rec := ⟨-1, 5, [labS [97] [49]], ⟨#[104, 105]⟩⟩
def byt09 : List UInt8 := [1, 5, 1, 1, 97, 1, 49, 2, 104, 105]
theorem aw_chk : chkRec rec09 = 0 := by decide +kernel
theorem aw_in : inRec rec09 := by
  refine ⟨by decide, by decide, by decide, ?_, ?_⟩
  · intro x hx
    have e : x = labS [97] [49] := by simpa [rec09] using hx
    subst e
    constructor
    · show (2 : Nat) - 1 < 18446744073709551616
      decide
    · show (2 : Nat) - 1 < 18446744073709551616
      decide
  · show (2 : Nat) < 18446744073709551616
    decide
theorem aw_w : wRec rec09 = byt09 := by
  unfold wRec rec09 byt09
  simp only [List.length_cons, List.length_nil, List.flatMap_cons, List.flatMap_nil]
  unfold wLab labS wStr wTxt
  simp only [List.length_cons, List.length_nil]
  rw [vi_small (show (zig (-1)).toNat < 128 by decide), vi_small (show 5 < 128 by decide), vi_small (show 0 + 1 < 128 by decide), vi_small (show 0 + 1 + 1 < 128 by decide)]
  rfl
theorem aw_rd : recP byt09 = .ok (rec09, 10) := by
  have h := rec_reads.forth rec09 [] (ok_of aw_in aw_chk)
  rw [List.append_nil, aw_w] at h
  exact h
theorem aw_get : getE byt09 0 = 0 ∧ getR byt09 0 = rec09 ∧ getTo byt09 0 = 10 := by
  unfold getE getR getTo
  have h0 : ¬ ((0 : Int) < 0 ∨ ((byt09.length : Nat) : Int) < 0) := by decide
  have hd : byt09.drop (0 : Int).toNat = byt09 := rfl
  rw [if_neg h0, if_neg h0, if_neg h0, hd, aw_rd]
  exact ⟨rfl, rfl, rfl⟩
theorem aw_all : allE [0, 0] = 6 := by decide +kernel
theorem aw_cmp9 : cmpRec rec09 noRec = -1 := by decide
set_option maxRecDepth 100000 in
set_option maxHeartbeats 4000000 in
theorem law09_awake (w : World) (hT : Tabs w) : Calls Tryd.prog 12 #[] w fun e w' => e = .returned (.bool true) ∧ Below w.heap.size w w' := by
  have hl1 : LRow (w.alloc (.cells #[.string ⟨#[97]⟩, .string ⟨#[49]⟩] 47)) (.slice (some ⟨w.heap.size, 0, none⟩) 1 1) [labS [97] [49]] := argRow_owns (World.ownsRow_lit w #[.string ⟨#[97]⟩, .string ⟨#[49]⟩] 1 (Nat.le_refl _) (by decide) rfl)
  have hbA : Below (w.alloc (.cells #[.string ⟨#[97]⟩, .string ⟨#[49]⟩] 47)).heap.size (w.alloc (.cells #[.string ⟨#[97]⟩, .string ⟨#[49]⟩] 47)) ((w.alloc (.cells #[.string ⟨#[97]⟩, .string ⟨#[49]⟩] 47)).alloc (.cells #[.int .i64 (-1), .int .u64 5, .slice (some ⟨w.heap.size, 0, none⟩) 1 1, .string ⟨#[104, 105]⟩] 27)) := belowA (Below.refl _ _)
  have hb1 : Below w.heap.size w ((w.alloc (.cells #[.string ⟨#[97]⟩, .string ⟨#[49]⟩] 47)).alloc (.cells #[.int .i64 (-1), .int .u64 5, .slice (some ⟨w.heap.size, 0, none⟩) 1 1, .string ⟨#[104, 105]⟩] 27)) := belowA (belowA (Below.refl _ _))
  have hc1 : ((w.alloc (.cells #[.string ⟨#[97]⟩, .string ⟨#[49]⟩] 47)).alloc (.cells #[.int .i64 (-1), .int .u64 5, .slice (some ⟨w.heap.size, 0, none⟩) 1 1, .string ⟨#[104, 105]⟩] 27)).heap[w.heap.size + 1]? = some (.cells #[.int .i64 (-1), .int .u64 5, .slice (some ⟨w.heap.size, 0, none⟩) 1 1, .string ⟨#[104, 105]⟩] 27 (0, 0)) := by
    have := heap_alloc_new (w.alloc (.cells #[.string ⟨#[97]⟩, .string ⟨#[49]⟩] 47)) (.cells #[.int .i64 (-1), .int .u64 5, .slice (some ⟨w.heap.size, 0, none⟩) 1 1, .string ⟨#[104, 105]⟩] 27)
    simpa using this
  have hs1 : ((w.alloc (.cells #[.string ⟨#[97]⟩, .string ⟨#[49]⟩] 47)).alloc (.cells #[.int .i64 (-1), .int .u64 5, .slice (some ⟨w.heap.size, 0, none⟩) 1 1, .string ⟨#[104, 105]⟩] 27)).heap.size = w.heap.size + 2 := by simp
  have hl2 := hl1.below hbA
  go_enter Tryd.func12, Tryd.ntmps12
  go_upto_region 2 with fail
  generalize (w.alloc (.cells #[.string ⟨#[97]⟩, .string ⟨#[49]⟩] 47)).alloc (.cells #[.int .i64 (-1), .int .u64 5, .slice (some ⟨w.heap.size, 0, none⟩) 1 1, .string ⟨#[104, 105]⟩] 27) = w1 at *
  have hrec1 : RecAt w1 (.slice (some ⟨w.heap.size, 0, none⟩) 1 1) rec09 := ⟨hl2, by decide, by decide, by decide⟩
  clear hbA hl1 hl2
  obtain ⟨c0, c1, c2, c3, -, -, -, -⟩ := cells4 hc1
  have cP := record_Put rec09 (.slice (some ⟨w.heap.size, 0, none⟩) 1 1) w1 hrec1 (Utf8Tabs_below hT hb1) aw_in
  rw [aw_chk, if_pos rfl, aw_w] at cP
  have CP := Lib.hid cP
  clear cP
  go_upto_region 3 with (go_at_call 22; refine CP.out.mono ?_; rintro en w2 ⟨v2, rfl, ho2, hb2⟩)
  have hb12 := below_seq hb1 hb2
  have cG := record_Get v2 byt09 0 w2 (by decide) (by decide) (argRow_owns ho2) (by decide) (Utf8Tabs_below hT hb12)
  rw [aw_get.1, aw_get.2.1, aw_get.2.2] at cG
  unfold recV at cG
  have CG := Lib.hid cG
  have hrec2 := hrec1.below hb2
  clear cG CP c0 c1 c2 c3
  go_upto_region 4 with (go_at_call 13; refine CG.out.mono ?_; rintro en w3 ⟨lv, rfl, hr3, hown3, hb3⟩; obtain ⟨al, cl, rfl⟩ := owns_slice hown3)
  have hbB := belowA (o := .cells #[.int .i64 rec09.time, .int .u64 (rec09.seq : Int), .slice al rec09.labs.length cl, .string rec09.line] 27) (Below.refl w3.heap.size w3)
  have hcB := heap_alloc_new w3 (.cells #[.int .i64 rec09.time, .int .u64 (rec09.seq : Int), .slice al rec09.labs.length cl, .string rec09.line] 27)
  have hrec4 := hr3.below hbB
  have hb34 := below_seq hb3 hbB
  have hb24 := hb34
  have hb14 := below_seq hb12 hb34
  have ho4 := owns_below ho2 hb34
  have hrec14 := hrec2.below hb34
  have hs3 := hb3.size
  have hs2 := hb2.size
  have hc4 : (w3.alloc (.cells #[.int .i64 rec09.time, .int .u64 (rec09.seq : Int), .slice al rec09.labs.length cl, .string rec09.line] 27)).heap[w.heap.size + 1]? = some (.cells #[.int .i64 (-1), .int .u64 5, .slice (some ⟨w.heap.size, 0, none⟩) 1 1, .string ⟨#[104, 105]⟩] 27 (0, 0)) := by
    rw [hb34.block _ (by omega), hb2.block _ (by omega)]; exact hc1
  clear CG hr3 hown3 hrec1 hrec2 ho2 hb3 hbB
  generalize w3.alloc (.cells #[.int .i64 rec09.time, .int .u64 (rec09.seq : Int), .slice al rec09.labs.length cl, .string rec09.line] 27) = w4 at *
  have hbC := belowA (o := .cells #[.int .u8 0, .int .u8 0] 5) (Below.refl w4.heap.size w4)
  have hargC : argRow (w4.alloc (.cells #[.int .u8 0, .int .u8 0] 5)) (.slice (some ⟨w4.heap.size, 0, none⟩) 2 2) ([0, 0] : List UInt8).length 1 (Lib.byteCells [0, 0]) := arg_lit w4 #[.int .u8 0, .int .u8 0] 5 2 rfl (by decide)
  have cA := record_GetAll (.slice (some ⟨w4.heap.size, 0, none⟩) 2 2) [0, 0] _ hargC (by decide) (Utf8Tabs_below hT (below_seq hb14 hbC))
  rw [aw_all] at cA
  have CA := Lib.hid cA
  clear cA hargC
  go_upto_region 5 with (go_at_call 15; refine CA.out.mono ?_; rintro en w5 ⟨v5, Z5, rfl, -, -, hb5⟩)
  have hb45 := below_seq hbC hb5
  have hb15 := below_seq hb14 hb45
  have ho5 := owns_below ho4 hb45
  have hrec5 := hrec4.below hb45
  have hrec15 := hrec14.below hb45
  have hs4 := hb24.size
  have hc5 : w5.heap[w.heap.size + 1]? = some (.cells #[.int .i64 (-1), .int .u64 5, .slice (some ⟨w.heap.size, 0, none⟩) 1 1, .string ⟨#[104, 105]⟩] 27 (0, 0)) := by
    rw [hb45.block _ (by omega)]; exact hc4
  have hcB5 : w5.heap[w3.heap.size]? = some (.cells #[.int .i64 rec09.time, .int .u64 (rec09.seq : Int), .slice al rec09.labs.length cl, .string rec09.line] 27 (0, 0)) := by
    rw [hb45.block _ ((Array.getElem?_eq_some_iff.1 hcB).1)]; exact hcB
  obtain ⟨c0, c1, c2, c3, -, -, -, -⟩ := cells4 hc5
  obtain ⟨d0, d1, d2, d3, -, -, -, -⟩ := cells4 hcB5
  have hcv := conv_owned (P := Tryd.prog) (src := 22) (dst := 9) Tryd.underlying22 Tryd.underlying5 Tryd.underlying9 ho5
  have hcv' : (convert 22 9 v2).run Tryd.prog w5 = .ok (.string ⟨#[1, 5, 1, 1, 97, 1, 49, 2, 104, 105]⟩) w5 := hcv
  have cS := rrec_Same rec09 rec09 (.slice (some ⟨w.heap.size, 0, none⟩) 1 1) (.slice al rec09.labs.length cl) w5 hrec15.1 hrec5.1
  rw [decide_eq_true rfl] at cS
  have cK := fun W => record_Compare rec09 noRec (.slice (some ⟨w.heap.size, 0, none⟩) 1 1) (.slice none 0 0) W
  rw [aw_cmp9] at cK
  unfold recV at cS cK
  have CS := Lib.hid cS
  have CK := Lib.hid cK
  have e0 : rec09.time = -1 := rfl
  have e1 : (rec09.seq : Int) = 5 := rfl
  have e3 : rec09.line = ⟨#[104, 105]⟩ := rfl
  rw [e0, e1, e3] at CS CK
  rw [e0] at d0
  rw [e1] at d1
  rw [e3] at d3
  clear cS cK hcv ho5 ho4 hrec5 hrec15 hrec4 hrec14 hc5 hcB5 hc4 hcB CA hc1 e0 e1 e3
  have hb16 := fun w6 (h : Below w5.heap.size w5 w6) => (show w6.cell? ⟨w.heap.size + 1, 0, none⟩ = some (.int .i64 (-1)) ∧ w6.cell? ⟨w.heap.size + 1, 1, none⟩ = some (.int .u64 5) ∧ w6.cell? ⟨w.heap.size + 1, 2, none⟩ = some (.slice (some ⟨w.heap.size, 0, none⟩) 1 1) ∧ w6.cell? ⟨w.heap.size + 1, 3, none⟩ = some (.string ⟨#[104, 105]⟩) from by
    have hlt : w.heap.size + 1 < w5.heap.size := by have := hb45.size; omega
    exact ⟨by rw [h.cell (p := ⟨w.heap.size + 1, 0, none⟩) hlt]; exact c0, by rw [h.cell (p := ⟨w.heap.size + 1, 1, none⟩) hlt]; exact c1, by rw [h.cell (p := ⟨w.heap.size + 1, 2, none⟩) hlt]; exact c2, by rw [h.cell (p := ⟨w.heap.size + 1, 3, none⟩) hlt]; exact c3⟩)
  have HB := Lib.hid hb16
  clear hb16
  go_wp2_with (first
    | (go_at_call 17; refine CS.out.mono ?_; rintro en w6 ⟨rfl, hb6⟩; obtain ⟨k0, k1, k2, k3⟩ := HB.out w6 hb6)
    | (go_at_call 19; refine (CK.out _).mono ?_; rintro en w7 ⟨rfl, hb7⟩))
  go_ret
  exact ⟨by first | rfl | simp, below_seq hb15 (below_seq hb6 hb7)⟩
end Go.Proofs.YtkgnhimepcihpaaDoor
