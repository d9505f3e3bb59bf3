/-
  A list of texts that came in; strconv's two errors out of the row.
-/
import Derived.Test.YtljnbbdhmlfhjaaDoorFrameJ
import Derived.Test.YtljnbbdhmlfhjaaDoorJnG
import Derived.Deep.Strs
import Derived.LaidLaws
namespace Go.Proofs.YtljnbbdhmlfhjaaDoor
open Go.RowKit Go.ChangeShapes Go.WideShapes
theorem bulk_texts {H : Type} : ∀ L : List Bs, Rows.uptoBulkAll (H := H) (L.map fun b => .lit (.string b)) = (L.map fun b => b.length + 1).sum
  | [] => rfl
  | b :: L => by simp only [List.map_cons, Rows.uptoBulkAll, Rows.uptoBulk, List.sum_cons, bulk_texts L]
theorem open_texts {H : Type} {enc : TypeId × Value → H} {P : Program} {w : World} {t e : TypeId} {v : Value} {d : DataW H} {ps : List MemPlace} (ht : P.underlying t = some (.slice e)) (he : P.underlying e = some .string) (hc : P.cellsOf e = 1)
    (hval : Value.okWide P w .any 0 t v) (hd : DataW.Trod enc P w 0 (fun _ => true) true t v d ps) :
    ∃ L : List Bs, argRow w v L.length 1 (L.map strV) ∧ (L.map fun b => b.length + 1).sum ≤ Rows.uptoBulk d := by
  obtain ⟨a0, len, cap, rfl⟩ := okWide_slice ht hval
  obtain ⟨fuel, hf⟩ := hd
  simp only [Value.cells] at hf
  rcases Go.Deep.open_strs ht he hc hf with ⟨hcs, hx⟩ | ⟨a, len', cap', m, B, hcs, hb, hl, hm, hmm, hx, hcell⟩
  · simp only [List.cons.injEq, and_true] at hcs
    exact ⟨[], ⟨rfl, _, _, hcs, Nat.le_refl _, Nat.zero_le _, fun h => by simp at h⟩, by simp⟩
  · simp only [List.cons.injEq, and_true] at hcs
    have hm' : m = cap' := by rw [hmm]; simp
    simp only [Prod.mk.injEq] at hx
    obtain ⟨rfl, -⟩ := hx
    have hll : ((List.range len').map fun i => (B i).data.toList).length = len' := by simp
    refine ⟨(List.range len').map fun i => (B i).data.toList, ⟨by simp, some a, cap', by rw [hcs, hll], by omega, hm, fun h0 => ?_⟩, ?_⟩
    · obtain ⟨b, off, spot⟩ := a
      have hspot : spot = none := by simpa [Addr.add] using World.cell?_spot (hcell 0 (by omega)).1
      subst hspot
      refine ⟨b, off, rfl, ?_, fun j hj => ?_⟩
      · have := (hcell 0 (by omega)).1
        rw [Go.WideShapes.add_plain] at this
        exact World.block_lt_of_cell? w _ this
      · simp only [List.length_map, List.length_range] at hj
        have := (hcell j (by omega)).1
        rw [Go.WideShapes.add_plain] at this
        rw [this]
        simp [strV]
    · have := bulk_texts (H := H) ((List.range len').map fun i => (B i).data.toList)
      rw [List.map_map] at this
      simp only [Rows.uptoBulk]
      rw [← this]
      exact Nat.le_trans (Nat.le_add_right _ _) (Nat.le_trans (Nat.le_add_right _ _) (Nat.le_refl _))
theorem texts_sizes (L : List Bs) : L.length ≤ (L.map fun b => b.length + 1).sum ∧ (∀ b ∈ L, b.length ≤ (L.map fun b => b.length + 1).sum) ∧ (formT (L.map .str)).length ≤ 6 * (L.map fun b => b.length + 1).sum := by
  induction L with
  | nil => exact ⟨Nat.le_refl _, fun b hb => absurd hb (by simp), Nat.le_refl _⟩
  | cons x L ih =>
    obtain ⟨h1, h2, h3⟩ := ih
    have hq := quote_len x
    simp only [List.map_cons, List.sum_cons, List.length_cons, formT, formJ, List.length_append]
    refine ⟨by omega, fun b hb => ?_, by omega⟩
    rcases List.mem_cons.1 hb with rfl | hb
    · omega
    · have := h2 b hb
      omega
theorem texts_form (L : List Bs) : (formL (L.map .str)).length ≤ 6 * (L.map fun b => b.length + 1).sum := by
  have := (texts_sizes L).2.2
  cases L with
  | nil => exact Nat.zero_le _
  | cons x L =>
    simp only [List.map_cons, formT, formL, List.length_cons, List.length_append] at this ⊢
    omega
theorem var_iface {W : World} {n nm : String} {g : Nat} {t : TypeId} {ms : Array (String × TypeId)} {d : DataW Unit} (r : Lib.VarReads Tryd.prog W n (.iface nm d)) (hg : Tryd.prog.globalNamed n = some g) (ht : (Tryd.prog.globals[g]?).map (·.type) = some t) (hi : Tryd.prog.underlying t = some (.interface ms)) :
    ∃ u v, W.var? Tryd.prog n = some #[.iface u v] := by
  obtain ⟨g', t', cs, fuel, p, h1, h2, h3, h4⟩ := r
  obtain rfl := Option.some.inj (hg.symm.trans h1)
  obtain rfl := Option.some.inj (ht.symm.trans h2)
  obtain ⟨f', u, v, hcs, -⟩ := iface_of_trod hi h4
  exact ⟨u, v, h3.trans (congrArg some (Array.toList_inj.1 hcs))⟩
set_option maxRecDepth 100000 in
theorem errv_of {l : List (String × DataW Unit)} {W : World} (h1 : ("strconv.ErrRange", Rows.laid_strconv_ErrRange) ∈ l) (h2 : ("strconv.ErrSyntax", Rows.laid_strconv_ErrSyntax) ∈ l)
    (hn : (l.all fun x => x.2.handleName?.isNone) = true) (hL : laidMetH Tryd.prog l W) : ErrV W := by
  rw [MakeChecks.laidMetH_plain _ _ _ hn] at hL
  have r1 := Lib.laidMet.reads hL h1
  have r2 := Lib.laidMet.reads hL h2
  obtain ⟨t', p', e1⟩ := var_iface (g := 3) (t := 81) r1 (by kernel_rfl) (by kernel_rfl) Tryd.underlying81
  obtain ⟨t, p, e2⟩ := var_iface (g := 2) (t := 81) r2 (by kernel_rfl) (by kernel_rfl) Tryd.underlying81
  exact ⟨t, p, t', p', e2, e1⟩
end Go.Proofs.YtljnbbdhmlfhjaaDoor
