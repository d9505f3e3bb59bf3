/-
  What layer 23's calls lean on, out of the row.
-/
import Derived.Test.YtljnbbdhmlfhjaaGreatDoorFrameJ
import Derived.Test.YtljnbbdhmlfhjaaGreatDoorWirTwo
import Derived.LaidLaws
import Derived.Lib.LaidTab
namespace Go.Proofs.YtljnbbdhmlfhjaaGreatDoor
open Go.RowKit Go.ChangeShapes Go.WideShapes Go.ChangeAt Go.Lib Go.Shelf
theorem var_ifaceW {W : World} {n nm : String} {g : Nat} {t : TypeId} {ms : Array (String × TypeId)} {d : DataW Unit} (r : Lib.VarReads Tryz.prog W n (.iface nm d)) (hg : Tryz.prog.globalNamed n = some g) (ht : (Tryz.prog.globals[g]?).map (·.type) = some t) (hi : Tryz.prog.underlying t = some (.interface ms)) :
    ∃ u v, W.var? Tryz.prog n = some #[.iface u v] := by
  obtain ⟨g', t', cs, fuel, p, h1, h2, h3, h4⟩ := r
  obtain rfl := Option.some.inj (hg.symm.trans h1)
  obtain rfl := Option.some.inj (ht.symm.trans h2)
  obtain ⟨f', u, v, hcs, -⟩ := iface_of_trod hi h4
  exact ⟨u, v, h3.trans (congrArg some (Array.toList_inj.1 hcs))⟩
set_option maxRecDepth 100000 in
theorem errv_ofW {l : List (String × DataW Unit)} {W : World} (h1 : ("strconv.ErrRange", Rows.laid_strconv_ErrRange) ∈ l) (h2 : ("strconv.ErrSyntax", Rows.laid_strconv_ErrSyntax) ∈ l)
    (hn : (l.all fun x => x.2.handleName?.isNone) = true) (hL : laidMetH Tryz.prog l W) : ErrV W := by
  rw [MakeChecks.laidMetH_plain _ _ _ hn] at hL
  have r1 := Lib.laidMet.reads hL h1
  have r2 := Lib.laidMet.reads hL h2
  obtain ⟨t', p', e1⟩ := var_ifaceW (g := 3) (t := 99) r1 (by kernel_rfl) (by kernel_rfl) Tryz.underlying99
  obtain ⟨t, p, e2⟩ := var_ifaceW (g := 2) (t := 99) r2 (by kernel_rfl) (by kernel_rfl) Tryz.underlying99
  exact ⟨t, p, t', p', e2, e1⟩
theorem tabIs_of_readsW {P : Program} {W : World} {name : String} {k : IntKind} {zs : List Int} {g : Nat} {t e : TypeId} {n : Nat}
    (hg : P.globalNamed name = some g) (hty : (P.globals[g]?).map (·.type) = some t) (ht : P.underlying t = some (.array n e)) (he : P.underlying e = some (.int k)) (hce : P.cellsOf e = 1) (hct : P.cellsOf t = n)
    (h : VarReads P W name (tabData k zs)) : TabIs P W name k zs := by
  obtain ⟨g', t', cs, fuel, p, hg', ht', hvar, hd⟩ := h
  obtain rfl := Option.some.inj (hg.symm.trans hg')
  obtain rfl := Option.some.inj (hty.symm.trans ht')
  unfold TabIs
  rw [hvar, ← cells_of_tab ht he hce hct hd]
theorem p10_of {l : List (String × DataW Unit)} {W : World} (h2 : ("internal/strconv.uint64pow10", Rows.laid_internal_strconv_uint64pow10) ∈ l)
    (hn : (l.all fun x => x.2.handleName?.isNone) = true) (hL : laidMetH Tryz.prog l W) : Lib.TabBelow Tryz.prog W.heap.size W "internal/strconv.uint64pow10" .u64 Lib.pow10Tab := by
  rw [MakeChecks.laidMetH_plain _ _ _ hn] at hL
  have r2 := Lib.laidMet.reads hL h2
  rw [show Rows.laid_internal_strconv_uint64pow10 (H := Unit) = tabData .u64 pow10Tab from by kernel_rfl] at r2
  exact tabBelow_of_tabIs (tabIs_of_readsW (g := 4) (t := 217) (e := 31) (n := 20) (by kernel_rfl) (by kernel_rfl) (by kernel_rfl) (by kernel_rfl) (by kernel_rfl) (by kernel_rfl) r2)
end Go.Proofs.YtljnbbdhmlfhjaaGreatDoor
