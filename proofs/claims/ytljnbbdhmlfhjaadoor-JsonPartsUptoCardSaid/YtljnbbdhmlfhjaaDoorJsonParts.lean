/-
  garner/garnerlaw22.JsonParts: where what it reads is of bulk at most 1048576, the call returns true, and each argument reads behind it as before; the listed variables are tied to the program's text. Its walk: the texts that this one imports.
-/
import Derived.Test.YtljnbbdhmlfhjaaDoorJnG
import Derived.Test.YtljnbbdhmlfhjaaDoorFrameT
namespace Go.Proofs.YtljnbbdhmlfhjaaDoor.jsonParts
open Go.ChangeShapes Go.WideShapes Go.ChangeAt Go.RowKit
open Go.ChangeMaps (open_string shut_string)

theorem tabs {W : World} (hL : laidMetH Tryd.prog Rows.jsonPartsUptoRow.laid W) : Tabs W := tabs_of (.tail _ (.tail _ (.tail _ (.head _)))) (.tail _ (.tail _ (.tail _ (.tail _ (.tail _ (.tail _ (.head _))))))) (by kernel_rfl) hL

set_option maxRecDepth 100000 in
theorem contract (H : Type) (enc : TypeId × Value → H) (W : World) (base : Nat) (args : Array Value) (ds gs : List (DataW H)) (before : List MemPlace)
    (hval : ∀ (j : Nat) t v, Tryd.f7.params[j]? = some t → args[j]? = some v → Value.okWide Tryd.prog W .any base t v)
    (hW : DataW.Whole enc Tryd.prog Tryd.f7.params.toList Rows.jsonPartsSpec.vars false W args.toList ds gs before) (hL : laidMetH Tryd.prog Rows.jsonPartsUptoRow.laid W)
    (hk0 : Rows.uptoSmall H (ds ++ gs) = true) :
    Calls Tryd.prog 7 args W fun e W' => ∃ v, e = .returned v ∧ Rows.jsonPartsSpec.post enc Tryd.prog Tryd.f7 false true false false W args v W' := by
  have hW' := hW
  have hT := tabs hL
  have hE := errv_of (.tail _ (.tail _ (.tail _ (.tail _ (.head _))))) (.tail _ (.tail _ (.tail _ (.tail _ (.tail _ (.head _)))))) (by kernel_rfl) hL
  obtain ⟨p, q, hA0, hV, rfl, hfz, hnd⟩ := hW
  have hk : Rows.uptoSmall H ds = true := by
    obtain ⟨hg, _⟩ := trodVars_none hV
    rw [hg, List.append_nil] at hk0
    exact hk0
  have hbd := bound_of hk
  clear hk0 hk
  have hA : DataW.TrodAll enc Tryd.prog W 0 (fun _ => true) true Tryd.f7.params.toList args.toList ds p := hA0
  rw [Tryd.params7] at hA hval
  obtain ⟨v0, vs0, d0, ds0, p0, q0, hargs, rfl, rfl, h0, r0⟩ := trodAll_cons hA
  obtain ⟨v1, vs1, d1, ds1, p1, q1, rfl, rfl, rfl, h1, r1⟩ := trodAll_cons r0
  obtain ⟨v2, vs2, d2, ds2, p2, q2, rfl, rfl, rfl, h2, r2⟩ := trodAll_cons r1
  obtain ⟨rfl, rfl, rfl⟩ := trodAll_nil r2
  obtain rfl : args = #[v0, v1, v2] := by cases args; simp_all
  obtain ⟨n, rfl, rfl, rfl, wn⟩ := open_int Tryd.underlying2 (hval 0 2 v0 rfl rfl) h0
  have bn := bounds_i64 wn
  obtain ⟨l, argl, bll⟩ := open_texts Tryd.underlying47 Tryd.underlying9 (by kernel_rfl) (hval 1 47 v1 rfl rfl) h1
  have szl := texts_sizes l
  have fol := texts_form l
  obtain ⟨other, rfl, rfl, rfl, wother⟩ := open_string Tryd.underlying9 (hval 2 9 v2 rfl rfl) h2
  simp only [Rows.uptoBulkAll, Rows.uptoBulk] at hbd
  have hwalk : Calls Tryd.prog 7 #[.int .i64 n, v1, .string other] W fun e w' => e = .returned (.bool true) ∧ Below W.heap.size W w' := parts_walk n bn.1 bn.2 l v1 other W hT hE argl (by omega) (fun b hb => by have := szl.2.1 b hb; omega) (by have := szl.1; omega)
  refine hwalk.mono fun e W' ⟨he, hb⟩ => ⟨_, he, ?_⟩
  refine post_true laidOut ?_ hb rfl rfl Tryd.underlying4 rfl hW'
  intro t ht
  rw [Tryd.params7] at ht
  simp only [List.mem_cons, List.mem_nil_iff, or_false] at ht
  rcases ht with rfl | rfl | rfl
  all_goals exact ⟨by kernel_rfl, of_decide_eq_true (by kernel_rfl)⟩

theorem laid_met (os : Os) : laidMet Tryd.prog Rows.jsonPartsUptoRow.laid ((laidWorldJ os).forCall (fun _ _ => 0) ⟨#[], #[.int .i64 0, .slice none 0 0, .string ⟨#[]⟩], []⟩).memory :=
  (LaidIn.of_run [6, 7, 5, 1, 3, N0J, 2, N0J + 1, 0] 8 (by kernel_rfl) (by kernel_rfl) (by kernel_rfl) (by kernel_rfl)).met
theorem reads (os : Os) {H : Type} (enc : TypeId × Value → H) : ∃ places, DataW.whole enc Tryd.prog ((laidWorldJ os).forCall (fun _ _ => 0) ⟨#[], #[.int .i64 0, .slice none 0 0, .string ⟨#[]⟩], []⟩).memory Tryd.f7.params.toList Rows.jsonPartsSpec.vars false (#[.int .i64 0, .slice none 0 0, .string ⟨#[]⟩] : Array Value).toList 8 = some ([.lit (.int .i64 0), .nil, .lit (.string [])], [], places) :=
  ⟨[], by kernel_rfl⟩

set_option maxRecDepth 100000 in
theorem lifted (os : Os) (started : os.Started) (H : Type) (enc : TypeId × Value → H) (F : Stop.Interp) :
    ReturnsInHanded {} Tryd.checked os 7 .any ((Rows.OpenSpec.upto Rows.jsonPartsSpec).preRow enc Tryd.prog Tryd.f7 Rows.jsonPartsUptoRow.domain false Rows.jsonPartsUptoRow.laid) (((Rows.OpenSpec.upto Rows.jsonPartsSpec).at F).post enc Tryd.prog Tryd.f7 false true false false) := by
  obtain ⟨places, hx⟩ := reads os enc
  refine returnsInHanded_of_row (C := Tryd.checked) (s := Rows.OpenSpec.upto Rows.jsonPartsSpec) own started (by kernel_rfl) Tryd.func7
    (witness_row_atRef (enc := enc) (C := Tryd.checked) false (laidWorldJ os) #[.int .i64 0, .slice none 0 0, .string ⟨#[]⟩] rfl (by kernel_rfl) (by kernel_rfl) (by kernel_rfl)
      (OpenSpec.preRow_of_cond 8 hx (by kernel_rfl) (fun k hk => by cases hk; kernel_rfl) (by kernel_rfl) (laid_met os))) ?_
  intro W base args ds gs before hval hW _ hcond _ hL _ _
  exact contract H enc W base args ds gs before hval hW hL (hcond _ rfl)

theorem said : Rows.JsonPartsUptoSaid :=
  OpenClaim.holds_of_cond 7 Tryd.f7 rfl rfl rfl rfl rfl rfl rfl ⟨rfl, rfl, rfl, rfl, rfl⟩ rfl rfl rfl rfl rfl (by kernel_rfl) Tryd.func7 (by kernel_rfl)
    (of_decide_eq_true (by kernel_rfl)) (by unfold Func.isWrapper; first | (rw [if_pos (by decide +kernel)]; kernel_rfl) | (rw [if_neg (by decide +kernel)]; exact ⟨rfl, rfl⟩))
    (fun os started H enc _ F => by rw [OpenClaim.pre_eq_preRow]; exact lifted os started H enc F)

theorem plain (f : FuncId) (fn : Func) (hf : Tryd.pinned.checked.prog.funcNamed Rows.jsonPartsUptoRow.func = some f) (hfn : Tryd.pinned.checked.prog.funcs[f]? = some fn) :
    true = Tryd.pinned.checked.prog.looks [] ∧ ∀ (j : Nat) t, fn.params[j]? = some t → Tryd.pinned.checked.prog.wantsStandIn t = false := by
  obtain rfl : f = 7 := Option.some.inj ((show Tryd.prog.funcNamed Rows.jsonPartsUptoRow.func = some 7 by kernel_rfl).symm.trans hf) |>.symm
  obtain rfl : fn = Tryd.f7 := (Option.some.inj (Tryd.func7.symm.trans hfn)).symm
  refine ⟨by kernel_rfl, fun j t ht => ?_⟩
  have ht' := Array.mem_of_getElem? ht
  rw [Tryd.params7] at ht'
  simp only [List.mem_toArray, List.mem_cons, List.mem_nil_iff, or_false] at ht'
  rcases ht' with rfl | rfl | rfl
  · exact (show Tryd.prog.wantsStandIn 2 = false by kernel_rfl)
  · exact (show Tryd.prog.wantsStandIn 47 = false by kernel_rfl)
  · exact (show Tryd.prog.wantsStandIn 9 = false by kernel_rfl)

theorem card : Rows.JsonPartsUptoCardSaid :=
  Claim7.holds_tied_plain_at .later [] _ _ _ _ said (fun _ h => by cases h) (by kernel_rfl) (fun _ h => by cases h) jsonPartsUpto_row_tie rfl ⟨rfl, rfl⟩ (by kernel_rfl) rfl plain (by kernel_rfl)
#print axioms card
end Go.Proofs.YtljnbbdhmlfhjaaDoor.jsonParts
