/-
  The frame that the proofs of this seat's statements share: what a law leaves; the witness's world; arguments opened. (No package-level variable is listed.)
-/
import Derived.Test.YtknoimflimhcgaaDoorRows
import Derived.Test.YtknoimflimhcgaaDoorKitB
import Derived.WalkKit
import Derived.ProofKit
import Derived.OpenShut
import Derived.Deep.DeepHandedRow
import Derived.Lib.LaidIn
import Derived.PinnedBridge
namespace Go.Proofs.YtknoimflimhcgaaDoor
open Go.ChangeShapes Go.WideShapes Go.ChangeAt Go.RowKit Go.Lib Go.Shelf

theorem own : ownKnob Tryd.prog.godebug = none := by kernel_rfl
theorem laidOut : laidOutB Tryd.prog = true := by kernel_rfl

theorem trodAll_below {H : Type} {enc : TypeId × Value → H} {P : Program} (hl : laidOutB P = true) {W W' : World} (hb : Below W.heap.size W W') :
    ∀ (ts : List TypeId) (vs : List Value) (ds : List (DataW H)) (p : List MemPlace), (∀ t ∈ ts, P.readableRec t = true ∧ t < P.types.size) →
      DataW.TrodAll enc P W 0 (fun _ => true) true ts vs ds p → (∀ x ∈ p, x.block < W.heap.size) → DataW.TrodAll enc P W' 0 (fun b => decide (b < W.heap.size)) true ts vs ds p := by
  intro ts
  induction ts with
  | nil =>
    intro vs ds p _ h _
    obtain ⟨rfl, rfl, rfl⟩ := trodAll_nil h
    exact trodAll_mk0
  | cons t ts ih =>
    intro vs ds p ht h hp
    obtain ⟨v, vs', d, ds', p1, p2, rfl, rfl, rfl, h0, hr⟩ := trodAll_cons h
    have ht0 := ht t (by simp)
    exact trodAll_cons_mk (Below.trod hl ht0.1 ht0.2 h0 hb (fun x hx => hp x (by simp [hx]))) (ih vs' ds' p2 (fun x hx => ht x (by simp [hx])) hr (fun x hx => hp x (by simp [hx])))

/-- A law that answers true and writes nothing that was there leaves what its row says. -/
theorem post_true {H : Type} {enc : TypeId × Value → H} {P : Program} {f : Func} {s : ChangeSpec} {W W' : World} {args : Array Value} {ds gs : List (DataW H)} {before : List MemPlace} {T : TypeId}
    (hl : laidOutB P = true) (hts : ∀ t ∈ f.params.toList, P.readableRec t = true ∧ t < P.types.size) (hb : Below W.heap.size W W') (hvars : s.vars = [])
    (hrt : f.resultTypes = #[T]) (hT : P.underlying T = some .bool) (hfn : s.fn H (ds ++ []) = { results := [.lit (.bool true)], args := ds })
    (hW : DataW.Whole enc P f.params.toList s.vars false W args.toList ds gs before) : s.post enc P f false true false false W args (.bool true) W' := by
  have hW' := hW
  obtain ⟨p, q, hA, hV, hpq, _, _⟩ := hW
  rw [hvars] at hV
  obtain ⟨hg, hq⟩ := trodVars_none hV
  subst hg; subst hq
  rw [List.append_nil] at hpq
  subst hpq
  refine ⟨ds, [], before, [], before, [], hW', ?_, ?_, ?_, hb.frame _, fun h => by cases h⟩
  · rw [hfn, hrt]
    exact trodAll_mk1 (shut_bool hT _)
  · rw [hfn]
    exact trodAll_below hl hb _ _ _ _ hts hA (fun x hx => hW'.lt x hx)
  · rw [hvars, hfn]
    rfl

/-- THE WITNESS's world: the settled one. -/
noncomputable def laidWorld (os : Os) : World := World.holding Tryd.prog os ⟨#[], #[], []⟩
theorem bulk_one {H : Type} (d : DataW H) : 1 ≤ Rows.uptoBulk d := by
  cases d with
  | lit l => cases l <;> simp [Rows.uptoBulk]
  | nil => simp [Rows.uptoBulk]
  | ptr d => simp [Rows.uptoBulk]
  | slice elems spare => simp [Rows.uptoBulk]
  | agg parts => simp [Rows.uptoBulk]
  | iface t d => simp [Rows.uptoBulk]
  | map entries => simp [Rows.uptoBulk]
  | held h => simp [Rows.uptoBulk]
theorem bulk_len {H : Type} (l : List (DataW H)) : l.length ≤ Rows.uptoBulkAll l := by
  induction l with
  | nil => simp [Rows.uptoBulkAll]
  | cons x r ih => have := bulk_one x; simp only [Rows.uptoBulkAll, List.length_cons]; omega
theorem bulk_list {H : Type} {d : DataW H} {l : List UInt8} (h : d = .nil ∧ l = [] ∨ ∃ (xs ys : List (DataW H)), d = .slice xs ys ∧ xs.length = l.length) : l.length ≤ Rows.uptoBulk d := by
  rcases h with ⟨rfl, rfl⟩ | ⟨xs, ys, rfl, e⟩
  · simp
  · have := bulk_len xs
    simp only [Rows.uptoBulk]
    omega
theorem bound_of {H : Type} {ds : List (DataW H)} (hk : Rows.uptoSmall H ds = true) : Rows.uptoBulkAll ds ≤ 1048576 := of_decide_eq_true hk
theorem open_arr2 {H : Type} {enc : TypeId × Value → H} {P : Program} {w : World} {base : Nat} {spare : Nat → Bool} {held : Bool} {r : Reach} {b0 : Nat} {t e : TypeId} {v : Value} {d : DataW H} {p : List MemPlace}
    (ht : P.underlying t = some (.array 2 e)) (he : P.underlying e = some (.int .i64)) (hc : P.cellsOf t = 2) (hce : P.cellsOf e = 1) (hv : Value.okWide P w r b0 t v) (h : DataW.Trod enc P w base spare held t v d p) :
    ∃ x y : Int, v = .agg #[.int .i64 x, .int .i64 y] := by
  unfold Value.okWide at hv
  rw [ht] at hv
  obtain ⟨cs, rfl, hsz, _⟩ := hv
  obtain ⟨fuel, hf⟩ := h
  obtain ⟨xs, m, _, _, _, hxl, hget⟩ := DataW.trod_array ht hf
  simp only [Value.cells, hce] at hget
  have h0 := hget 0 (by omega)
  have h1 := hget 1 (by omega)
  rw [List.getElem?_eq_getElem (by omega)] at h0 h1
  obtain ⟨x, hx, _⟩ := DataW.trod_int he h0
  obtain ⟨y, hy, _⟩ := DataW.trod_int he h1
  rw [hc] at hsz
  obtain ⟨l⟩ := cs
  rcases l with _ | ⟨a, _ | ⟨b, _ | ⟨c, l⟩⟩⟩
  all_goals simp at hsz
  simp at hx hy
  exact ⟨x, y, by rw [hx, hy]⟩
end Go.Proofs.YtknoimflimhcgaaDoor
