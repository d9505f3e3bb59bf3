/-
  A head as a state; its calls.
-/
import Derived.Test.YtaimldndooijdaaGreatDoorHeadTri
namespace Go.Proofs.YtaimldndooijdaaGreatDoor
open Go.RowKit Go.WideMaps Go.Maps Go.WideElems Go.MapKept
open Go.ChangeShapes (lits)
def MapIs (w : World) (mv : Value) (A : List Rec) : Prop := (mv = .map none ∧ A = []) ∨ ∃ b n, mv = .map (some b) ∧ n ≤ 1000000000 ∧ Idx w b n (fun t => plI t A)
/-- A head: the number that came last, did any come, its records. -/
def HeadAt (w : World) (p last : Nat) (so : Bool) (A : List Rec) : Prop :=
  ∃ av mv ZA, w.heap[p]? = some (headObj av mv last so) ∧ ROwn w 0 av ZA ∧ ZA.map Prod.fst = A ∧ A.length ≤ 65536 ∧ (∀ r ∈ A, chkRec r = 0) ∧ MapIs w mv A
theorem own_stay {w w' : World} {B size n : Nat} {e : TypeId} {v : Value} {xs : List Value} (h : w.ownsRow B e size v n xs) (hk : ∀ k, v.ownBlock = some k → w'.heap[k]? = w.heap[k]?) : w'.ownsRow B e size v n xs := by
  refine ⟨h.1, ?_⟩
  rcases h.2 with ⟨rfl, h2⟩ | ⟨g, cap, cur, rfl, hB, hg, h2⟩
  · exact .inl ⟨rfl, h2⟩
  · exact .inr ⟨g, cap, cur, rfl, hB, by rw [hk g rfl]; exact hg, h2⟩
theorem ROwn.stay {w w' : World} {B : Nat} {v : Value} {Z : List RecL} (h : ROwn w B v Z) (h1 : ∀ k, v.ownBlock = some k → w'.heap[k]? = w.heap[k]?) (h2 : ∀ z ∈ Z, ∀ k, z.2.ownBlock = some k → w'.heap[k]? = w.heap[k]?) : ROwn w' B v Z :=
  ⟨own_stay h.own h1, fun z hz => by
    have h3 := own_stay (h.labs z hz).1 (h2 z hz)
    exact ⟨h3, LRow_own h3, (h.labs z hz).2.2⟩⟩
theorem HeadAt.below {w w' : World} {p last : Nat} {so : Bool} {A : List Rec} (h : HeadAt w p last so A) (hb : Below w.heap.size w w') : HeadAt w' p last so A := by
  obtain ⟨av, mv, ZA, hp, hA, h1, h2, h3, hm⟩ := h
  refine ⟨av, mv, ZA, (hb.block p (Array.getElem?_eq_some_iff.1 hp).1).trans hp, hA.keptB hb, h1, h2, h3, ?_⟩
  rcases hm with hm | ⟨b, n, e, hn, hi⟩
  · exact .inl hm
  · exact .inr ⟨b, n, e, hn, hi.blocks fun j _ hj => hb.block j hj⟩
theorem HeadAt.lt {w : World} {p last : Nat} {so : Bool} {A : List Rec} (h : HeadAt w p last so A) : p < w.heap.size := by
  obtain ⟨av, mv, ZA, hp, _⟩ := h
  exact (Array.getElem?_eq_some_iff.1 hp).1
theorem hd_Len {w : World} {p last : Nat} {so : Bool} {A : List Rec} (h : HeadAt w p last so A) :
    Calls Tryz.prog 19 #[.pointer (some ⟨p, 0, none⟩)] w fun e w' => e = .returned (.int .i64 A.length) ∧ w = w' := by
  obtain ⟨av, mv, ZA, hp, hA, h1, h2, h3, hm⟩ := h
  have := head_Len p av mv last so ZA w hp hA
  rw [← h1, List.length_map]
  exact this
theorem hd_All {w : World} {p last : Nat} {so : Bool} {A : List Rec} (h : HeadAt w p last so A) :
    Calls Tryz.prog 12 #[.pointer (some ⟨p, 0, none⟩)] w fun e w' => ∃ v' Z', e = .returned v' ∧ Z'.map Prod.fst = A ∧ ROwn w' w.heap.size v' Z' ∧ Below w.heap.size w w' := by
  obtain ⟨av, mv, ZA, hp, hA, h1, h2, h3, hm⟩ := h
  have := head_All p av mv last so ZA w hp hA (by rw [← List.length_map (f := Prod.fst), h1]; exact h2)
  rw [h1] at this
  exact this
set_option maxRecDepth 100000 in
theorem head_Find0 (p : Nat) (av : Value) (last : Int) (so : Bool) (t : Value) (w : World) (hp : w.heap[p]? = some (headObj av (.map none) last so)) (hk : ∃ l, keyOf Tryz.prog 9 t = some l) :
    Calls Tryz.prog 15 #[.pointer (some ⟨p, 0, none⟩), t] w fun e w' => ∃ v', e = .returned v' ∧ w'.ownsRow w.heap.size 44 1 v' 0 (u64s []) ∧ Below w.heap.size w w' := by
  have CC := Lib.hid (u64_clone (.slice none 0 0) [] w (argRow_owns (World.ownsRow_nil w 0 44 1)) (by decide))
  have c1 := cell_own hp (j := 1) rfl
  have hl : (Instr.lookup 51 (.map none) t false).run Tryz.prog w = .ok (.slice none 0 0) w := by simpa using Maps.look_nil (w := w) false keyS Tryz.underlying51 (zeroU w) hk.choose_spec
  clear hp hk
  go_enter Tryz.func15, Tryz.ntmps15
  go_wp2_with (go_at_call 31; refine CC.out.mono ?_; rintro e w1 ⟨v1, rfl, ho1, hb1⟩)
  go_ret
  exact ⟨_, rfl, ho1, hb1⟩
theorem hd_Find {w : World} {p last : Nat} {so : Bool} {A : List Rec} (h : HeadAt w p last so A) (t : Txt) (ht : t.length ≤ 1000000000000) :
    Calls Tryz.prog 15 #[.pointer (some ⟨p, 0, none⟩), strV t] w fun e w' => ∃ v', e = .returned v' ∧ w'.ownsRow w.heap.size 44 1 v' (plI t A).length (u64s (plI t A)) ∧ Below w.heap.size w w' := by
  obtain ⟨av, mv, ZA, hp, hA, h1, h2, h3, ⟨rfl, rfl⟩ | ⟨b, n, rfl, hn, hi⟩⟩ := h
  · exact head_Find0 p av last so (strV t) w hp ⟨_, keyT t (by unfold maxLen; omega)⟩
  · exact head_Find p b n _ av last so t w hp hi hn ht
end Go.Proofs.YtaimldndooijdaaGreatDoor
/-
  Plain: records numbered anew; what HeadTakes asks.
-/
namespace Go.Proofs.YtaimldndooijdaaGreatDoor
open Go.RowKit
theorem RecAt.same {W : World} {v : Value} {a b : Rec} (h : RecAt W v a) (h1 : b.labs = a.labs) (h2 : b.line = a.line) : RecAt W v b := by
  unfold RecAt at *
  rw [h1, h2]
  exact h
end Go.Proofs.YtaimldndooijdaaGreatDoor
/-
  The walk of HeadTakes.
-/
namespace Go.Proofs.YtaimldndooijdaaGreatDoor
open Go.RowKit
/-- The first K of mine; the others. -/
theorem mine_take {W : World} {B K : Nat} {v : Value} {Y : List RecL} (h : W.ownsRow B 47 4 v Y.length (recsCells Y)) (hK : K ≤ Y.length) (hl : ∀ y ∈ Y, RecAt W y.2 y.1) {a : Option Addr} {c : Nat} (hv : v = .slice a Y.length c) : RRow W (.slice a K c) (Y.take K) := by
  subst hv
  refine ⟨?_, fun y hy => hl y (List.mem_of_mem_take hy)⟩
  have := argRow_take (argRow_owns h) hK
  rw [List.length_take, Nat.min_eq_left hK]
  have e : recsCells (Y.take K) = (recsCells Y).take (K * 4) := by
    have e2 := recsCells_append (Y.take K) (Y.drop K)
    rw [List.take_append_drop] at e2
    rw [e2, List.take_left' (by rw [recsCells_len, List.length_take, Nat.min_eq_left hK])]
  rw [e]
  exact this
theorem mine_drop {W : World} {B K : Nat} {v : Value} {Y : List RecL} (h : W.ownsRow B 47 4 v Y.length (recsCells Y)) (hK : K ≤ Y.length) (hl : ∀ y ∈ Y, RecAt W y.2 y.1) {a a' : Option Addr} {c c' m : Nat} (hv : v = .slice a Y.length c) (hm : m = Y.length - K)
    (hc : Y.length - K ≤ c' ∧ c' ≤ c) (ha : ∀ b off, a = some ⟨b, off, none⟩ → K < Y.length → a' = some ⟨b, off + K * 4, none⟩) : RRow W (.slice a' m c') (Y.drop K) := by
  subst hv
  subst hm
  refine ⟨?_, fun y hy => hl y (List.mem_of_mem_drop hy)⟩
  have := argRow_drop (argRow_owns h) hK hc ha
  rw [List.length_drop]
  have e : recsCells (Y.drop K) = (recsCells Y).drop (K * 4) := by
    have e2 := recsCells_append (Y.take K) (Y.drop K)
    rw [List.take_append_drop] at e2
    rw [e2, List.drop_left' (by rw [recsCells_len, List.length_take, Nat.min_eq_left hK])]
  rw [e]
  exact this
end Go.Proofs.YtaimldndooijdaaGreatDoor
/-
  The walk of HeadTakes at no record.
-/
namespace Go.Proofs.YtaimldndooijdaaGreatDoor
open Go.RowKit
theorem rrow_nil (W : World) : RRow W (.slice none 0 0) [] := ⟨⟨rfl, none, 0, rfl, Nat.le_refl _, Nat.zero_le _, fun h => absurd h (by decide)⟩, fun z hz => by cases hz⟩
end Go.Proofs.YtaimldndooijdaaGreatDoor
