/-
  json.Text and json.Get.
-/
import Derived.Test.YtljnbbdhmlfhjaaDoorJsWr
namespace Go.Proofs.YtljnbbdhmlfhjaaDoor
open Go.RowKit
def textJ : J → Bs × Bool
  | .str s => (s, true)
  | _ => ([], false)
set_option maxRecDepth 100000 in
set_option maxHeartbeats 10000000 in
theorem js_Text (j : J) (S : Nat → Prop) (v : Value) (w : World) (hr : RepJ w S j v) :
    Calls Tryd.prog 15 #[v] w fun e w' => e = .returned (.tuple #[.string ⟨(textJ j).1.toArray⟩, .bool (textJ j).2]) ∧ w' = w := by
  cases j with
  | nul =>
    have hv : v = .nilIface := hr
    subst hv
    have a1 : ∀ W, (Instr.typeAssert .nilIface 20 9 true).run Tryd.prog W = .ok (.tuple #[.string ⟨#[]⟩, .bool false]) W := fun W => by kernel_rfl
    clear hr
    go_enter Tryd.func15, Tryd.ntmps15
    go_wp2
    go_ret2
    exact ⟨rfl, rfl⟩
  | bool b =>
    have hv : v = .iface 4 (.bool b) := hr
    subst hv
    have a1 : ∀ W, (Instr.typeAssert (.iface 4 (.bool b)) 20 9 true).run Tryd.prog W = .ok (.tuple #[.string ⟨#[]⟩, .bool false]) W := fun W => by kernel_rfl
    clear hr
    go_enter Tryd.func15, Tryd.ntmps15
    go_wp2
    go_ret2
    exact ⟨rfl, rfl⟩
  | num s =>
    have hv : v = .iface 30 (.string ⟨s.toArray⟩) := hr
    subst hv
    have a1 : ∀ W x, (Instr.typeAssert (.iface 30 x) 20 9 true).run Tryd.prog W = .ok (.tuple #[.string ⟨#[]⟩, .bool false]) W := fun W x => by kernel_rfl
    clear hr
    go_enter Tryd.func15, Tryd.ntmps15
    go_wp2
    go_ret2
    exact ⟨rfl, rfl⟩
  | str s =>
    have hv : v = .iface 9 (.string ⟨s.toArray⟩) := hr
    subst hv
    show Calls _ _ _ _ fun e w' => e = .returned (.tuple #[.string ⟨s.toArray⟩, .bool true]) ∧ w' = w
    obtain ⟨B, hB⟩ : ∃ B : ByteArray, (⟨s.toArray⟩ : ByteArray) = B := ⟨_, rfl⟩
    rw [hB]
    have a1 : ∀ W x, (Instr.typeAssert (.iface 9 x) 20 9 true).run Tryd.prog W = .ok (.tuple #[x, .bool true]) W := fun W x => by kernel_rfl
    clear hr hB
    go_enter Tryd.func15, Tryd.ntmps15
    go_wp2
    go_ret2
    exact ⟨rfl, rfl⟩
  | arr l =>
    obtain ⟨sv, vs, hv, -⟩ := hr
    subst hv
    have a1 : ∀ W x, (Instr.typeAssert (.iface 35 x) 20 9 true).run Tryd.prog W = .ok (.tuple #[.string ⟨#[]⟩, .bool false]) W := fun W x => by kernel_rfl
    go_enter Tryd.func15, Tryd.ntmps15
    go_wp2
    go_ret2
    exact ⟨rfl, rfl⟩
  | obj l =>
    obtain ⟨sv, vs, hv, -⟩ := hr
    subst hv
    have a1 : ∀ W x, (Instr.typeAssert (.iface 34 x) 20 9 true).run Tryd.prog W = .ok (.tuple #[.string ⟨#[]⟩, .bool false]) W := fun W x => by kernel_rfl
    go_enter Tryd.func15, Tryd.ntmps15
    go_wp2
    go_ret2
    exact ⟨rfl, rfl⟩
def findM (nm : Bs) : List (Bs × J) → Option J
  | [] => none
  | (n, x) :: l => if n = nm then some x else findM nm l
def getJ (nm : Bs) : J → Option J
  | .obj l => findM nm l
  | _ => none
def GetR (w : World) (S : Nat → Prop) (o : Option J) (e : Ending) (w' : World) : Prop :=
  ∃ u, e = .returned (.tuple #[u, .bool o.isSome]) ∧ Below w.heap.size w w' ∧ (match o with
    | some x => RepJ w' S x u
    | none => u = .nilIface)
theorem findM_drop (nm : Bs) (l : List (Bs × J)) (i : Nat) (h : i < l.length) : findM nm (l.drop i) = if l[i].1 = nm then some l[i].2 else findM nm (l.drop (i + 1)) := by
  rw [List.drop_eq_getElem_cons h]
  obtain ⟨n, x⟩ := l[i]
  rfl
end Go.Proofs.YtljnbbdhmlfhjaaDoor
