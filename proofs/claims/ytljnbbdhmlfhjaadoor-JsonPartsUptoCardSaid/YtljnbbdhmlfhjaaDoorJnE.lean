/-
  json.Items, json.Int.
-/
import Derived.Test.YtljnbbdhmlfhjaaDoorJnD
import Derived.Test.YtljnbbdhmlfhjaaDoorJnP
import Derived.Test.YtljnbbdhmlfhjaaDoorJsL
namespace Go.Proofs.YtljnbbdhmlfhjaaDoor
open Go.RowKit
theorem repL_one {w : World} {S : Nat → Prop} : ∀ {l : List J} {vs : List Value}, RepL w S l vs → ∀ u ∈ vs, u.oneCell' = true
  | [], vs, h, u, hu => by rw [show vs = [] from h] at hu; simp at hu
  | x :: l, vs, h, u, hu => by
    obtain ⟨v, vs', rfl, h1, h2⟩ := h
    rcases List.mem_cons.1 hu with rfl | hu
    · exact rep_one h1
    · exact repL_one h2 u hu
theorem eql_nil_any (a : Option Addr) (l c : Nat) (W : World) : (binOp .eql 35 (.slice a l c) (.slice none 0 0)).run Tryd.prog W = .ok (.bool a.isNone) W := by
  have h := run_equal_slice_nil (P := Tryd.prog) W 35 20 a l c Tryd.underlying35
  simp [binOp, h]
set_option maxRecDepth 100000 in
set_option maxHeartbeats 20000000 in
theorem clone_any (sv : Value) (n : Nat) (vs : List Value) (w : World) (hr : argRow w sv n 1 vs) (h1 : ∀ u ∈ vs, u.oneCell' = true) (hn : n ≤ 1099511627776) :
    Calls Tryd.prog 30 #[sv] w fun e w' => ∃ v, e = .returned v ∧ w'.ownsRow w.heap.size 20 1 v n vs ∧ Below w.heap.size w w' := by
  have EI : ElemT Tryd.prog 35 20 .nilIface 1 16 := ⟨Tryd.underlying35, by kernel_rfl, rfl, by decide⟩
  have HR := Lib.hid (And.intro hr h1)
  obtain ⟨hl, a, cap, rfl, hcl, hcm, hc⟩ := hr
  rw [Nat.mul_one] at hl
  unfold maxLen at hcm
  have hl0 : a = none → n = 0 ∧ vs = [] := fun e => by
    have hn0 : n = 0 := by
      rcases Nat.eq_zero_or_pos n with h | h
      · exact h
      · obtain ⟨b, off, e', -⟩ := hc h
        rw [e] at e'
        cases e'
    exact ⟨hn0, List.eq_nil_of_length_eq_zero (by omega)⟩
  have hnil := fun a l c W => eql_nil_any a l c W
  have HL := Lib.hid hl
  clear h1 hc hl
  cases a with
  | none =>
    obtain ⟨rfl, rfl⟩ := hl0 rfl
    clear hl0 HL HR
    go_enter Tryd.func30, Tryd.ntmps30
    go_wp2
    go_ret
    exact ⟨_, rfl, World.ownsRow_nil _ _ _ _, Below.refl _ _⟩
  | some p =>
    clear hl0
    go_enter Tryd.func30, Tryd.ntmps30
    go_wp2_with (at_builtin; go_loud (refine wpList_append_src rfl _ _ _ _ rfl w.heap.size EI _ 0 [] rfl (World.ownsRow_lit w #[] 0 (Nat.le_refl _) (by decide) rfl) _ n vs rfl (by exact src_arg Tryd.underlying35 (argRow_below HR.out.1 (belowAJ (Below.refl _ _) (Nat.le_refl _))) HR.out.2) (by unfold maxLen; omega) (by omega) (by simp) ?_); intro v1 w1 hown1 hgr1 _ _)
    go_ret
    refine ⟨_, rfl, by simpa using hown1, (belowAJ (Below.refl _ _) (Nat.le_refl _)).grown hgr1 (by simp) (fun k hk => ?_)⟩
    cases hk
    exact Nat.le_refl _
def itemsJ : J → List J × Bool
  | .arr l => (l, true)
  | _ => ([], false)
def ItemsR (w : World) (S : Nat → Prop) (o : List J × Bool) (e : Ending) (w' : World) : Prop :=
  ∃ v vs, e = .returned (.tuple #[v, .bool o.2]) ∧ w'.ownsRow w.heap.size 20 1 v o.1.length vs ∧ RepL w' S o.1 vs ∧ Below w.heap.size w w'
set_option maxRecDepth 100000 in
set_option maxHeartbeats 20000000 in
theorem js_Items_no (v : Value) (w : World) (ha : ∀ W, (Instr.typeAssert v 20 35 true).run Tryd.prog W = .ok (.tuple #[.slice none 0 0, .bool false]) W) :
    Calls Tryd.prog 19 #[v] w fun e w' => ∃ v, e = .returned (.tuple #[v, .bool false]) ∧ w'.ownsRow w.heap.size 20 1 v 0 [] ∧ Below w.heap.size w w' := by
  have C := clone_any (.slice none 0 0) 0 [] w (argRow_owns (World.ownsRow_nil w 0 20 1)) (fun u hu => by simp at hu) (by decide)
  go_enter Tryd.func19, Tryd.ntmps19
  go_wp2_with (go_at_call 30; refine C.mono ?_; rintro e w2 ⟨v2, rfl, ho2, hb2⟩)
  go_ret2
  exact ⟨_, rfl, ho2, hb2⟩
set_option maxRecDepth 100000 in
set_option maxHeartbeats 20000000 in
theorem js_Items_arr (l : List J) (S : Nat → Prop) (sv : Value) (vs : List Value) (w : World) (hrow : RowS w S sv l.length 1 vs) (hrep : RepL w S l vs) (hS : ∀ k, S k → k < w.heap.size) (hl : l.length ≤ 1099511627776) :
    Calls Tryd.prog 19 #[.iface 35 sv] w (ItemsR w S (l, true)) := by
  have a1 : ∀ W x, (Instr.typeAssert (.iface 35 x) 20 35 true).run Tryd.prog W = .ok (.tuple #[x, .bool true]) W := fun W x => by kernel_rfl
  have C := clone_any sv l.length vs w hrow.1 (repL_one hrep) hl
  have HLOW := Lib.hid (fun (W : World) (hb : Below w.heap.size w W) => hrep.low hS hb)
  obtain ⟨⟨-, a, cap, rfl, -⟩, -⟩ := hrow
  clear hrep hS
  obtain ⟨n, hn⟩ : ∃ n, l.length = n := ⟨_, rfl⟩
  have HN := Lib.hid hn
  rw [hn] at C hl ⊢
  clear hn
  go_enter Tryd.func19, Tryd.ntmps19
  go_wp2_with (go_at_call 30; refine C.mono ?_; rintro e w2 ⟨v2, rfl, ho2, hb2⟩)
  go_ret2
  exact ⟨_, vs, rfl, by rw [HN.out]; exact ho2, HLOW.out _ hb2, hb2⟩
theorem js_Items (j : J) (S : Nat → Prop) (v : Value) (w : World) (hr : RepJ w S j v) (hS : ∀ k, S k → k < w.heap.size) (hl : (formJ j).length ≤ 1099511627776) :
    Calls Tryd.prog 19 #[v] w (ItemsR w S (itemsJ j)) := by
  have no : ∀ v, (∀ W, (Instr.typeAssert v 20 35 true).run Tryd.prog W = .ok (.tuple #[.slice none 0 0, .bool false]) W) → Calls Tryd.prog 19 #[v] w (ItemsR w S ([], false)) := fun v ha =>
    (js_Items_no v w ha).mono fun e w' ⟨u, h1, h2, h3⟩ => ⟨u, [], h1, h2, rfl, h3⟩
  cases j with
  | nul => rw [show v = _ from hr]; exact no _ fun W => by kernel_rfl
  | bool b => rw [show v = _ from hr]; exact no _ fun W => by kernel_rfl
  | num s => rw [show v = _ from hr]; exact no _ fun W => by kernel_rfl
  | str s => rw [show v = _ from hr]; exact no _ fun W => by kernel_rfl
  | obj l =>
    obtain ⟨sv, vs, rfl, -⟩ := hr
    exact no _ fun W => by kernel_rfl
  | arr l =>
    obtain ⟨sv, vs, rfl, h1, h2⟩ := hr
    have hle : l.length ≤ (formL l).length + 1 := by
      have : ∀ m : List J, m.length ≤ (formT m).length := by
        intro m
        induction m with
        | nil => exact Nat.le_refl _
        | cons y m ih => simp only [formT, List.length_cons, List.length_append]; omega
      cases l with
      | nil => simp
      | cons y m =>
        have := this m
        simp only [formL, List.length_cons, List.length_append]
        omega
    simp only [formJ, List.length_cons, List.length_append, List.length_nil] at hl
    exact js_Items_arr l S sv vs w h1 h2 hS (by omega)
end Go.Proofs.YtljnbbdhmlfhjaaDoor
