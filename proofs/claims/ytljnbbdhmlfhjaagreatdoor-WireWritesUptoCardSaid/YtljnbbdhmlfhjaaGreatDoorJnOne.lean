/-
  json.Text and json.Get.
-/
import Derived.Test.YtljnbbdhmlfhjaaGreatDoorWTwo
namespace Go.Proofs.YtljnbbdhmlfhjaaGreatDoor
open Go.RowKit
def textJ : J → Bs × Bool
  | .str s => (s, true)
  | _ => ([], false)
set_option maxRecDepth 100000 in
set_option maxHeartbeats 10000000 in
theorem js_Text (j : J) (S : Nat → Prop) (v : Value) (w : World) (hr : RepJ w S j v) :
    Calls Tryz.prog 20 #[v] w fun e w' => e = .returned (.tuple #[.string ⟨(textJ j).1.toArray⟩, .bool (textJ j).2]) ∧ w' = w := by
  cases j with
  | nul =>
    have hv : v = .nilIface := hr
    subst hv
    have a1 : ∀ W, (Instr.typeAssert .nilIface 20 9 true).run Tryz.prog W = .ok (.tuple #[.string ⟨#[]⟩, .bool false]) W := fun W => by kernel_rfl
    clear hr
    go_enter Tryz.func20, Tryz.ntmps20
    go_wp2
    go_ret2
    exact ⟨rfl, rfl⟩
  | bool b =>
    have hv : v = .iface 4 (.bool b) := hr
    subst hv
    have a1 : ∀ W, (Instr.typeAssert (.iface 4 (.bool b)) 20 9 true).run Tryz.prog W = .ok (.tuple #[.string ⟨#[]⟩, .bool false]) W := fun W => by kernel_rfl
    clear hr
    go_enter Tryz.func20, Tryz.ntmps20
    go_wp2
    go_ret2
    exact ⟨rfl, rfl⟩
  | num s =>
    have hv : v = .iface 95 (.string ⟨s.toArray⟩) := hr
    subst hv
    have a1 : ∀ W x, (Instr.typeAssert (.iface 95 x) 20 9 true).run Tryz.prog W = .ok (.tuple #[.string ⟨#[]⟩, .bool false]) W := fun W x => by kernel_rfl
    clear hr
    go_enter Tryz.func20, Tryz.ntmps20
    go_wp2
    go_ret2
    exact ⟨rfl, rfl⟩
  | str s =>
    have hv : v = .iface 9 (.string ⟨s.toArray⟩) := hr
    subst hv
    show Calls _ _ _ _ fun e w' => e = .returned (.tuple #[.string ⟨s.toArray⟩, .bool true]) ∧ w' = w
    obtain ⟨B, hB⟩ : ∃ B : ByteArray, (⟨s.toArray⟩ : ByteArray) = B := ⟨_, rfl⟩
    rw [hB]
    have a1 : ∀ W x, (Instr.typeAssert (.iface 9 x) 20 9 true).run Tryz.prog W = .ok (.tuple #[x, .bool true]) W := fun W x => by kernel_rfl
    clear hr hB
    go_enter Tryz.func20, Tryz.ntmps20
    go_wp2
    go_ret2
    exact ⟨rfl, rfl⟩
  | arr l =>
    obtain ⟨sv, vs, hv, -⟩ := hr
    subst hv
    have a1 : ∀ W x, (Instr.typeAssert (.iface 42 x) 20 9 true).run Tryz.prog W = .ok (.tuple #[.string ⟨#[]⟩, .bool false]) W := fun W x => by kernel_rfl
    go_enter Tryz.func20, Tryz.ntmps20
    go_wp2
    go_ret2
    exact ⟨rfl, rfl⟩
  | obj l =>
    obtain ⟨sv, vs, hv, -⟩ := hr
    subst hv
    have a1 : ∀ W x, (Instr.typeAssert (.iface 79 x) 20 9 true).run Tryz.prog W = .ok (.tuple #[.string ⟨#[]⟩, .bool false]) W := fun W x => by kernel_rfl
    go_enter Tryz.func20, Tryz.ntmps20
    go_wp2
    go_ret2
    exact ⟨rfl, rfl⟩
def findM (nm : Bs) : List (Bs × J) → Option J
  | [] => none
  | (n, x) :: l => if n = nm then some x else findM nm l
def getJ (nm : Bs) : J → Option J
  | .obj l => findM nm l
  | _ => none
def GetR (w : World) (S : Nat → Prop) (o : Option J) (e : Ending) (w' : World) : Prop :=
  ∃ u, e = .returned (.tuple #[u, .bool o.isSome]) ∧ Below w.heap.size w w' ∧ (match o with
    | some x => RepJ w' S x u
    | none => u = .nilIface)
theorem findM_drop (nm : Bs) (l : List (Bs × J)) (i : Nat) (h : i < l.length) : findM nm (l.drop i) = if l[i].1 = nm then some l[i].2 else findM nm (l.drop (i + 1)) := by
  rw [List.drop_eq_getElem_cons h]
  obtain ⟨n, x⟩ := l[i]
  rfl
end Go.Proofs.YtljnbbdhmlfhjaaGreatDoor
/-
  json.Get: its walk.
-/
namespace Go.Proofs.YtljnbbdhmlfhjaaGreatDoor
open Go.RowKit
theorem u_kind {w : World} {S : Nat → Prop} {j : J} {u : Value} (h : RepJ w S j u) : u = .nilIface ∨ ∃ T x, u = .iface T x := by
  rcases rep_kind j with rfl | hk
  · exact .inl h
  · exact .inr (hk w S u h)
set_option maxRecDepth 100000 in
set_option maxHeartbeats 20000000 in
theorem js_Get_no (v : Value) (nm : ByteArray) (w : World) (ha : ∀ W, (Instr.typeAssert v 20 79 true).run Tryz.prog W = .ok (.tuple #[.slice none 0 0, .bool false]) W) :
    Calls Tryz.prog 16 #[v, .string nm] w fun e w' => e = .returned (.tuple #[.nilIface, .bool false]) ∧ w' = w := by
  go_enter Tryz.func16, Tryz.ntmps16
  go_wp2
  go_loopw [17] (fun iv wr => iv = .int .i64 0 ∧ wr = w) (fun _ _ => 0)
  case atStart => exact ⟨rfl, rfl⟩
  case round =>
    obtain ⟨rfl, rfl⟩ := hrel
    go_wp2
    go_ret2
    exact ⟨rfl, rfl⟩
set_option maxRecDepth 100000 in
set_option maxHeartbeats 20000000 in
theorem js_Get_obj (l : List (Bs × J)) (S : Nat → Prop) (sv : Value) (vs : List Value) (nm : ByteArray) (w : World) (hrow : RowS w S sv l.length 2 vs) (hrep : RepM w S l vs) (hS : ∀ k, S k → k < w.heap.size) (hl : l.length ≤ 1099511627776) :
    Calls Tryz.prog 16 #[.iface 79 sv, .string nm] w (GetR w S (findM nm.data.toList l)) := by
  have a1 : ∀ W x, (Instr.typeAssert (.iface 79 x) 20 79 true).run Tryz.prog W = .ok (.tuple #[x, .bool true]) W := fun W x => by kernel_rfl
  obtain ⟨X, hX⟩ : ∃ X, findM nm.data.toList l = X := ⟨_, rfl⟩
  rw [hX]
  have HX := Lib.hid hX
  have hc0 := fun (W : World) (hb : Below w.heap.size w W) (i : Nat) (hi : i < l.length) => mem_cells hi (hrow.low hS hb) (hrep.low hS hb)
  have HLOW := Lib.hid (fun (W W' : World) (hb : Below W.heap.size W W') (hW : w.heap.size ≤ W.heap.size) (j : J) (u : Value) (h : RepJ W S j u) => h.low (B := W.heap.size) (fun k hk => Nat.lt_of_lt_of_le (hS k hk) hW) hb)
  obtain ⟨⟨-, a, cap, rfl, -⟩, -⟩ := hrow
  have HC := Lib.hid (fun (W : World) (hb : Below w.heap.size w W) (i : Nat) (hi : i < l.length) => (show ∃ b off u, a = some ⟨b, off, none⟩ ∧ W.cell? ⟨b, off + i * 2, none⟩ = some (.string ⟨l[i].1.toArray⟩) ∧ W.cell? ⟨b, off + i * 2 + 1, none⟩ = some u ∧ RepJ W S l[i].2 u from by
    obtain ⟨b, off, c, u, e, h⟩ := hc0 W hb i hi
    cases e
    exact ⟨b, off, u, rfl, h⟩))
  obtain ⟨n, hn⟩ : ∃ n, l.length = n := ⟨_, rfl⟩
  have HN := Lib.hid hn
  rw [hn] at hl ⊢
  clear hX hrep hS hn hc0
  go_enter Tryz.func16, Tryz.ntmps16
  go_wp2
  go_loopw [17] (fun iv wr => ∃ i : Nat, iv = .int .i64 i ∧ i ≤ n ∧ findM nm.data.toList (l.drop i) = X ∧ Below w.heap.size w wr) (fun iv _ => n - (intOf iv).toNat)
  case atStart => exact ⟨0, rfl, by omega, HX.out, Below.refl _ _⟩
  case round =>
    obtain ⟨i, rfl, hi, hx, hb⟩ := hrel
    have HB := Lib.hid hb
    by_cases hin : i < n
    · have hil : i < l.length := by rw [HN.out]; exact hin
      have d1 : decide ((i : Int) < (n : Int)) = true := decide_eq_true (by omega)
      obtain ⟨b, off, u, rfl, hc1, hc2, hu⟩ := HC.out wr hb i hil
      rw [findM_drop _ _ _ hil] at hx
      have HU := Lib.hid hu
      have hk := u_kind hu
      obtain ⟨N, hN⟩ : ∃ N : ByteArray, (⟨l[i].1.toArray⟩ : ByteArray) = N := ⟨_, rfl⟩
      rw [hN] at hc1
      have hnn : N.toList = l[i].1 := by rw [← hN, ByteArray.toList_eq]
      by_cases hq : l[i].1 = nm.data.toList
      · rw [if_pos hq] at hx
        have dq : (N.toList == nm.toList) = true := by rw [beq_iff_eq, hnn, hq, ByteArray.toList_eq]
        have HXX := Lib.hid hx
        clear hx hb hu hN hnn hq HC
        rcases hk with rfl | ⟨T, x, rfl⟩
        · go_wp2
          go_ret2
          exact ⟨_, by rw [← HXX.out]; rfl, belowAJ HB.out HB.out.size, by rw [← HXX.out]; exact HLOW.out wr _ (belowAJ (Below.refl _ _) (Nat.le_refl _)) HB.out.size _ _ HU.out⟩
        · go_wp2
          go_ret2
          exact ⟨_, by rw [← HXX.out]; rfl, belowAJ HB.out HB.out.size, by rw [← HXX.out]; exact HLOW.out wr _ (belowAJ (Below.refl _ _) (Nat.le_refl _)) HB.out.size _ _ HU.out⟩
      · rw [if_neg hq] at hx
        have dq : (N.toList == nm.toList) = false := by rw [beq_eq_false_iff_ne, hnn, ByteArray.toList_eq]; exact hq
        have HXX := Lib.hid hx
        clear hx hb hu hN hnn hq HC
        rcases hk with rfl | ⟨T, x, rfl⟩
        · go_wp2
          go_roundw
          case rel => exact ⟨i + 1, by go_num, by omega, HXX.out, belowAJ HB.out HB.out.size⟩
          case measure => simp [intOf]; omega
        · go_wp2
          go_roundw
          case rel => exact ⟨i + 1, by go_num, by omega, HXX.out, belowAJ HB.out HB.out.size⟩
          case measure => simp [intOf]; omega
    · have d1 : decide ((i : Int) < (n : Int)) = false := decide_eq_false (by omega)
      have d2 : decide (i < n) = false := decide_eq_false hin
      rw [List.drop_of_length_le (by rw [HN.out]; omega)] at hx
      obtain rfl : X = none := hx.symm
      clear hx
      go_wp2
      go_ret2
      exact ⟨_, rfl, HB.out, rfl⟩
theorem js_Get (j : J) (S : Nat → Prop) (v : Value) (nm : ByteArray) (w : World) (hr : RepJ w S j v) (hS : ∀ k, S k → k < w.heap.size) (hl : (formJ j).length ≤ 1099511627776) :
    Calls Tryz.prog 16 #[v, .string nm] w (GetR w S (getJ nm.data.toList j)) := by
  have no : ∀ v, (∀ W, (Instr.typeAssert v 20 79 true).run Tryz.prog W = .ok (.tuple #[.slice none 0 0, .bool false]) W) → Calls Tryz.prog 16 #[v, .string nm] w (GetR w S none) := fun v ha =>
    (js_Get_no v nm w ha).mono fun e w' ⟨h1, h2⟩ => by subst h2; exact ⟨_, h1, Below.refl _ _, rfl⟩
  cases j with
  | nul => rw [show v = _ from hr]; exact no _ fun W => by kernel_rfl
  | bool b => rw [show v = _ from hr]; exact no _ fun W => by kernel_rfl
  | num s => rw [show v = _ from hr]; exact no _ fun W => by kernel_rfl
  | str s => rw [show v = _ from hr]; exact no _ fun W => by kernel_rfl
  | arr l =>
    obtain ⟨sv, vs, rfl, -⟩ := hr
    exact no _ fun W => by kernel_rfl
  | obj l =>
    obtain ⟨sv, vs, rfl, h1, h2⟩ := hr
    have hle : l.length ≤ (formM l).length + 1 := by
      have : ∀ m : List (Bs × J), m.length ≤ (formU m).length := by
        intro m
        induction m with
        | nil => exact Nat.le_refl _
        | cons y m ih => simp only [formU, List.length_cons, List.length_append]; omega
      cases l with
      | nil => simp
      | cons y m =>
        have := this m
        simp only [formM, List.length_cons, List.length_append]
        omega
    simp only [formJ, List.length_cons, List.length_append, List.length_nil] at hl
    exact js_Get_obj l S sv vs nm w h1 h2 hS (by omega)
end Go.Proofs.YtljnbbdhmlfhjaaGreatDoor
/-
  json.Names.
-/
namespace Go.Proofs.YtljnbbdhmlfhjaaGreatDoor
open Go.RowKit
def strV (b : Bs) : Value := .string ⟨b.toArray⟩
def namesJ : J → List Bs × Bool
  | .obj l => (l.map (·.1), true)
  | _ => ([], false)
def NamesR (w : World) (o : List Bs × Bool) (e : Ending) (w' : World) : Prop :=
  ∃ v, e = .returned (.tuple #[v, .bool o.2]) ∧ w'.ownsRow w.heap.size 9 1 v o.1.length (o.1.map strV) ∧ Below w.heap.size w w'
set_option maxRecDepth 100000 in
set_option maxHeartbeats 20000000 in
theorem js_Names_no (v : Value) (w : World) (ha : ∀ W, (Instr.typeAssert v 20 79 true).run Tryz.prog W = .ok (.tuple #[.slice none 0 0, .bool false]) W) :
    Calls Tryz.prog 18 #[v] w fun e w' => e = .returned (.tuple #[.slice none 0 0, .bool false]) ∧ w' = w := by
  go_enter Tryz.func18, Tryz.ntmps18
  go_wp2
  go_loopw [6, 16] (fun ov iv wr => ov = .slice none 0 0 ∧ iv = .int .i64 0 ∧ wr = w) (fun _ _ _ => 0)
  case atStart => exact ⟨rfl, rfl, rfl⟩
  case round =>
    obtain ⟨rfl, rfl, rfl⟩ := hrel
    go_wp2
    go_ret2
    exact ⟨rfl, rfl⟩
set_option maxRecDepth 100000 in
set_option maxHeartbeats 20000000 in
theorem js_Names_obj (l : List (Bs × J)) (S : Nat → Prop) (sv : Value) (vs : List Value) (w : World) (hrow : RowS w S sv l.length 2 vs) (hrep : RepM w S l vs) (hS : ∀ k, S k → k < w.heap.size) (hl : l.length ≤ 1099511627776) :
    Calls Tryz.prog 18 #[.iface 79 sv] w (NamesR w (l.map (·.1), true)) := by
  have ES : ElemT Tryz.prog 45 9 (.string ⟨#[]⟩) 1 16 := ⟨Tryz.underlying45, by kernel_rfl, rfl, by decide⟩
  have a1 : ∀ W x, (Instr.typeAssert (.iface 79 x) 20 79 true).run Tryz.prog W = .ok (.tuple #[x, .bool true]) W := fun W x => by kernel_rfl
  have hc0 := fun (W : World) (hb : Below w.heap.size w W) (i : Nat) (hi : i < l.length) => mem_cells hi (hrow.low hS hb) (hrep.low hS hb)
  obtain ⟨⟨-, a, cap, rfl, -⟩, -⟩ := hrow
  have HC := Lib.hid (fun (W : World) (hb : Below w.heap.size w W) (i : Nat) (hi : i < l.length) => (show ∃ b off u, a = some ⟨b, off, none⟩ ∧ W.cell? ⟨b, off + i * 2, none⟩ = some (.string ⟨l[i].1.toArray⟩) ∧ W.cell? ⟨b, off + i * 2 + 1, none⟩ = some u ∧ RepJ W S l[i].2 u from by
    obtain ⟨b, off, c, u, e, h⟩ := hc0 W hb i hi
    cases e
    exact ⟨b, off, u, rfl, h⟩))
  obtain ⟨n, hn⟩ : ∃ n, l.length = n := ⟨_, rfl⟩
  have HN := Lib.hid hn
  rw [hn] at hl ⊢
  clear hrep hS hn hc0
  go_enter Tryz.func18, Tryz.ntmps18
  go_wp2
  go_loopw [6, 16] (fun ov iv wr => ∃ i : Nat, iv = .int .i64 i ∧ i ≤ n ∧ wr.ownsRow w.heap.size 9 1 ov i ((l.take i).map (strV ∘ (·.1))) ∧ Below w.heap.size w wr) (fun _ iv _ => n - (intOf iv).toNat)
  case atStart => exact ⟨0, rfl, by omega, World.ownsRow_nil _ _ _ _, Below.refl _ _⟩
  case round =>
    obtain ⟨i, rfl, hi, ho, hb⟩ := hrel
    have HB := Lib.hid hb
    have HO := Lib.hid ho
    by_cases hin : i < n
    · have hil : i < l.length := by rw [HN.out]; exact hin
      have d1 : decide ((i : Int) < (n : Int)) = true := decide_eq_true (by omega)
      obtain ⟨b, off, u, rfl, hc1, hc2, hu⟩ := HC.out wr hb i hil
      have hk := u_kind hu
      obtain ⟨N, hN⟩ : ∃ N : ByteArray, (⟨l[i].1.toArray⟩ : ByteArray) = N := ⟨_, rfl⟩
      rw [hN] at hc1
      have HNN := Lib.hid hN
      have htk : l.take (i + 1) = l.take i ++ [l[i]] := List.take_succ_eq_append_getElem hil
      have HTK := Lib.hid htk
      have hsz := hb.size
      have hown := fun o o2 => (ho.alloc o).alloc o2
      obtain ⟨va, vc, rfl⟩ := owns_slice ho
      clear hb hu hN HC htk ho
      rcases hk with rfl | ⟨T, x, rfl⟩
      all_goals
        go_wp2_with (at_builtin; go_loud (refine wpList_append_src rfl _ _ _ _ rfl w.heap.size ES _ i ((l.take i).map (strV ∘ (·.1))) rfl (hown _ _) _ 1 [.string N] rfl (by exact src_last (cs := #[.string N]) Tryz.underlying45 1 1 1 (by simp) rfl (by simp [Value.oneCell'])) (by unfold maxLen; omega) (by omega) (by simp; omega) ?_); intro v9 w9 hown9 hgr9 _ _; have H9 := Lib.hid (And.intro hown9 hgr9); clear hown9 hgr9)
        go_roundw
        case rel =>
          refine ⟨i + 1, by go_num, by omega, ?_, ?_⟩
          · rw [HTK.out, List.map_append]
            have := H9.out.1
            rw [← HNN.out] at this
            exact this
          · exact (belowAJ (belowAJ HB.out HB.out.size) (by simp; omega)).grown H9.out.2 (by simp; omega) (fun k hk => (HO.out.lt k hk).1)
        case measure => simp [intOf]; omega
    · have d1 : decide ((i : Int) < (n : Int)) = false := decide_eq_false (by omega)
      have d2 : decide (i < n) = false := decide_eq_false hin
      have hie : i = n := by omega
      obtain ⟨va, vc, rfl⟩ := owns_slice ho
      clear ho hb
      go_wp2
      go_ret2
      refine ⟨_, rfl, ?_, HB.out⟩
      have := HO.out
      rw [List.take_of_length_le (by rw [HN.out]; omega)] at this
      rw [List.length_map, HN.out, ← hie, List.map_map]
      exact this
theorem mem_count (l : List (Bs × J)) : l.length ≤ (formM l).length + 1 := by
  have : ∀ m : List (Bs × J), m.length ≤ (formU m).length := by
    intro m
    induction m with
    | nil => exact Nat.le_refl _
    | cons y m ih => simp only [formU, List.length_cons, List.length_append]; omega
  cases l with
  | nil => simp
  | cons y m =>
    have := this m
    simp only [formM, List.length_cons, List.length_append]
    omega
theorem js_Names (j : J) (S : Nat → Prop) (v : Value) (w : World) (hr : RepJ w S j v) (hS : ∀ k, S k → k < w.heap.size) (hl : (formJ j).length ≤ 1099511627776) :
    Calls Tryz.prog 18 #[v] w (NamesR w (namesJ j)) := by
  have no : ∀ v, (∀ W, (Instr.typeAssert v 20 79 true).run Tryz.prog W = .ok (.tuple #[.slice none 0 0, .bool false]) W) → Calls Tryz.prog 18 #[v] w (NamesR w ([], false)) := fun v ha =>
    (js_Names_no v w ha).mono fun e w' ⟨h1, h2⟩ => by subst h2; exact ⟨_, h1, World.ownsRow_nil _ _ _ _, Below.refl _ _⟩
  cases j with
  | nul => rw [show v = _ from hr]; exact no _ fun W => by kernel_rfl
  | bool b => rw [show v = _ from hr]; exact no _ fun W => by kernel_rfl
  | num s => rw [show v = _ from hr]; exact no _ fun W => by kernel_rfl
  | str s => rw [show v = _ from hr]; exact no _ fun W => by kernel_rfl
  | arr l =>
    obtain ⟨sv, vs, rfl, -⟩ := hr
    exact no _ fun W => by kernel_rfl
  | obj l =>
    obtain ⟨sv, vs, rfl, h1, h2⟩ := hr
    have hle := mem_count l
    simp only [formJ, List.length_cons, List.length_append, List.length_nil] at hl
    exact js_Names_obj l S sv vs w h1 h2 hS (by omega)
end Go.Proofs.YtljnbbdhmlfhjaaGreatDoor
