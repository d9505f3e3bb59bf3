/-
  json.Items, json.Int.
-/
import Derived.Test.YtljnbbdhmlfhjaaGreatDoorJnOne
import Derived.Test.YtljnbbdhmlfhjaaGreatDoorJsnAll
import Derived.Test.YtljnbbdhmlfhjaaGreatDoorJsTwo
import Derived.Test.YtljnbbdhmlfhjaaGreatDoorShelf
import Derived.Test.YtljnbbdhmlfhjaaGreatDoorWTwo
namespace Go.Proofs.YtljnbbdhmlfhjaaGreatDoor
open Go.RowKit
theorem repL_one {w : World} {S : Nat → Prop} : ∀ {l : List J} {vs : List Value}, RepL w S l vs → ∀ u ∈ vs, u.oneCell' = true
  | [], vs, h, u, hu => by rw [show vs = [] from h] at hu; simp at hu
  | x :: l, vs, h, u, hu => by
    obtain ⟨v, vs', rfl, h1, h2⟩ := h
    rcases List.mem_cons.1 hu with rfl | hu
    · exact rep_one h1
    · exact repL_one h2 u hu
theorem eql_nil_any (a : Option Addr) (l c : Nat) (W : World) : (binOp .eql 42 (.slice a l c) (.slice none 0 0)).run Tryz.prog W = .ok (.bool a.isNone) W := by
  have h := run_equal_slice_nil (P := Tryz.prog) W 42 20 a l c Tryz.underlying42
  simp [binOp, h]
set_option maxRecDepth 100000 in
set_option maxHeartbeats 20000000 in
theorem clone_any (sv : Value) (n : Nat) (vs : List Value) (w : World) (hr : argRow w sv n 1 vs) (h1 : ∀ u ∈ vs, u.oneCell' = true) (hn : n ≤ 1099511627776) :
    Calls Tryz.prog 45 #[sv] w fun e w' => ∃ v, e = .returned v ∧ w'.ownsRow w.heap.size 20 1 v n vs ∧ Below w.heap.size w w' := by
  have EI : ElemT Tryz.prog 42 20 .nilIface 1 16 := ⟨Tryz.underlying42, by kernel_rfl, rfl, by decide⟩
  have HR := Lib.hid (And.intro hr h1)
  obtain ⟨hl, a, cap, rfl, hcl, hcm, hc⟩ := hr
  rw [Nat.mul_one] at hl
  unfold maxLen at hcm
  have hl0 : a = none → n = 0 ∧ vs = [] := fun e => by
    have hn0 : n = 0 := by
      rcases Nat.eq_zero_or_pos n with h | h
      · exact h
      · obtain ⟨b, off, e', -⟩ := hc h
        rw [e] at e'
        cases e'
    exact ⟨hn0, List.eq_nil_of_length_eq_zero (by omega)⟩
  have hnil := fun a l c W => eql_nil_any a l c W
  have HL := Lib.hid hl
  clear h1 hc hl
  cases a with
  | none =>
    obtain ⟨rfl, rfl⟩ := hl0 rfl
    clear hl0 HL HR
    go_enter Tryz.func45, Tryz.ntmps45
    go_wp2
    go_ret
    exact ⟨_, rfl, World.ownsRow_nil _ _ _ _, Below.refl _ _⟩
  | some p =>
    clear hl0
    go_enter Tryz.func45, Tryz.ntmps45
    go_wp2_with (at_builtin; go_loud (refine wpList_append_src rfl _ _ _ _ rfl w.heap.size EI _ 0 [] rfl (World.ownsRow_lit w #[] 0 (Nat.le_refl _) (by decide) rfl) _ n vs rfl (by exact src_arg Tryz.underlying42 (argRow_below HR.out.1 (belowAJ (Below.refl _ _) (Nat.le_refl _))) HR.out.2) (by unfold maxLen; omega) (by omega) (by simp) ?_); intro v1 w1 hown1 hgr1 _ _)
    go_ret
    refine ⟨_, rfl, by simpa using hown1, (belowAJ (Below.refl _ _) (Nat.le_refl _)).grown hgr1 (by simp) (fun k hk => ?_)⟩
    cases hk
    exact Nat.le_refl _
def itemsJ : J → List J × Bool
  | .arr l => (l, true)
  | _ => ([], false)
def ItemsR (w : World) (S : Nat → Prop) (o : List J × Bool) (e : Ending) (w' : World) : Prop :=
  ∃ v vs, e = .returned (.tuple #[v, .bool o.2]) ∧ w'.ownsRow w.heap.size 20 1 v o.1.length vs ∧ RepL w' S o.1 vs ∧ Below w.heap.size w w'
set_option maxRecDepth 100000 in
set_option maxHeartbeats 20000000 in
theorem js_Items_no (v : Value) (w : World) (ha : ∀ W, (Instr.typeAssert v 20 42 true).run Tryz.prog W = .ok (.tuple #[.slice none 0 0, .bool false]) W) :
    Calls Tryz.prog 17 #[v] w fun e w' => ∃ v, e = .returned (.tuple #[v, .bool false]) ∧ w'.ownsRow w.heap.size 20 1 v 0 [] ∧ Below w.heap.size w w' := by
  have C := clone_any (.slice none 0 0) 0 [] w (argRow_owns (World.ownsRow_nil w 0 20 1)) (fun u hu => by simp at hu) (by decide)
  go_enter Tryz.func17, Tryz.ntmps17
  go_wp2_with (go_at_call 45; refine C.mono ?_; rintro e w2 ⟨v2, rfl, ho2, hb2⟩)
  go_ret2
  exact ⟨_, rfl, ho2, hb2⟩
set_option maxRecDepth 100000 in
set_option maxHeartbeats 20000000 in
theorem js_Items_arr (l : List J) (S : Nat → Prop) (sv : Value) (vs : List Value) (w : World) (hrow : RowS w S sv l.length 1 vs) (hrep : RepL w S l vs) (hS : ∀ k, S k → k < w.heap.size) (hl : l.length ≤ 1099511627776) :
    Calls Tryz.prog 17 #[.iface 42 sv] w (ItemsR w S (l, true)) := by
  have a1 : ∀ W x, (Instr.typeAssert (.iface 42 x) 20 42 true).run Tryz.prog W = .ok (.tuple #[x, .bool true]) W := fun W x => by kernel_rfl
  have C := clone_any sv l.length vs w hrow.1 (repL_one hrep) hl
  have HLOW := Lib.hid (fun (W : World) (hb : Below w.heap.size w W) => hrep.low hS hb)
  obtain ⟨⟨-, a, cap, rfl, -⟩, -⟩ := hrow
  clear hrep hS
  obtain ⟨n, hn⟩ : ∃ n, l.length = n := ⟨_, rfl⟩
  have HN := Lib.hid hn
  rw [hn] at C hl ⊢
  clear hn
  go_enter Tryz.func17, Tryz.ntmps17
  go_wp2_with (go_at_call 45; refine C.mono ?_; rintro e w2 ⟨v2, rfl, ho2, hb2⟩)
  go_ret2
  exact ⟨_, vs, rfl, by rw [HN.out]; exact ho2, HLOW.out _ hb2, hb2⟩
theorem js_Items (j : J) (S : Nat → Prop) (v : Value) (w : World) (hr : RepJ w S j v) (hS : ∀ k, S k → k < w.heap.size) (hl : (formJ j).length ≤ 1099511627776) :
    Calls Tryz.prog 17 #[v] w (ItemsR w S (itemsJ j)) := by
  have no : ∀ v, (∀ W, (Instr.typeAssert v 20 42 true).run Tryz.prog W = .ok (.tuple #[.slice none 0 0, .bool false]) W) → Calls Tryz.prog 17 #[v] w (ItemsR w S ([], false)) := fun v ha =>
    (js_Items_no v w ha).mono fun e w' ⟨u, h1, h2, h3⟩ => ⟨u, [], h1, h2, rfl, h3⟩
  cases j with
  | nul => rw [show v = _ from hr]; exact no _ fun W => by kernel_rfl
  | bool b => rw [show v = _ from hr]; exact no _ fun W => by kernel_rfl
  | num s => rw [show v = _ from hr]; exact no _ fun W => by kernel_rfl
  | str s => rw [show v = _ from hr]; exact no _ fun W => by kernel_rfl
  | obj l =>
    obtain ⟨sv, vs, rfl, -⟩ := hr
    exact no _ fun W => by kernel_rfl
  | arr l =>
    obtain ⟨sv, vs, rfl, h1, h2⟩ := hr
    have hle : l.length ≤ (formL l).length + 1 := by
      have : ∀ m : List J, m.length ≤ (formT m).length := by
        intro m
        induction m with
        | nil => exact Nat.le_refl _
        | cons y m ih => simp only [formT, List.length_cons, List.length_append]; omega
      cases l with
      | nil => simp
      | cons y m =>
        have := this m
        simp only [formL, List.length_cons, List.length_append]
        omega
    simp only [formJ, List.length_cons, List.length_append, List.length_nil] at hl
    exact js_Items_arr l S sv vs w h1 h2 hS (by omega)
end Go.Proofs.YtljnbbdhmlfhjaaGreatDoor
/-
  json.Int.
-/
namespace Go.Proofs.YtljnbbdhmlfhjaaGreatDoor
open Go.RowKit
theorem var_keep {P : Program} {W W' : World} {n : String} {cs : Array Value} (h : Below W.heap.size W W') (hv : W.var? P n = some cs) : W'.var? P n = some cs := by
  unfold World.var? at hv ⊢
  cases hg : P.globalNamed n with
  | none => simp [hg] at hv
  | some g =>
    simp only [hg, Option.bind_some] at hv ⊢
    have hlt : g < W.heap.size := by
      rcases Nat.lt_or_ge g W.heap.size with h' | h'
      · exact h'
      · rw [Array.getElem?_eq_none h'] at hv
        cases hv
    rw [h.block g hlt]
    exact hv
def ErrV (w : World) : Prop := ∃ t p t' p', w.var? Tryz.prog "strconv.ErrSyntax" = some #[.iface t p] ∧ w.var? Tryz.prog "strconv.ErrRange" = some #[.iface t' p']
theorem ErrV.keep {W W' : World} (h : ErrV W) (hb : Below W.heap.size W W') : ErrV W' := by
  obtain ⟨t, p, t', p', h1, h2⟩ := h
  exact ⟨t, p, t', p', var_keep hb h1, var_keep hb h2⟩
def intJ : J → Int × Bool
  | .num s => if numN s = s.length then (match Lib.parseIntB 64 s with | .ok n => (n, true) | _ => (0, false)) else (0, false)
  | _ => (0, false)
set_option maxHeartbeats 2000000 in
/-- The number, or an error that is not nil. -/
theorem parse_calls (s : ByteArray) (hl : s.size ≤ 1099511627776) (w : World) (hv : ErrV w) :
    Calls Tryz.prog 47 #[.string s, .int .i64 10, .int .i64 64] w fun e w' => ∃ n u, e = .returned (.tuple #[.int .i64 n, u]) ∧ Below w.heap.size w w' ∧
      ((u = .nilIface ∧ Lib.parseIntB 64 s.data.toList = .ok n) ∨ ((∃ t x, u = .iface t x) ∧ ∀ k, Lib.parseIntB 64 s.data.toList ≠ .ok k)) := by
  obtain ⟨t, p, t', p', h1, h2⟩ := hv
  cases hp : Lib.parseIntB 64 s.data.toList with
  | ok n =>
    refine (Tryz.strconv_ParseInt_10_at64_ok s (by omega) n hp w).mono ?_
    rintro e w' ⟨rfl, hw⟩
    refine ⟨n, _, rfl, ?_, .inl ⟨rfl, rfl⟩⟩
    rcases hw with rfl | ⟨tt, rfl⟩
    · exact Below.refl _ _
    · exact Joins.below_bytesWorld w.heap.size w _ tt (Nat.le_refl _)
  | «syntax» =>
    refine (Tryz.strconv_ParseInt_10_at64_syntax_var s (by omega) hp t p w h1).mono ?_
    rintro e w' ⟨N, rfl, -, -, hb⟩
    exact ⟨0, _, rfl, hb, .inr ⟨⟨_, _, rfl⟩, fun k h => by cases h⟩⟩
  | range =>
    refine (Tryz.strconv_ParseInt_10_at64_range_var s (by omega) hp t' p' w h2).mono ?_
    rintro e w' ⟨N, rfl, -, -, hb⟩
    exact ⟨_, _, rfl, hb, .inr ⟨⟨_, _, rfl⟩, fun k h => by cases h⟩⟩
def IntR (w : World) (o : Int × Bool) (e : Ending) (w' : World) : Prop :=
  e = .returned (.tuple #[.int .i64 o.1, .bool o.2]) ∧ Below w.heap.size w w'
set_option maxRecDepth 100000 in
set_option maxHeartbeats 20000000 in
theorem js_Int_no (v : Value) (w : World) (ha : ∀ W, (Instr.typeAssert v 20 95 true).run Tryz.prog W = .ok (.tuple #[.string ⟨#[]⟩, .bool false]) W) :
    Calls Tryz.prog 19 #[v] w (IntR w (0, false)) := by
  go_enter Tryz.func19, Tryz.ntmps19
  go_wp2
  go_ret2
  exact ⟨rfl, Below.refl _ _⟩
set_option maxRecDepth 100000 in
set_option maxHeartbeats 20000000 in
theorem js_Int_num (B : ByteArray) (w : World) (hl : B.size ≤ 1099511627776) (hv : ErrV w) (hn : numN B.data.toList = B.size) :
    Calls Tryz.prog 19 #[.iface 95 (.string B)] w (IntR w (intJ (.num B.data.toList))) := by
  have a1 : ∀ W x, (Instr.typeAssert (.iface 95 x) 20 95 true).run Tryz.prog W = .ok (.tuple #[x, .bool true]) W := fun W x => by kernel_rfl
  obtain ⟨a, cap, W1, hcv, hrow, hb1⟩ := conv_bytesJ (src := 95) Tryz.underlying95 B (by omega) w
  have CN := js_number _ B.data.toList W1 hrow (by simpa [ByteArray.size_data] using hl)
  rw [hn] at CN
  have HP := Lib.hid (fun W (hb : Below w.heap.size w W) => parse_calls B hl W (hv.keep hb))
  have hJ : intJ (.num B.data.toList) = (match Lib.parseIntB 64 B.data.toList with | .ok n => (n, true) | _ => (0, false)) := by
    show (if numN B.data.toList = B.data.toList.length then _ else _) = _
    rw [if_pos (by rw [hn]; simp [ByteArray.size_data])]
  obtain ⟨o, ho⟩ : ∃ o, intJ (.num B.data.toList) = o := ⟨_, rfl⟩
  rw [ho] at hJ ⊢
  have HO := Lib.hid hJ
  clear hJ ho hrow hn hv
  have HB1 := Lib.hid hb1
  clear hb1
  go_enter Tryz.func19, Tryz.ntmps19
  go_wp2_with (first
    | (go_at_call 46; refine CN.mono ?_; rintro e w2 ⟨rfl, hb2⟩; have HB2 := Lib.hid (HB1.out.trans (hb2.mono HB1.out.size)); clear hb2)
    | (go_at_call 47; refine (HP.out _ HB2.out).mono ?_; rintro e w3 ⟨n, u, rfl, hb3, hu⟩; have HB3 := Lib.hid (HB2.out.trans (hb3.mono HB2.out.size)); clear hb3; rcases hu with ⟨rfl, hp⟩ | ⟨⟨t, x, rfl⟩, hp⟩ <;> have HQ := Lib.hid hp <;> clear hp))
  · go_ret2
    exact ⟨by rw [show o = (n, true) from by rw [HO.out, HQ.out]]; rfl, HB3.out⟩
  · go_ret2
    refine ⟨?_, HB3.out⟩
    have := HO.out
    cases hp : Lib.parseIntB 64 B.data.toList with
    | ok k => exact absurd hp (HQ.out k)
    | «syntax» => rw [hp] at this; rw [show o = (0, false) from this]; rfl
    | range => rw [hp] at this; rw [show o = (0, false) from this]; rfl
set_option maxRecDepth 100000 in
set_option maxHeartbeats 20000000 in
theorem js_Int_bad (B : ByteArray) (w : World) (hl : B.size ≤ 1099511627776) (hn : numN B.data.toList ≠ B.size) :
    Calls Tryz.prog 19 #[.iface 95 (.string B)] w (IntR w (0, false)) := by
  have a1 : ∀ W x, (Instr.typeAssert (.iface 95 x) 20 95 true).run Tryz.prog W = .ok (.tuple #[x, .bool true]) W := fun W x => by kernel_rfl
  obtain ⟨a, cap, W1, hcv, hrow, hb1⟩ := conv_bytesJ (src := 95) Tryz.underlying95 B (by omega) w
  have CN := js_number _ B.data.toList W1 hrow (by simpa [ByteArray.size_data] using hl)
  obtain ⟨m, hm⟩ : ∃ m, numN B.data.toList = m := ⟨_, rfl⟩
  rw [hm] at CN hn
  have hne : ((m : Int) != (B.size : Int)) = true := by
    rw [bne_iff_ne]
    intro e
    exact hn (Int.ofNat.inj e)
  clear hrow hn hm
  have HB1 := Lib.hid hb1
  clear hb1
  go_enter Tryz.func19, Tryz.ntmps19
  go_wp2_with (
    (go_at_call 46; refine CN.mono ?_; rintro e w2 ⟨rfl, hb2⟩; have HB2 := Lib.hid (HB1.out.trans (hb2.mono HB1.out.size)); clear hb2))
  all_goals try (rename_i hh; exact absurd (hne.symm.trans hh) (by decide))
  all_goals (go_ret2; exact ⟨rfl, HB2.out⟩)
theorem js_Int (j : J) (S : Nat → Prop) (v : Value) (w : World) (hr : RepJ w S j v) (hv : ErrV w) (hl : (formJ j).length ≤ 1099511627776) :
    Calls Tryz.prog 19 #[v] w (IntR w (intJ j)) := by
  cases j with
  | nul => rw [show v = _ from hr]; exact js_Int_no _ w fun W => by kernel_rfl
  | bool b => rw [show v = _ from hr]; exact js_Int_no _ w fun W => by kernel_rfl
  | str s => rw [show v = _ from hr]; exact js_Int_no _ w fun W => by kernel_rfl
  | arr l =>
    obtain ⟨sv, vs, rfl, -⟩ := hr
    exact js_Int_no _ w fun W => by kernel_rfl
  | obj l =>
    obtain ⟨sv, vs, rfl, -⟩ := hr
    exact js_Int_no _ w fun W => by kernel_rfl
  | num s =>
    rw [show v = _ from hr]
    have hz : (⟨s.toArray⟩ : ByteArray).size = s.length := by simp [ByteArray.size]
    have hl' : s.length ≤ 1099511627776 := hl
    by_cases hn : numN s = s.length
    · have := js_Int_num ⟨s.toArray⟩ w (by rw [hz]; exact hl') hv (by rw [hz]; exact hn)
      exact this
    · have h2 : intJ (.num s) = (0, false) := by
        show (if _ then _ else _) = _
        rw [if_neg hn]
      rw [h2]
      exact js_Int_bad ⟨s.toArray⟩ w (by rw [hz]; exact hl') (by rw [hz]; exact hn)
end Go.Proofs.YtljnbbdhmlfhjaaGreatDoor
