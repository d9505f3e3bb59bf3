/-
  json.Int.
-/
import Derived.Test.YtljnbbdhmlfhjaaDoorJnE
import Derived.Test.YtljnbbdhmlfhjaaDoorShelf
import Derived.Test.YtljnbbdhmlfhjaaDoorJsWu
namespace Go.Proofs.YtljnbbdhmlfhjaaDoor
open Go.RowKit
theorem var_keep {P : Program} {W W' : World} {n : String} {cs : Array Value} (h : Below W.heap.size W W') (hv : W.var? P n = some cs) : W'.var? P n = some cs := by
  unfold World.var? at hv ⊢
  cases hg : P.globalNamed n with
  | none => simp [hg] at hv
  | some g =>
    simp only [hg, Option.bind_some] at hv ⊢
    have hlt : g < W.heap.size := by
      rcases Nat.lt_or_ge g W.heap.size with h' | h'
      · exact h'
      · rw [Array.getElem?_eq_none h'] at hv
        cases hv
    rw [h.block g hlt]
    exact hv
def ErrV (w : World) : Prop := ∃ t p t' p', w.var? Tryd.prog "strconv.ErrSyntax" = some #[.iface t p] ∧ w.var? Tryd.prog "strconv.ErrRange" = some #[.iface t' p']
theorem ErrV.keep {W W' : World} (h : ErrV W) (hb : Below W.heap.size W W') : ErrV W' := by
  obtain ⟨t, p, t', p', h1, h2⟩ := h
  exact ⟨t, p, t', p', var_keep hb h1, var_keep hb h2⟩
def intJ : J → Int × Bool
  | .num s => if numN s = s.length then (match Lib.parseIntB 64 s with | .ok n => (n, true) | _ => (0, false)) else (0, false)
  | _ => (0, false)
set_option maxHeartbeats 2000000 in
/-- The number, or an error that is not nil. -/
theorem parse_calls (s : ByteArray) (hl : s.size ≤ 1099511627776) (w : World) (hv : ErrV w) :
    Calls Tryd.prog 29 #[.string s, .int .i64 10, .int .i64 64] w fun e w' => ∃ n u, e = .returned (.tuple #[.int .i64 n, u]) ∧ Below w.heap.size w w' ∧
      ((u = .nilIface ∧ Lib.parseIntB 64 s.data.toList = .ok n) ∨ ((∃ t x, u = .iface t x) ∧ ∀ k, Lib.parseIntB 64 s.data.toList ≠ .ok k)) := by
  obtain ⟨t, p, t', p', h1, h2⟩ := hv
  cases hp : Lib.parseIntB 64 s.data.toList with
  | ok n =>
    refine (Tryd.strconv_ParseInt_10_at64_ok s (by omega) n hp w).mono ?_
    rintro e w' ⟨rfl, hw⟩
    refine ⟨n, _, rfl, ?_, .inl ⟨rfl, rfl⟩⟩
    rcases hw with rfl | ⟨tt, rfl⟩
    · exact Below.refl _ _
    · exact Joins.below_bytesWorld w.heap.size w _ tt (Nat.le_refl _)
  | «syntax» =>
    refine (Tryd.strconv_ParseInt_10_at64_syntax_var s (by omega) hp t p w h1).mono ?_
    rintro e w' ⟨N, rfl, -, -, hb⟩
    exact ⟨0, _, rfl, hb, .inr ⟨⟨_, _, rfl⟩, fun k h => by cases h⟩⟩
  | range =>
    refine (Tryd.strconv_ParseInt_10_at64_range_var s (by omega) hp t' p' w h2).mono ?_
    rintro e w' ⟨N, rfl, -, -, hb⟩
    exact ⟨_, _, rfl, hb, .inr ⟨⟨_, _, rfl⟩, fun k h => by cases h⟩⟩
def IntR (w : World) (o : Int × Bool) (e : Ending) (w' : World) : Prop :=
  e = .returned (.tuple #[.int .i64 o.1, .bool o.2]) ∧ Below w.heap.size w w'
set_option maxRecDepth 100000 in
set_option maxHeartbeats 20000000 in
theorem js_Int_no (v : Value) (w : World) (ha : ∀ W, (Instr.typeAssert v 20 30 true).run Tryd.prog W = .ok (.tuple #[.string ⟨#[]⟩, .bool false]) W) :
    Calls Tryd.prog 18 #[v] w (IntR w (0, false)) := by
  go_enter Tryd.func18, Tryd.ntmps18
  go_wp2
  go_ret2
  exact ⟨rfl, Below.refl _ _⟩
set_option maxRecDepth 100000 in
set_option maxHeartbeats 20000000 in
theorem js_Int_num (B : ByteArray) (w : World) (hl : B.size ≤ 1099511627776) (hv : ErrV w) (hn : numN B.data.toList = B.size) :
    Calls Tryd.prog 18 #[.iface 30 (.string B)] w (IntR w (intJ (.num B.data.toList))) := by
  have a1 : ∀ W x, (Instr.typeAssert (.iface 30 x) 20 30 true).run Tryd.prog W = .ok (.tuple #[x, .bool true]) W := fun W x => by kernel_rfl
  obtain ⟨a, cap, W1, hcv, hrow, hb1⟩ := conv_bytesJ (src := 30) Tryd.underlying30 B (by omega) w
  have CN := js_number _ B.data.toList W1 hrow (by simpa [ByteArray.size_data] using hl)
  rw [hn] at CN
  have HP := Lib.hid (fun W (hb : Below w.heap.size w W) => parse_calls B hl W (hv.keep hb))
  have hJ : intJ (.num B.data.toList) = (match Lib.parseIntB 64 B.data.toList with | .ok n => (n, true) | _ => (0, false)) := by
    show (if numN B.data.toList = B.data.toList.length then _ else _) = _
    rw [if_pos (by rw [hn]; simp [ByteArray.size_data])]
  obtain ⟨o, ho⟩ : ∃ o, intJ (.num B.data.toList) = o := ⟨_, rfl⟩
  rw [ho] at hJ ⊢
  have HO := Lib.hid hJ
  clear hJ ho hrow hn hv
  have HB1 := Lib.hid hb1
  clear hb1
  go_enter Tryd.func18, Tryd.ntmps18
  go_wp2_with (first
    | (go_at_call 28; refine CN.mono ?_; rintro e w2 ⟨rfl, hb2⟩; have HB2 := Lib.hid (HB1.out.trans (hb2.mono HB1.out.size)); clear hb2)
    | (go_at_call 29; refine (HP.out _ HB2.out).mono ?_; rintro e w3 ⟨n, u, rfl, hb3, hu⟩; have HB3 := Lib.hid (HB2.out.trans (hb3.mono HB2.out.size)); clear hb3; rcases hu with ⟨rfl, hp⟩ | ⟨⟨t, x, rfl⟩, hp⟩ <;> have HQ := Lib.hid hp <;> clear hp))
  · go_ret2
    exact ⟨by rw [show o = (n, true) from by rw [HO.out, HQ.out]]; rfl, HB3.out⟩
  · go_ret2
    refine ⟨?_, HB3.out⟩
    have := HO.out
    cases hp : Lib.parseIntB 64 B.data.toList with
    | ok k => exact absurd hp (HQ.out k)
    | «syntax» => rw [hp] at this; rw [show o = (0, false) from this]; rfl
    | range => rw [hp] at this; rw [show o = (0, false) from this]; rfl
set_option maxRecDepth 100000 in
set_option maxHeartbeats 20000000 in
theorem js_Int_bad (B : ByteArray) (w : World) (hl : B.size ≤ 1099511627776) (hn : numN B.data.toList ≠ B.size) :
    Calls Tryd.prog 18 #[.iface 30 (.string B)] w (IntR w (0, false)) := by
  have a1 : ∀ W x, (Instr.typeAssert (.iface 30 x) 20 30 true).run Tryd.prog W = .ok (.tuple #[x, .bool true]) W := fun W x => by kernel_rfl
  obtain ⟨a, cap, W1, hcv, hrow, hb1⟩ := conv_bytesJ (src := 30) Tryd.underlying30 B (by omega) w
  have CN := js_number _ B.data.toList W1 hrow (by simpa [ByteArray.size_data] using hl)
  obtain ⟨m, hm⟩ : ∃ m, numN B.data.toList = m := ⟨_, rfl⟩
  rw [hm] at CN hn
  have hne : ((m : Int) != (B.size : Int)) = true := by
    rw [bne_iff_ne]
    intro e
    exact hn (Int.ofNat.inj e)
  clear hrow hn hm
  have HB1 := Lib.hid hb1
  clear hb1
  go_enter Tryd.func18, Tryd.ntmps18
  go_wp2_with (
    (go_at_call 28; refine CN.mono ?_; rintro e w2 ⟨rfl, hb2⟩; have HB2 := Lib.hid (HB1.out.trans (hb2.mono HB1.out.size)); clear hb2))
  all_goals try (rename_i hh; exact absurd (hne.symm.trans hh) (by decide))
  all_goals (go_ret2; exact ⟨rfl, HB2.out⟩)
theorem js_Int (j : J) (S : Nat → Prop) (v : Value) (w : World) (hr : RepJ w S j v) (hv : ErrV w) (hl : (formJ j).length ≤ 1099511627776) :
    Calls Tryd.prog 18 #[v] w (IntR w (intJ j)) := by
  cases j with
  | nul => rw [show v = _ from hr]; exact js_Int_no _ w fun W => by kernel_rfl
  | bool b => rw [show v = _ from hr]; exact js_Int_no _ w fun W => by kernel_rfl
  | str s => rw [show v = _ from hr]; exact js_Int_no _ w fun W => by kernel_rfl
  | arr l =>
    obtain ⟨sv, vs, rfl, -⟩ := hr
    exact js_Int_no _ w fun W => by kernel_rfl
  | obj l =>
    obtain ⟨sv, vs, rfl, -⟩ := hr
    exact js_Int_no _ w fun W => by kernel_rfl
  | num s =>
    rw [show v = _ from hr]
    have hz : (⟨s.toArray⟩ : ByteArray).size = s.length := by simp [ByteArray.size]
    have hl' : s.length ≤ 1099511627776 := hl
    by_cases hn : numN s = s.length
    · have := js_Int_num ⟨s.toArray⟩ w (by rw [hz]; exact hl') hv (by rw [hz]; exact hn)
      exact this
    · have h2 : intJ (.num s) = (0, false) := by
        show (if _ then _ else _) = _
        rw [if_neg hn]
      rw [h2]
      exact js_Int_bad ⟨s.toArray⟩ w (by rw [hz]; exact hl') (by rw [hz]; exact hn)
end Go.Proofs.YtljnbbdhmlfhjaaDoor
