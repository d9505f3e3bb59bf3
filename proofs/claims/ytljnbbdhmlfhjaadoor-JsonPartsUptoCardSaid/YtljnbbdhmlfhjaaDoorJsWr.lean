/-
  json.Write.
-/
import Derived.Test.YtljnbbdhmlfhjaaDoorJsWq
namespace Go.Proofs.YtljnbbdhmlfhjaaDoor
open Go.RowKit
mutual
/-- Its numbers are numbers. -/
def numsJ : J → Prop
  | .nul => True
  | .bool _ => True
  | .num s => NumS s
  | .str _ => True
  | .arr l => numsL l
  | .obj l => numsM l
def numsL : List J → Prop
  | [] => True
  | x :: l => numsJ x ∧ numsL l
def numsM : List (Bs × J) → Prop
  | [] => True
  | x :: l => numsE x ∧ numsM l
def numsE : Bs × J → Prop
  | (_, x) => numsJ x
end
mutual
theorem w_value : ∀ (j : J), numsJ j → WOk j
  | .nul, _ => wv_nul
  | .bool b, _ => wv_bool b
  | .num s, h => wv_num s h
  | .str s, _ => wv_str s
  | .arr l, h => wv_arr l (w_values l h)
  | .obj l, h => wv_obj l (w_members l h)
theorem w_values : ∀ (l : List J), numsL l → ∀ x ∈ l, WOk x
  | [], _, x, hx => by simp at hx
  | y :: l, h, x, hx => by
    rcases List.mem_cons.1 hx with e | hx
    · rw [e]; exact w_value y h.1
    · exact w_values l h.2 x hx
theorem w_members : ∀ (l : List (Bs × J)), numsM l → ∀ x ∈ l, WOk x.2
  | [], _, x, hx => by simp at hx
  | (n, y) :: l, h, x, hx => by
    rcases List.mem_cons.1 hx with e | hx
    · rw [e]; exact w_value y h.1
    · exact w_members l h.2 x hx
end
theorem form_ne (j : J) (h : numsJ j) : formJ j ≠ [] := by
  cases j with
  | nul => simp [formJ, nullB]
  | bool b => cases b <;> simp [formJ, trueB, falseB]
  | str s => simp [formJ, quote]
  | arr l => simp [formJ]
  | obj l => simp [formJ]
  | num s =>
    obtain ⟨c, r, rfl, -⟩ := num_head h
    simp [formJ]
theorem wst_new (w : World) : WSt w.heap.size w.heap.size [] false (w.alloc (.cells #[.pointer none, .slice none 0 0, .bool false] 75)) :=
  ⟨.pointer none, .slice none 0 0, .inl rfl, Nat.le_refl _, heap_alloc_new w _, World.ownsRow_nil _ _ _ _, by simp [Value.ownBlock]⟩
/-- What Write leaves. -/
def Written (w : World) (j : J) (e : Ending) (w' : World) : Prop :=
  Below w.heap.size w w' ∧ (if okW 0 j = true then ∃ v, e = .returned (.tuple #[v, .int .i64 0]) ∧ argRow w' v (formJ j).length 1 ((formJ j).map bCell) else e = .returned (.tuple #[.slice none 0 0, .int .i64 1]))
set_option maxRecDepth 100000 in
set_option maxHeartbeats 10000000 in
theorem js_Write (j : J) (hn : numsJ j) (S : Nat → Prop) (v : Value) (w : World) (hT : Tabs w) (hr : RepJ w S j v) (hS : ∀ k, S k → k < w.heap.size) (hl : 6 * (formJ j).length + 2 ≤ 1099511627776) :
    Calls Tryd.prog 12 #[v] w (Written w j) := by
  have hb1 := belowAJ (o := .cells #[.pointer none, .slice none 0 0, .bool false] 75) (Below.refl w.heap.size w) (Nat.le_refl _)
  have hw1 := wst_new w
  have CV := w_value j hn 0 w.heap.size w.heap.size S v [] false _ hw1 ⟨w, hT, rfl, hb1⟩ (hr.low hS hb1) hS (by omega) (by simp only [List.length_nil]; omega)
  have hne := form_ne j hn
  have HB1 := Lib.hid hb1
  obtain ⟨F, hF⟩ : ∃ F, formJ j = F := ⟨_, rfl⟩
  have hfl : F.length ≤ 1099511627776 := by rw [← hF]; omega
  have HF := Lib.hid hF
  rw [hF] at CV hne
  have HNE := Lib.hid hne
  clear hT hr hS hl hw1 hb1 hn hF hne
  cases hok : okW 0 j with
  | false =>
    rw [hok] at CV
    have HOK := Lib.hid hok
    clear hok
    go_enter Tryd.func12, Tryd.ntmps12
    go_upto_region 3 with (go_at_call 25; refine CV.mono ?_; rintro e w2 ⟨rfl, o2, b2, h1, h2, h3, h4, h5⟩; have H2 := Lib.hid (And.intro h1 h2); have hb2 : b2 = true := h3; clear h1 h2 h3 h4 h5)
    subst hb2
    obtain ⟨c2, f2⟩ := H2.out.1.flag
    go_wp2
    go_ret2
    refine ⟨HB1.out.trans H2.out.2.1, ?_⟩
    rw [if_neg (by rw [HOK.out]; exact Bool.false_ne_true)]
    rfl
  | true =>
    rw [hok] at CV
    have HOK := Lib.hid hok
    clear hok
    go_enter Tryd.func12, Tryd.ntmps12
    go_upto_region 3 with (go_at_call 25; refine CV.mono ?_; rintro e w2 ⟨rfl, o2, b2, h1, h2, h3, h4, h5⟩; have hb2 : b2 = false := h3; have ho2 : o2 = F := h4 hb2; have H2 := Lib.hid (And.intro h1 h2); clear h1 h2 h3 h4 h5)
    subst hb2
    subst ho2
    obtain ⟨c2, f2⟩ := H2.out.1.flag
    have CS := w_text w.heap.size w.heap.size o2 false w2 H2.out.1 HNE.out
    have HCV := Lib.hid (fun W => conv_bytesJ (src := 9) Tryd.underlying9 ⟨o2.toArray⟩ (by show o2.length ≤ _; omega) W)
    clear CV
    go_wp2_with (go_at_call 26; refine CS.mono ?_; rintro e w3 ⟨rfl, hb3⟩; obtain ⟨va, vc, W1, hcv, hrow, hbc⟩ := HCV.out w3; have H3 := Lib.hid (And.intro hb3 (And.intro hrow hbc)); clear hb3 hrow hbc)
    go_ret2
    obtain ⟨hb3, hrow, hbc⟩ := H3.out
    have hsz := hb3.size
    have hs2 := H2.out.1.size
    refine ⟨(HB1.out.trans H2.out.2.1).trans (hb3.trans (hbc.mono (by omega))), ?_⟩
    rw [if_pos HOK.out, HF.out]
    refine ⟨_, rfl, ?_⟩
    exact hrow
end Go.Proofs.YtljnbbdhmlfhjaaDoor
