/-
  The law's form of a text: Parse, then Write.
-/
import Derived.Test.YtljnbbdhmlfhjaaDoorJsWr
import Derived.Test.YtljnbbdhmlfhjaaDoorJsM
import Derived.Test.YtljnbbdhmlfhjaaDoorJsnAll
namespace Go.Proofs.YtljnbbdhmlfhjaaDoor
open Go.RowKit
mutual
theorem okW_of : ∀ (j : J) (d : Nat), okJ j → d + deepJ j ≤ 16 → okW d j = true
  | .nul, _, _, _ => rfl
  | .bool _, _, _, _ => rfl
  | .num s, d, h, _ => by
    obtain ⟨h1, h2⟩ := (num_iff s).1 h
    simp only [okW, h2]
    cases s with
    | nil => exact absurd rfl h1
    | cons c s => simp
  | .str s, _, h, _ => h
  | .arr l, d, h, hd => by
    simp only [deepJ] at hd
    simp only [okW, Bool.and_eq_true, decide_eq_true_eq]
    exact ⟨by omega, okWL_of l (d + 1) h (by omega)⟩
  | .obj l, d, h, hd => by
    simp only [deepJ] at hd
    simp only [okW, Bool.and_eq_true, decide_eq_true_eq]
    exact ⟨by omega, okWM_of l (d + 1) h (by omega)⟩
theorem okWL_of : ∀ (l : List J) (d : Nat), okL l → d + deepL l ≤ 16 → okWL d l = true
  | [], _, _, _ => rfl
  | x :: l, d, h, hd => by
    simp only [deepL] at hd
    simp only [okWL, Bool.and_eq_true]
    exact ⟨okW_of x d h.1 (by omega), okWL_of l d h.2 (by omega)⟩
theorem okWM_of : ∀ (l : List (Bs × J)) (d : Nat), okM l → d + deepM l ≤ 16 → okWM d l = true
  | [], _, _, _ => rfl
  | (n, x) :: l, d, h, hd => by
    simp only [deepM, deepE] at hd
    simp only [okWM, okWE, Bool.and_eq_true]
    exact ⟨⟨h.1.1, okW_of x d h.1.2 (by omega)⟩, okWM_of l d h.2 (by omega)⟩
end
mutual
theorem nums_of : ∀ (j : J), okJ j → numsJ j
  | .nul, _ => trivial
  | .bool _, _ => trivial
  | .num _, h => h
  | .str _, _ => trivial
  | .arr l, h => numsL_of l h
  | .obj l, h => numsM_of l h
theorem numsL_of : ∀ (l : List J), okL l → numsL l
  | [], _ => trivial
  | x :: l, h => ⟨nums_of x h.1, numsL_of l h.2⟩
theorem numsM_of : ∀ (l : List (Bs × J)), okM l → numsM l
  | [], _ => trivial
  | (_, x) :: l, h => ⟨nums_of x h.1.2, numsM_of l h.2⟩
end
set_option maxRecDepth 100000 in
set_option maxHeartbeats 10000000 in
theorem law_form (s : ByteArray) (w : World) (hT : Tabs w) (hs : s.size ≤ 70368744177664) :
    Calls Tryd.prog 9 #[.string s] w fun e w' => e = .returned (.tuple #[.string ⟨(oneF s.data.toList).toArray⟩, .int .i64 (parseE s.data.toList)]) ∧ Below w.heap.size w w' := by
  obtain ⟨a, cap, W1, hcv, hrow, hb1⟩ := conv_bytesJ (src := 9) Tryd.underlying9 s hs w
  have CP := js_Parse _ s.data.toList W1 (Utf8Tabs_below hT hb1) hrow
  obtain ⟨b, hb⟩ : ∃ b, s.data.toList = b := ⟨_, rfl⟩
  rw [hb] at CP ⊢
  have HB1 := Lib.hid hb1
  have HT := Lib.hid hT
  by_cases h0 : parseE b = 0
  · obtain ⟨hl, hv, j, hdoc, hdeep, hpj, hone⟩ := parse_zero h0
    obtain ⟨hok, hlen⟩ := doc_ok hv hdoc
    have HW := Lib.hid (fun (W : World) (v : Value) (hb2 : Below W1.heap.size W1 W) (hr : RepJ W (Nw W1.heap.size W) j v) => js_Write j (nums_of j hok) (Nw W1.heap.size W) v W (Utf8Tabs_below hT (hb1.trans (hb2.mono hb1.size))) hr (fun k hk => hk.2) (by omega))
    have HOK := Lib.hid (okW_of j 0 hok (by omega))
    have HPJ := Lib.hid hpj
    have CP2 : Calls Tryd.prog 11 #[.slice a s.size cap] W1 fun e w' => ∃ v, e = .returned (.tuple #[v, .int .i64 0]) ∧ RepJ w' (Nw W1.heap.size w') j v ∧ Below W1.heap.size W1 w' := by
      refine CP.mono ?_
      rintro e w' ⟨v, h1, h2, h3⟩
      rw [h0] at h1
      rw [hpj] at h2
      exact ⟨v, h1, h2, h3⟩
    rw [h0, hone]
    obtain ⟨F, hF⟩ : ∃ F, formJ j = F := ⟨_, rfl⟩
    have HF := Lib.hid hF
    rw [hF]
    clear CP hrow hb1 hT hb h0 hl hv hdoc hdeep hpj hone hok hlen hs hF
    go_enter Tryd.func9, Tryd.ntmps9
    go_wp2_with (first | (go_at_call 11; refine CP2.mono ?_; rintro e w2 ⟨v, rfl, hrep, hb2⟩; have CW := HW.out w2 v hb2 hrep; have HB2 := Lib.hid hb2; clear hrep hb2) | (go_at_call 12; refine CW.mono ?_; rintro e w3 ⟨hb3, hres⟩; rw [if_pos HOK.out] at hres; obtain ⟨v3, rfl, hrow3⟩ := hres; have hcv3 := conv_arg hrow3; rw [HF.out] at hcv3; have HB3 := Lib.hid hb3; clear hb3 hrow3))
    go_ret2
    exact ⟨rfl, HB1.out.trans ((HB2.out.mono HB1.out.size).trans (HB3.out.mono (Nat.le_trans HB1.out.size HB2.out.size)))⟩
  · have hone : oneF b = [] := by unfold oneF; rw [if_neg h0]
    have CP2 : Calls Tryd.prog 11 #[.slice a s.size cap] W1 fun e w' => ∃ v, e = .returned (.tuple #[v, .int .i64 (parseE b)]) ∧ Below W1.heap.size W1 w' := by
      refine CP.mono ?_
      rintro e w' ⟨v, h1, h2, h3⟩
      exact ⟨v, h1, h3⟩
    rw [hone]
    obtain ⟨E, hE⟩ : ∃ E, parseE b = E := ⟨_, rfl⟩
    rw [hE] at CP2 h0 ⊢
    have hne : (E != 0) = true := by simpa using h0
    clear CP hrow hb1 hT hb h0 hone hs hE
    go_enter Tryd.func9, Tryd.ntmps9
    go_wp2_with (go_at_call 11; refine CP2.mono ?_; rintro e w2 ⟨v, rfl, hb2⟩)
    go_ret2
    exact ⟨rfl, HB1.out.trans (hb2.mono HB1.out.size)⟩
end Go.Proofs.YtljnbbdhmlfhjaaDoor
