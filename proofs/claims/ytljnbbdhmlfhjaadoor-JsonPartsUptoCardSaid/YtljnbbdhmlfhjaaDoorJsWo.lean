/-
  json.writer: an object's part.
-/
import Derived.Test.YtljnbbdhmlfhjaaDoorJsWn
namespace Go.Proofs.YtljnbbdhmlfhjaaDoor
open Go.RowKit
theorem formU_snoc (x : Bs × J) : ∀ l : List (Bs × J), formU (l ++ [x]) = formU l ++ 44 :: formE x
  | [] => by simp [formU]
  | y :: l => by simp [formU, formU_snoc x l]
theorem formM_snoc (x : Bs × J) (l : List (Bs × J)) : formM (l ++ [x]) = formM l ++ (if l = [] then [] else [44]) ++ formE x := by
  cases l with
  | nil => simp [formM, formU]
  | cons y l => simp [formM, formU_snoc]
theorem okWM_snoc (d : Nat) (x : Bs × J) : ∀ l : List (Bs × J), okWM d (l ++ [x]) = (okWM d l && okWE d x)
  | [] => by simp [okWM]
  | y :: l => by simp [okWM, okWM_snoc d x l, Bool.and_assoc]
theorem okWM_take (d : Nat) : ∀ (l : List (Bs × J)) (i : Nat), okWM d l = true → okWM d (l.take i) = true
  | [], i, h => by simp [okWM]
  | y :: l, 0, h => by simp [okWM]
  | y :: l, i + 1, h => by
    simp only [okWM, Bool.and_eq_true] at h
    simp only [List.take_succ_cons, okWM, Bool.and_eq_true]
    exact ⟨h.1, okWM_take d l i h.2⟩
theorem formU_take : ∀ (l : List (Bs × J)) (i : Nat), (formU (l.take i)).length ≤ (formU l).length
  | [], i => by simp [formU]
  | y :: l, 0 => by simp [formU]
  | y :: l, i + 1 => by
    have := formU_take l i
    simp only [List.take_succ_cons, formU, List.length_cons, List.length_append]
    omega
theorem formM_take (l : List (Bs × J)) (i : Nat) : (formM (l.take i)).length ≤ (formM l).length := by
  cases l with
  | nil => simp [formM]
  | cons y l =>
    cases i with
    | zero => simp [formM]
    | succ i =>
      have := formU_take l i
      simp only [List.take_succ_cons, formM, List.length_append]
      omega
theorem formU_item : ∀ (l : List (Bs × J)) (i : Nat) (h : i < l.length), (formU (l.take i)).length + (formE l[i]).length ≤ (formU l).length
  | y :: l, 0, _ => by simp [formU]; omega
  | y :: l, i + 1, h => by
    have := formU_item l i (by simpa using h)
    simp only [List.take_succ_cons, formU, List.length_cons, List.length_append, List.getElem_cons_succ]
    omega
theorem mem_le (l : List (Bs × J)) (i : Nat) (h : i < l.length) : (formE l[i]).length ≤ (formM l).length := by
  have htk : l.take (i + 1) = l.take i ++ [l[i]] := List.take_succ_eq_append_getElem h
  have h3 := formM_take l (i + 1)
  rw [htk, formM_snoc, List.length_append, List.length_append] at h3
  omega
theorem formE_eq (m : Bs × J) : formE m = quote m.1 ++ 58 :: formJ m.2 := by cases m; rfl
theorem okWE_eq (d : Nat) (m : Bs × J) : okWE d m = (Lib.validD m.1 && okW d m.2) := by cases m; rfl
theorem repM_get {w : World} {S : Nat → Prop} : ∀ {l : List (Bs × J)} {vs : List Value}, RepM w S l vs → ∀ i (h : i < l.length), ∃ u, vs[2 * i]? = some (.string ⟨l[i].1.toArray⟩) ∧ vs[2 * i + 1]? = some u ∧ RepJ w S l[i].2 u
  | (n, x) :: l, vs, h, 0, _ => by
    obtain ⟨v, vs', rfl, h1, -⟩ := h
    exact ⟨v, rfl, rfl, h1⟩
  | (n, x) :: l, vs, h, i + 1, hi => by
    obtain ⟨v, vs', rfl, -, h2⟩ := h
    obtain ⟨u, h3, h4, h5⟩ := repM_get h2 i (by simpa using hi)
    exact ⟨u, by rw [show 2 * (i + 1) = 2 * i + 1 + 1 by omega]; simpa using h3, by rw [show 2 * (i + 1) + 1 = 2 * i + 1 + 1 + 1 by omega]; simpa using h4, h5⟩
/-- What an object's closure has captured. -/
structure CapO (B q d k kx : Nat) (sv : Value) (W : World) : Prop where
  bx : Bx q d k W
  bl : W.heap[kx]? = some (.cells #[sv] 34 (0, 0))
  ne : q < kx
theorem CapO.to {B q d k kx : Nat} {sv : Value} {W W' : World} (h : CapO B q d k kx sv W) (hk : KeepW q W W') : CapO B q d k kx sv W' :=
  ⟨h.bx.to hk, hk _ _ _ _ h.bl (by decide) (by have := h.ne; omega), h.ne⟩
theorem RepM.low {w w' : World} {S : Nat → Prop} {B : Nat} {l : List (Bs × J)} {vs : List Value} (h : RepM w S l vs) (hS : ∀ k, S k → k < B) (hb : Below B w w') : RepM w' S l vs :=
  RepM.to (fun k hk => ⟨hk, fun _ => hb.block k (hS k hk)⟩) l vs h
theorem quote_len (s : Bs) : (quote s).length ≤ 6 * s.length + 2 ∧ s.length + 2 ≤ (quote s).length := by
  have h1 := escS_len s
  have h2 : ∀ l : Bs, l.length ≤ (escS l).length := by
    intro l
    induction l with
    | nil => exact Nat.le_refl _
    | cons c l ih =>
      have : 1 ≤ (escB c).length := by
        unfold escB
        repeat' split
        all_goals simp
      rw [escS_cons, List.length_append, List.length_cons]
      omega
  have h3 := h2 s
  simp only [quote, List.length_cons, List.length_append, List.length_nil]
  omega
/-- The cells of a member that can be read. -/
theorem mem_cells {W : World} {S : Nat → Prop} {sv : Value} {l : List (Bs × J)} {vs : List Value} {i : Nat} (hi : i < l.length) (hrow : RowS W S sv l.length 2 vs) (hrep : RepM W S l vs) :
    ∃ b off cap u, sv = .slice (some ⟨b, off, none⟩) l.length cap ∧ W.cell? ⟨b, off + i * 2, none⟩ = some (.string ⟨l[i].1.toArray⟩) ∧ W.cell? ⟨b, off + i * 2 + 1, none⟩ = some u ∧ RepJ W S l[i].2 u := by
  obtain ⟨u, h1, h2, h3⟩ := repM_get hrep i hi
  obtain ⟨⟨hl1, a, cap, rfl, hca, hcm, hcs⟩, -⟩ := hrow
  obtain ⟨b, off, rfl, hb, hcell⟩ := hcs (by omega)
  have hvl := repM_len hrep
  refine ⟨b, off, cap, u, rfl, ?_, ?_, h3⟩
  · have := hcell (2 * i) (by omega)
    rw [List.getElem?_eq_getElem (by omega)] at h1
    rw [show off + i * 2 = off + 2 * i by omega, this]
    exact h1
  · have := hcell (2 * i + 1) (by omega)
    rw [List.getElem?_eq_getElem (by omega)] at h2
    rw [show off + i * 2 + 1 = off + (2 * i + 1) by omega, this]
    exact h2
set_option maxRecDepth 100000 in
set_option maxHeartbeats 10000000 in
theorem part_obj {B q d k kx : Nat} {S : Nat → Prop} {sv : Value} {l : List (Bs × J)} {vs : List Value} {out : Bs} {bad : Bool} {W : World} (i : Nat) (hi : i < l.length) (hx : WOk l[i].2) (hw : WSt B q out bad W) (hc : CapO B q d k kx sv W) (hT : TabB B W)
    (hrow : RowS W S sv l.length 2 vs) (hrep : RepM W S l vs) (hS : ∀ k, S k → k < B) (hd : d + 1 + (formE l[i]).length ≤ 2199023255552) (hl : out.length + 6 * (formE l[i]).length + 2 ≤ 1099511627776) :
    Calls Tryd.prog 49 #[.int .i64 (i : Int), .pointer (some ⟨k, 0, none⟩), .pointer (some ⟨kx, 0, none⟩), .pointer (some ⟨k + 1, 0, none⟩)] W (WEnd B q W out bad (okWE (d + 1) l[i]) (formE l[i])) := by
  have hvl := repM_len hrep
  obtain ⟨b, off, cap, u, rfl, -, -, -⟩ := mem_cells hi hrow hrep
  have hfe : (formE l[i]).length = (quote l[i].1).length + (formJ l[i].2).length + 1 := by
    rw [formE_eq]
    simp only [List.length_append, List.length_cons]; omega
  have hql := quote_len l[i].1
  have hdr : Below W.heap.size W W.drew := (Below.refl _ _).drew
  have hg := Went.below (q := q) hdr hw.size
  have HM := Lib.hid (fun (W' : World) (hg' : Went B q W W') => (by
    obtain ⟨b', off', cap', u, he, h1, h2, h3⟩ := mem_cells hi (hrow.low hS hg'.1) (hrep.low hS hg'.1)
    cases he
    exact ⟨u, h1, h2, h3⟩ : ∃ u, W'.cell? ⟨b, off + i * 2, none⟩ = some (.string ⟨l[i].1.toArray⟩) ∧ W'.cell? ⟨b, off + i * 2 + 1, none⟩ = some u ∧ RepJ W' S l[i].2 u))
  have HC := Lib.hid (fun (W' : World) (hg' : Went B q W W') => (⟨(hc.to hg'.2).bx.cells, by rw [Lib.cell_of_heap (hc.to hg'.2).bl]; rfl⟩ : ((W'.cell? ⟨k, 0, none⟩ = some (.pointer (some ⟨q, 0, none⟩)) ∧ W'.cell? ⟨k + 1, 0, none⟩ = some (.int .i64 (d : Int))) ∧ W'.frozen? ⟨k, 0, none⟩ = false ∧ W'.frozen? ⟨k + 1, 0, none⟩ = false) ∧ W'.cell? ⟨kx, 0, none⟩ = some (.slice (some ⟨b, off, none⟩) l.length cap)))
  have CT := w_quote B q out bad ⟨l[i].1.toArray⟩ W.drew (hw.keptB hdr) (hT.to hg.1).tabs (by show out.length + 6 * l[i].1.length + 2 ≤ _; omega)
  have CB := Lib.hid (fun (W' : World) (b' : Bool) (hW : WSt B q (out ++ quote l[i].1) b' W') => w_byte B q (out ++ quote l[i].1) b' 58 58 rfl W' hW (by rw [List.length_append]; omega))
  have CV := Lib.hid (fun (W' : World) (b' : Bool) (u : Value) (hW : WSt B q ((out ++ quote l[i].1) ++ [58]) b' W') (hg' : Went B q W W') (hu : RepJ W' S l[i].2 u) => hx (d + 1) B q S u _ b' W' hW (hT.to hg'.1) hu hS (by omega) (by simp only [List.length_append, List.length_singleton]; omega))
  obtain ⟨u0, g0, g1, -⟩ := HM.out W.drew hg
  obtain ⟨⟨⟨c0, c1⟩, f0, f1⟩, c3⟩ := HC.out W.drew hg
  have i1 : (0 : Int) ≤ (i : Int) := by omega
  have i2 : (i : Int) < (l.length : Int) := by omega
  have HG := Lib.hid hg
  have hdl : d ≤ 2199023255552 := by omega
  clear hdr hg hw hc hT hrow hrep hS hl hvl hx hql hd hfe
  go_enter Tryd.func49, Tryd.ntmps49
  go_upto_region 0 with fail
  refine wp_region_tailJ 6 (by kernel_rfl) (by kernel_rfl) ?_
  simp only [List.take_succ_cons, List.take_zero, List.drop_succ_cons, List.drop_zero]
  repeat (go_big_quiet_step (fail))
  refine wpQuiet_nil ?_
  change wpList _ _ _ _ _ W.drew
  go_upto_region 1 with (go_at_call 46; refine CT.mono ?_; rintro e w2 ⟨rfl, hw2, hg2⟩; have H2 := Lib.hid (And.intro hw2 hg2); clear hw2 hg2)
  have hg2 : Went B q W w2 := HG.out.trans H2.out.2
  obtain ⟨⟨⟨c0, c1⟩, f0, f1⟩, c3⟩ := HC.out w2 hg2
  have CB2 := CB.out w2 _ H2.out.1
  have HG2 := Lib.hid hg2
  clear g0 g1 hg2 CT
  go_upto_region 2 with (go_at_call 50; refine CB2.mono ?_; rintro e w3 ⟨rfl, hw3, hg3⟩; have H3 := Lib.hid (And.intro hw3 hg3); clear hw3 hg3)
  have hdr3 : Below w3.heap.size w3 w3.drew := (Below.refl _ _).drew
  have hgd3 := Went.below (q := q) hdr3 H3.out.1.size
  have hg3 : Went B q W w3.drew := HG2.out.trans (H3.out.2.trans hgd3)
  obtain ⟨u, g0, g1, hu⟩ := HM.out w3.drew hg3
  obtain ⟨⟨⟨c0, c1⟩, f0, f1⟩, c3⟩ := HC.out w3.drew hg3
  have CV3 := CV.out w3.drew _ u (H3.out.1.keptB hdr3) hg3 hu
  rw [Int.natCast_add, Int.natCast_one] at CV3
  have HG3 := Lib.hid hg3
  clear hu hdr3 hgd3 hg3 CB2 CB CV HM HC
  refine wp_region_tailJ 8 (by kernel_rfl) (by kernel_rfl) ?_
  simp only [List.take_succ_cons, List.take_zero, List.drop_succ_cons, List.drop_zero]
  repeat (go_big_quiet_step (fail))
  refine wpQuiet_nil ?_
  change wpList _ _ _ _ _ w3.drew
  go_wp2_with (go_at_call 25; refine CV3.mono ?_; rintro e w4 ⟨rfl, o4, b4, h1, h2, h3, h4, h5⟩; have H4 := Lib.hid (And.intro h1 (And.intro h2 (And.intro h3 (And.intro h4 h5)))); clear h1 h2 h3 h4 h5)
  go_end0
  obtain ⟨h1, h2, h3, h4, h5⟩ := H4.out
  refine ⟨rfl, o4, b4, h1, HG3.out.trans h2, ?_, fun e => ?_, ?_⟩
  · rw [h3, okWE_eq]
    cases bad <;> cases Lib.validD l[i].1 <;> cases okW (d + 1) l[i].2 <;> rfl
  · rw [h4 e, formE_eq]; simp
  · rw [formE_eq]
    simp only [List.length_append, List.length_cons, List.length_nil] at h5 ⊢
    omega
end Go.Proofs.YtljnbbdhmlfhjaaDoor
