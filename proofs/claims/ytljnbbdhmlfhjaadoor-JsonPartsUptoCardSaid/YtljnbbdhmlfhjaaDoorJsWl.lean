/-
  json.writer: an array's part; list.
-/
import Derived.Test.YtljnbbdhmlfhjaaDoorJsWu
namespace Go.Proofs.YtljnbbdhmlfhjaaDoor
open Go.RowKit
theorem formT_snoc (x : J) : ∀ l : List J, formT (l ++ [x]) = formT l ++ 44 :: formJ x
  | [] => by simp [formT]
  | y :: l => by simp [formT, formT_snoc x l]
theorem formL_snoc (x : J) (l : List J) : formL (l ++ [x]) = formL l ++ (if l = [] then [] else [44]) ++ formJ x := by
  cases l with
  | nil => simp [formL, formT]
  | cons y l => simp [formL, formT_snoc]
theorem okWL_snoc (d : Nat) (x : J) : ∀ l : List J, okWL d (l ++ [x]) = (okWL d l && okW d x)
  | [] => by simp [okWL]
  | y :: l => by simp [okWL, okWL_snoc d x l, Bool.and_assoc]
theorem okWL_take (d : Nat) : ∀ (l : List J) (i : Nat), okWL d l = true → okWL d (l.take i) = true
  | [], i, h => by simp [okWL]
  | y :: l, 0, h => by simp [okWL]
  | y :: l, i + 1, h => by
    simp only [okWL, Bool.and_eq_true] at h
    simp only [List.take_succ_cons, okWL, Bool.and_eq_true]
    exact ⟨h.1, okWL_take d l i h.2⟩
theorem formT_take : ∀ (l : List J) (i : Nat), (formT (l.take i)).length ≤ (formT l).length
  | [], i => by simp [formT]
  | y :: l, 0 => by simp [formT]
  | y :: l, i + 1 => by
    have := formT_take l i
    simp only [List.take_succ_cons, formT, List.length_cons, List.length_append]
    omega
theorem formL_take (l : List J) (i : Nat) : (formL (l.take i)).length ≤ (formL l).length := by
  cases l with
  | nil => simp [formL]
  | cons y l =>
    cases i with
    | zero => simp [formL]
    | succ i =>
      have := formT_take l i
      simp only [List.take_succ_cons, formL, List.length_append]
      omega
theorem formT_item : ∀ (l : List J) (i : Nat) (h : i < l.length), (formT (l.take i)).length + (formJ l[i]).length ≤ (formT l).length
  | y :: l, 0, _ => by simp [formT]; omega
  | y :: l, i + 1, h => by
    have := formT_item l i (by simpa using h)
    simp only [List.take_succ_cons, formT, List.length_cons, List.length_append, List.getElem_cons_succ]
    omega
theorem item_le (l : List J) (i : Nat) (h : i < l.length) : (formJ l[i]).length ≤ (formL l).length := by
  have htk : l.take (i + 1) = l.take i ++ [l[i]] := List.take_succ_eq_append_getElem h
  have h3 := formL_take l (i + 1)
  rw [htk, formL_snoc, List.length_append, List.length_append] at h3
  omega
theorem repL_get {w : World} {S : Nat → Prop} : ∀ {l : List J} {vs : List Value}, RepL w S l vs → ∀ i (h : i < l.length), ∃ u, vs[i]? = some u ∧ RepJ w S l[i] u
  | x :: l, vs, h, 0, _ => by
    obtain ⟨v, vs', rfl, h1, -⟩ := h
    exact ⟨v, rfl, h1⟩
  | x :: l, vs, h, i + 1, hi => by
    obtain ⟨v, vs', rfl, -, h2⟩ := h
    obtain ⟨u, h3, h4⟩ := repL_get h2 i (by simpa using hi)
    exact ⟨u, by simpa using h3, h4⟩
/-- What an array's closure has captured. -/
structure Cap (B q d k kx : Nat) (sv : Value) (W : World) : Prop where
  bx : Bx q d k W
  bl : W.heap[kx]? = some (.cells #[sv] 35 (0, 0))
  ne : q < kx
theorem Cap.to {B q d k kx : Nat} {sv : Value} {W W' : World} (h : Cap B q d k kx sv W) (hk : KeepW q W W') : Cap B q d k kx sv W' :=
  ⟨h.bx.to hk, hk _ _ _ _ h.bl (by decide) (by have := h.ne; omega), h.ne⟩
theorem RowS.low {w w' : World} {S : Nat → Prop} {B n size : Nat} {sv : Value} {xs : List Value} (h : RowS w S sv n size xs) (hS : ∀ k, S k → k < B) (hb : Below B w w') : RowS w' S sv n size xs :=
  h.to fun k hk => ⟨hk, fun _ => hb.block k (hS k hk)⟩
theorem RepJ.low {w w' : World} {S : Nat → Prop} {B : Nat} {j : J} {v : Value} (h : RepJ w S j v) (hS : ∀ k, S k → k < B) (hb : Below B w w') : RepJ w' S j v :=
  RepJ.to (fun k hk => ⟨hk, fun _ => hb.block k (hS k hk)⟩) j v h
theorem RepL.low {w w' : World} {S : Nat → Prop} {B : Nat} {l : List J} {vs : List Value} (h : RepL w S l vs) (hS : ∀ k, S k → k < B) (hb : Below B w w') : RepL w' S l vs :=
  RepL.to (fun k hk => ⟨hk, fun _ => hb.block k (hS k hk)⟩) l vs h
set_option maxRecDepth 100000 in
set_option maxHeartbeats 10000000 in
theorem part_arr {B q d k kx : Nat} {S : Nat → Prop} {sv : Value} {l : List J} {vs : List Value} {out : Bs} {bad : Bool} {W : World} (i : Nat) (hi : i < l.length) (hx : WOk l[i]) (hw : WSt B q out bad W) (hc : Cap B q d k kx sv W) (hT : TabB B W)
    (hrow : RowS W S sv l.length 1 vs) (hrep : RepL W S l vs) (hS : ∀ k, S k → k < B) (hd : d + 1 + (formJ l[i]).length ≤ 2199023255552) (hl : out.length + 6 * (formJ l[i]).length + 2 ≤ 1099511627776) :
    Calls Tryd.prog 48 #[.int .i64 (i : Int), .pointer (some ⟨k, 0, none⟩), .pointer (some ⟨kx, 0, none⟩), .pointer (some ⟨k + 1, 0, none⟩)] W (WEnd B q W out bad (okW (d + 1) l[i]) (formJ l[i])) := by
  obtain ⟨u, hu, hru⟩ := repL_get hrep i hi
  have hdr : Below W.heap.size W W.drew := (Below.refl _ _).drew
  have hg := Went.below (q := q) hdr hw.size
  have CV := hx (d + 1) B q S u out bad W.drew (hw.keptB hdr) (hT.to hg.1) (hru.low hS hg.1) hS hd hl
  have HG := Lib.hid hg
  obtain ⟨⟨c0, c1⟩, f0, f1⟩ := (hc.to hg.2).bx.cells
  have c3 : W.drew.cell? ⟨kx, 0, none⟩ = some sv := by rw [Lib.cell_of_heap (hc.to hg.2).bl]; rfl
  obtain ⟨⟨hl1, a, cap, rfl, hca, hcm, hcs⟩, -⟩ := hrow.low hS hg.1
  obtain ⟨b, off, rfl, hb, hcell⟩ := hcs (by omega)
  have hvl := repL_len hrep
  have g0 : W.drew.cell? ⟨b, off + i, none⟩ = some u := by
    have := hcell i (by omega)
    rw [this]
    rw [List.getElem?_eq_getElem (by omega)] at hu
    exact hu
  have i1 : (0 : Int) ≤ (i : Int) := by omega
  have i2 : (i : Int) < (l.length : Int) := by omega
  rw [Int.natCast_add, Int.natCast_one] at CV
  clear hu hru hdr hg hw hc hT hrow hrep hS hcs hcell hl hvl hl1 hx
  generalize okW (d + 1) l[i] = ok at *
  generalize formJ l[i] = f at *
  generalize l.length = n at *
  go_enter Tryd.func48, Tryd.ntmps48
  go_upto_region 0 with fail
  refine wp_region_tailJ 7 (by kernel_rfl) (by kernel_rfl) ?_
  simp only [List.take_succ_cons, List.take_zero, List.drop_succ_cons, List.drop_zero]
  repeat (go_big_quiet_step (fail))
  refine wpQuiet_nil ?_
  change wpList _ _ _ _ _ W.drew
  go_wp2_with (go_at_call 25; refine CV.mono ?_; rintro e w2 ⟨rfl, out', bad', h1, h2, h3⟩; have H2 := Lib.hid (And.intro h1 (And.intro h2 h3)); clear h1 h2 h3)
  go_end0
  exact ⟨rfl, out', bad', H2.out.1, HG.out.trans H2.out.2.1, H2.out.2.2⟩
end Go.Proofs.YtljnbbdhmlfhjaaDoor
