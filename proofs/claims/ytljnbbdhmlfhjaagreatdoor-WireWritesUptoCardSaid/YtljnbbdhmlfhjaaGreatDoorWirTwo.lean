/-
  wire.one: a record of a push.
-/
import Derived.Test.YtljnbbdhmlfhjaaGreatDoorWirOne
import Derived.Test.YtljnbbdhmlfhjaaGreatDoorRdAll
import Derived.Lib.AppendIntMem
import Derived.Lib.ItoaMem
import Derived.Test.YtljnbbdhmlfhjaaGreatDoorJnTwo
import Derived.Test.YtljnbbdhmlfhjaaGreatDoorJsM
namespace Go.Proofs.YtljnbbdhmlfhjaaGreatDoor
open Go.RowKit
/-- What a push's reading may lean on. -/
structure T23 (w : World) : Prop where
  tabs : Tabs w
  errs : ErrV w
  p10 : Lib.TabBelow Tryz.prog w.heap.size w "internal/strconv.uint64pow10" .u64 Lib.pow10Tab
theorem T23.to {w w' : World} (h : T23 w) (hb : Below w.heap.size w w') : T23 w' :=
  ⟨Utf8Tabs_below h.tabs hb, h.errs.keep hb, fun w2 h2 => h.p10 w2 (hb.trans (h2.mono hb.size))⟩
theorem get_opt (nm : Bs) (j : J) (S : Nat → Prop) (v : Value) (w : World) (hr : RepJ w S j v) (hS : ∀ k, S k → k < w.heap.size) (hl : (formJ j).length ≤ 1099511627776) :
    Calls Tryz.prog 16 #[v, .string (toB nm)] w fun e w' => ∃ u, e = .returned (.tuple #[u, .bool (getJ nm j).isSome]) ∧ RepJ w' S (optJ (getJ nm j)) u ∧ Below w.heap.size w w' := by
  refine (js_Get j S v (toB nm) w hr hS hl).mono ?_
  rintro e w' ⟨u, h1, h2, h3⟩
  rw [toB_data] at h1 h3
  refine ⟨u, h1, ?_, h2⟩
  cases hg : getJ nm j with
  | none =>
    rw [hg] at h3
    exact h3
  | some x =>
    rw [hg] at h3
    exact h3
theorem opt_small (nm : Bs) (j : J) (h : (formJ j).length ≤ 1048000) : (formJ (optJ (getJ nm j))).length ≤ 1048000 := by
  cases hg : getJ nm j with
  | none => decide
  | some x =>
    have := get_small hg
    show (formJ x).length ≤ _
    omega
def OneR (w : World) (o : Option Rec) (e : Ending) (w' : World) : Prop :=
  Below w.heap.size w w' ∧ match o with
    | none => ∃ (r : Rec) (a : Option Addr) (n c : Nat), e = .returned (.tuple #[recV r (.slice a n c), .bool false])
    | some r => ∃ lv, e = .returned (.tuple #[recV r lv, .bool true]) ∧ w'.ownsRow w.heap.size 55 2 lv r.labs.length (labCells r.labs)
/-- A record's block, within what the call has made. -/
theorem block_on {k : Nat} {W W' : World} {cs : Array Value} {T : TypeId} (hb : Below W.heap.size W W') (h : W.heap[k]? = some (.cells cs T (0, 0))) : W'.heap[k]? = some (.cells cs T (0, 0)) := by
  rw [hb.block k (Array.getElem?_eq_some_iff.1 h).1]
  exact h
theorem rows3 (w : World) : argRow (w.alloc (.cells #[.string (toB kTime), .string (toB kLine), .string (toB kLabels)] 9)) (.slice (some ⟨w.heap.size, 0, none⟩) 3 3) [kTime, kLine, kLabels].length 1 ([kTime, kLine, kLabels].map strV) := by
  refine ⟨rfl, _, 3, rfl, Nat.le_refl _, by decide, fun _ => ⟨w.heap.size, 0, rfl, by simp, fun j hj => ?_⟩⟩
  have hn : (w.alloc (.cells #[.string (toB kTime), .string (toB kLine), .string (toB kLabels)] 9)).heap[w.heap.size]? = _ := heap_alloc_new w _
  rw [Nat.zero_add, Lib.cell_of_heap hn]
  match j, hj with
  | 0, _ => rfl
  | 1, _ => rfl
  | 2, _ => rfl
theorem rows1 (w : World) (s : Bs) : argRow (w.alloc (.cells #[.string (toB s)] 9)) (.slice (some ⟨w.heap.size, 0, none⟩) 1 1) [s].length 1 ([s].map strV) := by
  refine ⟨rfl, _, 1, rfl, Nat.le_refl _, by decide, fun _ => ⟨w.heap.size, 0, rfl, by simp, fun j hj => ?_⟩⟩
  have hn : (w.alloc (.cells #[.string (toB s)] 9)).heap[w.heap.size]? = _ := heap_alloc_new w _
  rw [Nat.zero_add, Lib.cell_of_heap hn]
  match j, hj with
  | 0, _ => rfl
theorem set_labs {W : World} {r : Nat} {a b c d : Value} {T : TypeId} (c0 : W.heap[r]? = some (.cells #[a, b, c, d] T (0, 0))) (z : Value) :
    (W.setCell ⟨r, 2, none⟩ z).heap[r]? = some (.cells #[a, b, z, d] T (0, 0)) ∧ W.grownBy (W.setCell ⟨r, 2, none⟩ z) (some r) := by
  refine ⟨?_, grown_set _ _ _ _⟩
  rw [heap_setCell_same W r 2 _ _ z c0]
  rfl
theorem one_end {w W : World} {a b c d : Value} {T : TypeId} (hb : Below w.heap.size w W) (h : W.heap[w.heap.size]? = some (.cells #[a, b, c, d] T (0, 0))) (x y z u : Value) :
    Below w.heap.size w ((((W.setCell ⟨w.heap.size, 0, none⟩ x).setCell ⟨w.heap.size, 1, none⟩ y).setCell ⟨w.heap.size, 2, none⟩ z).setCell ⟨w.heap.size, 3, none⟩ u) :=
  hb.grown (set4 h x y z u).2 hb.size (fun k hk => by cases hk; exact Nat.le_refl _)
set_option maxRecDepth 100000 in
set_option maxHeartbeats 40000000 in
theorem wire_one (j : J) (S : Nat → Prop) (v : Value) (w : World) (hT : T23 w) (hr : RepJ w S j v) (hS : ∀ k, S k → k < w.heap.size) (hl : (formJ j).length ≤ 1048000) :
    Calls Tryz.prog 59 #[v] w (OneR w (oneJ j)) := by
  have CG := Lib.hid (fun (nm : Bs) (W : World) (hW : Below w.heap.size w W) => get_opt nm j S v W (hr.low hS hW) (fun k hk => Nat.lt_of_lt_of_le (hS k hk) hW.size) (by omega))
  have CO := Lib.hid (fun (nv : Value) (W : World) (hW : Below w.heap.size w W) (hn : argRow W nv [kTime, kLine, kLabels].length 1 ([kTime, kLine, kLabels].map strV)) => wire_only j S v nv [kTime, kLine, kLabels] W (hr.low hS hW) (fun k hk => Nat.lt_of_lt_of_le (hS k hk) hW.size) (by omega) hn (by simp) (by decide))
  have hone : oneJ j = if onlyB [kTime, kLine, kLabels] j = true ∧ (intJ (optJ (getJ kTime j))).2 = true ∧ (textJ (optJ (getJ kLine j))).2 = true then
    match getJ kLabels j with
    | none => some ⟨(intJ (optJ (getJ kTime j))).1, 0, [], toB (textJ (optJ (getJ kLine j))).1⟩
    | some x => match labsJ x with
      | none => none
      | some L => some ⟨(intJ (optJ (getJ kTime j))).1, 0, L, toB (textJ (optJ (getJ kLine j))).1⟩
  else none := rfl
  have st := opt_small kTime j hl
  have sl := opt_small kLine j hl
  have sb := opt_small kLabels j hl
  have HLOW := Lib.hid (fun (x : J) (u : Value) (W W' : World) (hW : Below w.heap.size w W) (hb : Below W.heap.size W W') (h : RepJ W S x u) => h.low (B := W.heap.size) (fun k hk => Nat.lt_of_lt_of_le (hS k hk) hW.size) hb)
  have HS := Lib.hid hS
  obtain ⟨X, hX⟩ : ∃ X, oneJ j = X := ⟨_, rfl⟩
  rw [hX] at hone ⊢
  have C1 := CG.out kTime
  have C2 := CG.out kLine
  have C3 := CG.out kLabels
  have CO2 := CO.out
  obtain ⟨ON, hON⟩ : ∃ ON, onlyB [kTime, kLine, kLabels] j = ON := ⟨_, rfl⟩
  obtain ⟨gt, hgt⟩ : ∃ g, optJ (getJ kTime j) = g := ⟨_, rfl⟩
  obtain ⟨gl, hgl⟩ : ∃ g, optJ (getJ kLine j) = g := ⟨_, rfl⟩
  rw [hON] at hone CO2
  rw [hgt] at hone C1 st
  rw [hgl] at hone C2 sl
  have C3' := Lib.hid C3
  have HCO := Lib.hid CO2
  have C2' := Lib.hid C2
  have CI := Lib.hid (fun (u : Value) (W : World) (hW : Below w.heap.size w W) (h : RepJ W S gt u) => js_Int gt S u W h (hT.to hW).errs (by omega))
  have CT := Lib.hid (fun (u : Value) (W : World) (h : RepJ W S gl u) => js_Text gl S u W h)
  obtain ⟨⟨n, wh⟩, hni⟩ : ∃ x, intJ gt = x := ⟨_, rfl⟩
  obtain ⟨⟨t, tx⟩, htx⟩ : ∃ x, textJ gl = x := ⟨_, rfl⟩
  rw [hni] at CI hone
  rw [htx] at CT hone
  have HONE := Lib.hid hone
  have hbw := belowAJ (o := .cells #[.int .i64 0, .int .u64 0, .slice none 0 0, .string ⟨#[]⟩] 34) (Below.refl w.heap.size w) (Nat.le_refl _)
  have hres := heap_alloc_new w (.cells #[.int .i64 0, .int .u64 0, .slice none 0 0, .string ⟨#[]⟩] 34)
  have C1' := C1 _ hbw
  clear hone CG CO C1 C2 C3 CO2 hX hON hgt hgl hni htx hT hr hS hl
  obtain ⟨T, hTT⟩ : ∃ T, toB t = T := ⟨_, rfl⟩
  have HTT := Lib.hid hTT
  clear hTT
  go_enter Tryz.func59, Tryz.ntmps59
  go_upto_region 2 with (go_at_call 16; refine C1'.mono ?_; rintro e w1 ⟨ut, rfl, hrt, hb1⟩)
  have h1 := hbw.trans (hb1.mono hbw.size)
  have hs1 := block_on hb1 hres
  have C2'' := C2'.out _ h1
  clear C1'
  go_upto_region 3 with (go_at_call 16; refine C2''.mono ?_; rintro e w2 ⟨ul, rfl, hrl, hb2⟩)
  have h2 := h1.trans (hb2.mono h1.size)
  have hs2 := block_on hb2 hs1
  have hrt2 := HLOW.out _ _ _ _ h1 hb2 hrt
  have CI' := CI.out ut w2 h2 hrt2
  clear C2'' hrt
  go_upto_region 4 with (go_at_call 19; refine CI'.mono ?_; rintro e w3 ⟨rfl, hb3⟩)
  have h3 := h2.trans (hb3.mono h2.size)
  have hs3 := block_on hb3 hs2
  have CT' := CT.out ul w3 (HLOW.out _ _ _ _ h2 hb3 hrl)
  clear CI' hrt2 hrl
  go_upto_region 5 with (go_at_call 20; refine CT'.mono ?_; rintro e w4 ⟨rfl, rfl⟩)
  have eT : (⟨t.toArray⟩ : ByteArray) = T := HTT.out
  rw [eT]
  clear CT'
  have hb5 := belowAJ (o := .cells #[.int .i64 n, .int .u64 0, .slice none 0 0, .string T] 34) (Below.refl w4.heap.size w4) (Nat.le_refl _)
  have hn5 := heap_alloc_new w4 (.cells #[.int .i64 n, .int .u64 0, .slice none 0 0, .string T] 34)
  have hs5 := block_on hb5 hs3
  have h5 := h3.trans (hb5.mono h3.size)
  go_upto_region 6 with fail
  obtain ⟨w5, hw5⟩ : ∃ W, w4.alloc (.cells #[.int .i64 n, .int .u64 0, .slice none 0 0, .string T] 34) = W := ⟨_, rfl⟩
  rw [hw5] at hb5 hn5 hs5 h5 ⊢
  clear hw5
  have h6 := belowAJ (o := .cells #[.string ⟨#[116, 105, 109, 101]⟩, .string ⟨#[108, 105, 110, 101]⟩, .string ⟨#[108, 97, 98, 101, 108, 115]⟩] 9) h5 h5.size
  have hb6 := belowAJ (o := .cells #[.string ⟨#[116, 105, 109, 101]⟩, .string ⟨#[108, 105, 110, 101]⟩, .string ⟨#[108, 97, 98, 101, 108, 115]⟩] 9) (Below.refl w5.heap.size w5) (Nat.le_refl _)
  have hs6 := block_on hb6 hs5
  have hn6 := block_on hb6 hn5
  have CO6 : Calls Tryz.prog 58 #[v, .slice (some ⟨w5.heap.size, 0, none⟩) 3 3] (w5.alloc (.cells #[.string ⟨#[116, 105, 109, 101]⟩, .string ⟨#[108, 105, 110, 101]⟩, .string ⟨#[108, 97, 98, 101, 108, 115]⟩] 9)) fun e w' => e = .returned (.bool ON) ∧ Below (w5.alloc (.cells #[.string ⟨#[116, 105, 109, 101]⟩, .string ⟨#[108, 105, 110, 101]⟩, .string ⟨#[108, 97, 98, 101, 108, 115]⟩] 9)).heap.size (w5.alloc (.cells #[.string ⟨#[116, 105, 109, 101]⟩, .string ⟨#[108, 105, 110, 101]⟩, .string ⟨#[108, 97, 98, 101, 108, 115]⟩] 9)) w' := HCO.out _ _ h6 (rows3 w5)
  obtain ⟨tp, htp⟩ : ∃ tp, w4.heap.size = tp := ⟨_, rfl⟩
  rw [htp] at hn6 hn5 ⊢
  have hrp : w.heap.size < tp := by rw [← htp]; exact Nat.lt_of_lt_of_le (Array.getElem?_eq_some_iff.1 hs3).1 (Nat.le_refl _)
  clear hs1 hs2 hs3 hs5 h1 h2 hb1 hb2 hb3 htp hn5 hb5 hbw hres h3
  by_cases hall : ON = true ∧ wh = true ∧ tx = true
  · obtain ⟨rfl, rfl, rfl⟩ := hall
    have HON := Lib.hid (show (match getJ kLabels j with
      | none => some ⟨n, 0, [], T⟩
      | some x => match labsJ x with
        | none => none
        | some L => some ⟨n, 0, L, T⟩) = X by rw [HONE.out, if_pos ⟨rfl, rfl, rfl⟩, ← HTT.out])
    clear HONE
    go_upto_region 8 with (go_at_call 58; refine CO6.mono ?_; rintro e w7 ⟨rfl, hb7⟩)
    have h7 := h6.trans (hb7.mono h6.size)
    have hs7 := block_on hb7 hs6
    have hn7 := block_on hb7 hn6
    have C3'' := C3'.out w7 h7
    clear CO6 hs6 hn6 h6 hb7
    go_upto_region 9 with (go_at_call 16; refine C3''.mono ?_; rintro e w8 ⟨ub, rfl, hrb, hb8⟩)
    have h8 := h7.trans (hb8.mono h7.size)
    have hs8 := block_on hb8 hs7
    have hn8 := block_on hb8 hn7
    clear C3'' hs7 hn7 h7 hb8
    cases hg : getJ kLabels j with
    | none =>
      have hXX := HON.out
      rw [hg] at hXX
      have hX2 : some (⟨n, 0, [], T⟩ : Rec) = X := hXX
      rw [show (none : Option J).isSome = false from rfl]
      clear hXX HON hrb
      go_upto_region 12 with fail
      obtain ⟨c0, c1, c2, c3, -, -, -, -⟩ := cells4 hn8
      obtain ⟨e0, e1, e2, e3, g0, g1, g2, g3⟩ := cells4 hs8
      have hset := Lib.hid (set4 hs8 (.int .i64 n) (.int .u64 0) (.slice none 0 0) (.string T))
      have hend := one_end h8 hs8 (.int .i64 n) (.int .u64 0) (.slice none 0 0) (.string T)
      go_wp2
      obtain ⟨k0, k1, k2, k3, -, -, -, -⟩ := cells4 hset.out.1
      refine bodyPost_ret (v := .tuple #[recV ⟨n, 0, [], T⟩ (.slice none 0 0), .bool true]) (by simp [results, Tryz.results59, go_sem, k0, k1, k2, k3, recV]) rfl ⟨hend, ?_⟩
      rw [← hX2]
      exact ⟨_, rfl, World.ownsRow_nil _ _ _ _⟩
    | some x =>
      rw [hg] at hrb
      have hrb2 : RepJ w8 S x ub := hrb
      have hsm := get_small hg
      have CL := wire_labels x S ub w8 hrb2 (fun k hk => Nat.lt_of_lt_of_le (HS.out k hk) h8.size) (by have : (formJ (optJ (getJ kLabels j))).length ≤ 1048000 := sb; rw [hg] at this; have h' : (formJ x).length ≤ 1048000 := this; omega)
      have hXX : (match labsJ x with
        | none => none
        | some L => some (⟨n, 0, L, T⟩ : Rec)) = X := by
        have h := HON.out
        rw [hg] at h
        exact h
      rw [show (some x).isSome = true from rfl]
      clear HON hrb hrb2 hsm
      cases hL : labsJ x with
      | none =>
        have hX2 : none = X := by rw [hL] at hXX; exact hXX
        rw [hL] at CL
        clear hXX
        go_upto_region 11 with (go_at_call 96; refine CL.mono ?_; rintro e w9 ⟨hb9, rfl⟩; have hs9 := block_on hb9 hs8; have hn9 := block_on hb9 hn8; have f9 := (cells4 hn9).2.2.2.2.2.2.1; have c9 := (cells4 hn9).2.2.1)
        have h9 := h8.trans (hb9.mono h8.size)
        obtain ⟨hnA, hgA⟩ := set_labs hn9 (.slice none 0 0)
        have hsA : (w9.setCell ⟨tp, 2, none⟩ (.slice none 0 0)).heap[w.heap.size]? = _ := (hgA.block w.heap.size (Nat.lt_of_lt_of_le hrp (Nat.le_of_lt (Array.getElem?_eq_some_iff.1 hn9).1)) (fun e => by cases e; omega)).trans hs9
        have hA := h9.grown hgA h9.size (fun k hk => by cases hk; omega)
        generalize w9.setCell ⟨tp, 2, none⟩ (.slice none 0 0) = w10 at *
        obtain ⟨c0, c1, c2, c3, -, -, -, -⟩ := cells4 hnA
        obtain ⟨e0, e1, e2, e3, g0, g1, g2, g3⟩ := cells4 hsA
        have hset := Lib.hid (set4 hsA (.int .i64 n) (.int .u64 0) (.slice none 0 0) (.string T))
        have hend := one_end hA hsA (.int .i64 n) (.int .u64 0) (.slice none 0 0) (.string T)
        go_wp2
        obtain ⟨k0, k1, k2, k3, -, -, -, -⟩ := cells4 hset.out.1
        refine bodyPost_ret (v := .tuple #[recV ⟨n, 0, [], T⟩ (.slice none 0 0), .bool false]) (by simp [results, Tryz.results59, go_sem, k0, k1, k2, k3, recV]) rfl ⟨hend, ?_⟩
        rw [← hX2]
        exact ⟨_, _, _, _, rfl⟩
      | some L =>
        have hX2 : some (⟨n, 0, L, T⟩ : Rec) = X := by rw [hL] at hXX; exact hXX
        rw [hL] at CL
        clear hXX
        go_upto_region 11 with (go_at_call 96; refine CL.mono ?_; rintro e w9 ⟨hb9, u9, rfl, ho9⟩; have HO9 := Lib.hid ho9; obtain ⟨va, vc, rfl⟩ := owns_slice ho9; have hs9 := block_on hb9 hs8; have hn9 := block_on hb9 hn8; have f9 := (cells4 hn9).2.2.2.2.2.2.1; have c9 := (cells4 hn9).2.2.1; clear ho9)
        have h9 := h8.trans (hb9.mono h8.size)
        obtain ⟨hnA, hgA⟩ := set_labs hn9 (.slice va L.length vc)
        have hsA : (w9.setCell ⟨tp, 2, none⟩ (.slice va L.length vc)).heap[w.heap.size]? = _ := (hgA.block w.heap.size (Nat.lt_of_lt_of_le hrp (Nat.le_of_lt (Array.getElem?_eq_some_iff.1 hn9).1)) (fun e => by cases e; omega)).trans hs9
        have hA := h9.grown hgA h9.size (fun k hk => by cases hk; omega)
        have htl := (Array.getElem?_eq_some_iff.1 hn8).1
        have hoA := own_kept HO9.out hgA (fun k hk => by cases hk; exact htl)
        have HOA := Lib.hid hoA
        clear hoA
        generalize w9.setCell ⟨tp, 2, none⟩ (.slice va L.length vc) = w10 at *
        obtain ⟨c0, c1, c2, c3, -, -, -, -⟩ := cells4 hnA
        obtain ⟨e0, e1, e2, e3, g0, g1, g2, g3⟩ := cells4 hsA
        have hset := Lib.hid (set4 hsA (.int .i64 n) (.int .u64 0) (.slice va L.length vc) (.string T))
        have hend := one_end hA hsA (.int .i64 n) (.int .u64 0) (.slice va L.length vc) (.string T)
        go_wp2
        obtain ⟨k0, k1, k2, k3, -, -, -, -⟩ := cells4 hset.out.1
        refine bodyPost_ret (v := .tuple #[recV ⟨n, 0, L, T⟩ (.slice va L.length vc), .bool true]) (by simp [results, Tryz.results59, go_sem, k0, k1, k2, k3, recV]) rfl ⟨hend, ?_⟩
        rw [← hX2]
        exact ⟨_, rfl, owns_base (own_kept HOA.out hset.out.2 (fun k hk => by cases hk; exact Nat.lt_of_lt_of_le hrp (Nat.le_of_lt htl))) h8.size⟩
  · have hX2 : none = X := by rw [HONE.out, if_neg hall]
    have h3 : (ON = false) ∨ (ON = true ∧ wh = false) ∨ (ON = true ∧ wh = true ∧ tx = false) := by
      cases ON <;> cases wh <;> cases tx <;> simp at hall ⊢
    clear hall HONE
    rcases h3 with rfl | ⟨rfl, rfl⟩ | ⟨rfl, rfl, rfl⟩
    all_goals
      go_upto_region 7 with (go_at_call 58; refine CO6.mono ?_; rintro e w7 ⟨rfl, hb7⟩)
      have h7 := h6.trans (hb7.mono h6.size)
      have hs7 := block_on hb7 hs6
      have hn7 := block_on hb7 hn6
      obtain ⟨c0, c1, c2, c3, -, -, -, -⟩ := cells4 hn7
      obtain ⟨e0, e1, e2, e3, g0, g1, g2, g3⟩ := cells4 hs7
      have hset := Lib.hid (set4 hs7 (.int .i64 n) (.int .u64 0) (.slice none 0 0) (.string T))
      have hend := one_end h7 hs7 (.int .i64 n) (.int .u64 0) (.slice none 0 0) (.string T)
      clear CO6 hs6 hn6 h6 hb7
      go_wp2
      obtain ⟨k0, k1, k2, k3, -, -, -, -⟩ := cells4 hset.out.1
      refine bodyPost_ret (v := .tuple #[recV ⟨n, 0, [], T⟩ (.slice none 0 0), .bool false]) (by simp [results, Tryz.results59, go_sem, k0, k1, k2, k3, recV]) rfl ⟨hend, ?_⟩
      rw [← hX2]
      exact ⟨_, _, _, _, rfl⟩
end Go.Proofs.YtljnbbdhmlfhjaaGreatDoor
/-
  strconv.FormatUint at base 10; wire.number.
-/
namespace Go.Proofs.YtljnbbdhmlfhjaaGreatDoor
open Go.RowKit Go.Sort
theorem holds_zero0 (w : World) (T : TypeId) (nd : Nat) (hs : nd ≤ 24) : Holds (fun (b : UInt8) => Value.int .u8 (b.toNat : Int)) (w.alloc (.cells Lib.zeros24 T)) w.heap.size 0 (Array.replicate nd (0 : UInt8)) := fun j hj => by
  have hj' : j < nd := by simpa using hj
  refine ⟨?_, World.frozen?_alloc_new _ _ _ _⟩
  rw [World.cell?_alloc_new, Lib.zeros24_at _ (by omega), getElem!_pos _ j hj]
  simp
theorem fin_pos0 (w : World) (o : Obj) (dk : Array UInt8) (k : Nat) : ∃ os, (putRow (fun (b : UInt8) => Value.int .u8 (b.toNat : Int)) (w.alloc o) w.heap.size 0 dk).drewN k = grow (w.drewN k) os := by
  rw [alloc_eq_grow]
  obtain ⟨os', _, e⟩ := putRow_grow_new (fun (b : UInt8) => Value.int .u8 (b.toNat : Int)) w #[o] w.heap.size 0 dk (Nat.le_refl _)
  exact ⟨os', by rw [e]; rfl⟩
theorem below_grownJ (w : World) (k : Nat) (os : Array Obj) : Below w.heap.size w (Go.Sort.grow (w.drewN k) os) := by
  refine ⟨rfl, rfl, rfl, by simp [Go.Sort.grow, World.drewN], fun i hi => ?_⟩
  simp only [Go.Sort.grow, World.drewN]
  rw [Array.getElem?_append_left hi]
set_option maxHeartbeats 6400000 in
set_option maxRecDepth 100000 in
theorem int_FormatUint (u : Nat) (hu64 : u < 18446744073709551616) (w : World) (htab : Lib.TabIs Tryz.prog w "internal/strconv.uint64pow10" .u64 Lib.pow10Tab) :
    Calls Tryz.prog 107 #[.int .u64 u, .int .i64 10] w fun e w' => e = .returned (.string ⟨(Lib.decDigits u).toArray⟩) ∧ Below w.heap.size w w' := by
  by_cases hs : u < 100
  · have d1 : decide ((u : Int) < 100) = true := decide_eq_true (by omega)
    have hw : IntKind.i64.wrap (u : Int) = (u : Int) := by rw [IntKind.wrap_i64]; omega
    have C1 := Tryz.internal_strconv_small u hs w
    go_enter Tryz.func107, Tryz.ntmps107
    go_wp2_with (go_at_call 136; refine C1.mono ?_; rintro e w' ⟨rfl, rfl⟩)
    go_ret
    exact ⟨rfl, Below.refl _ _⟩
  · have d1 : decide ((u : Int) < 100) = false := decide_eq_false (by omega)
    have hu1 : 1 ≤ u := by omega
    have hnd20 : Lib.nDigits u ≤ 20 := Lib.nDigits_le20 u hu64
    have hal : Tryz.prog.arrayLen 191 = 24 := by kernel_rfl
    have hsl1 : ∀ W, (Instr.sliceAt 191 (.pointer (some ⟨w.heap.size, 0, none⟩)) none (some (.int .i64 (Lib.nDigits u : Int))) none).run Tryz.prog W = .ok (.slice (some ⟨w.heap.size, 0, none⟩) (Lib.nDigits u) 24) W := fun W => by
      rw [run_sliceAt_array_h W 191 ⟨w.heap.size, 0, none⟩ (by kernel_rfl) .i64 (Lib.nDigits u : Int) (by omega) (by rw [hal]; omega)]
      go_simp
    have hH0 := holds_zero0 w 191 (Lib.nDigits u) (by omega)
    have hfmt := Tryz.internal_strconv_formatBase10 w.heap.size 0 24 u (Array.replicate (Lib.nDigits u) 0) (w.alloc (.cells Lib.zeros24 191)) hH0 (by rw [Array.size_replicate]; exact Lib.lt_pow_nDigits u) hu64 (by rw [Array.size_replicate]; omega)
    rw [Array.size_replicate] at hfmt
    have CD := Tryz.internal_strconv_numDigits u hu1 hu64 _ (Lib.tabIs_alloc htab (.cells Lib.zeros24 191))
    have HH0 := Lib.hid hH0
    clear hH0 hal htab hnd20
    obtain ⟨nd, hnd⟩ : ∃ nd, Lib.nDigits u = nd := ⟨_, rfl⟩
    have HND := Lib.hid hnd
    rw [hnd] at hsl1 hfmt CD HH0
    clear hnd
    go_enter Tryz.func107, Tryz.ntmps107
    go_upto_region 6 with (go_at_call 137; refine CD.mono ?_; rintro e w' ⟨rfl, rfl⟩)
    go_upto_region 7 with (go_at_call 138; refine hfmt.mono ?_; rintro e w' ⟨rfl, k, v', dk, rfl, hF⟩)
    have hcv : (convert 22 9 (.slice (some ⟨w.heap.size, 0, none⟩) nd 24)).run Tryz.prog ((putRow (fun (b : UInt8) => Value.int .u8 (b.toNat : Int)) (w.alloc (.cells Lib.zeros24 191)) w.heap.size 0 dk).drewN k) = .ok (.string ⟨(Lib.decDigits u).toArray⟩) ((putRow (fun (b : UInt8) => Value.int .u8 (b.toNat : Int)) (w.alloc (.cells Lib.zeros24 191)) w.heap.size 0 dk).drewN k) := by
      rw [← HND.out] at hF HH0 ⊢
      have h := run_convert_bytes_back (P := Tryz.prog) ((putRow (fun (b : UInt8) => Value.int .u8 (b.toNat : Int)) (w.alloc (.cells Lib.zeros24 191)) w.heap.size 0 dk).drewN k) 22 9 5 ⟨w.heap.size, 0, none⟩ 24 (Lib.decDigits u) Tryz.underlying22 Tryz.underlying5 Tryz.underlying9 (fun j hj => by
        rw [Lib.row_is_numeral hF j hj, Lib.add_plain, World.cell?_drewN]
        exact cell?_putRow (fun (b : UInt8) => Value.int .u8 (b.toNat : Int)) _ w.heap.size 0 _ dk HH0.out (by rw [hF.size, Array.size_replicate]) j (by rw [hF.size]; rw [Lib.decDigits_length] at hj; exact hj))
      rw [Lib.decDigits_length] at h
      exact h
    have HE := Lib.hid (fin_pos0 w (.cells Lib.zeros24 191) dk k)
    clear hF hfmt CD
    go_wp2
    go_ret
    obtain ⟨os, eo⟩ := HE.out
    exact ⟨rfl, by rw [eo]; exact below_grownJ w k os⟩
theorem fmt_uint (u : Nat) (hu64 : u < 18446744073709551616) (w : World) (hT : T23 w) :
    Calls Tryz.prog 73 #[.int .u64 u, .int .i64 10] w fun e w' => e = .returned (.string ⟨(Lib.decDigits u).toArray⟩) ∧ Below w.heap.size w w' := by
  have C1 := int_FormatUint u hu64 w hT.p10.here
  clear hT
  go_enter Tryz.func73, Tryz.ntmps73
  go_wp2_with (go_at_call 107; refine C1.mono ?_; rintro e w' ⟨rfl, hb⟩)
  go_ret
  exact ⟨rfl, hb⟩
theorem wire_number (n : Int) (h0 : -9223372036854775808 ≤ n) (h1 : n ≤ 9223372036854775807) (w : World) (hT : T23 w) :
    Calls Tryz.prog 57 #[.int .i64 n] w fun e w' => e = .returned (.string ⟨(Lib.itoa n).toArray⟩) ∧ Below w.heap.size w w' := by
  have C1 : Calls Tryz.prog 93 #[.int .i64 n, .int .i64 10] w fun e w' => e = .returned (.string ⟨(Lib.itoa n).toArray⟩) ∧ Below w.heap.size w w' :=
    (Tryz.strconv_FormatInt_10 n h0 h1 w hT.p10.here).mono fun e w' ⟨he, k, os, hw⟩ => ⟨he, by rw [hw]; exact below_grownJ w k os⟩
  clear hT
  go_enter Tryz.func57, Tryz.ntmps57
  go_wp2_with (go_at_call 93; refine C1.mono ?_; rintro e w' ⟨rfl, hb⟩)
  go_ret
  exact ⟨rfl, hb⟩
end Go.Proofs.YtljnbbdhmlfhjaaGreatDoor
/-
  wire.records.
-/
namespace Go.Proofs.YtljnbbdhmlfhjaaGreatDoor
open Go.RowKit
theorem one_small {j : J} {r : Rec} (h : oneJ j = some r) : (r.labs.map fun x : Lab => x.1.size + x.2.size + 1).sum ≤ (formJ j).length ∧ r.line.size ≤ (formJ j).length := by
  have hline : (toB (textJ (optJ (getJ kLine j))).1).size ≤ (formJ j).length := by
    cases hg : getJ kLine j with
    | none => exact Nat.zero_le _
    | some x =>
      have := get_small hg
      cases x with
      | str s =>
        have hq := quote_ge s
        have e : (formJ (.str s)).length = (quote s).length := rfl
        show (toB s).size ≤ _
        have e2 : (toB s).size = s.length := by simp [toB, ByteArray.size]
        omega
      | _ => exact Nat.zero_le _
  unfold oneJ at h
  split at h
  · split at h
    · cases h
      exact ⟨Nat.zero_le _, hline⟩
    · rename_i x hx
      split at h
      · cases h
      · rename_i L hL
        cases h
        exact ⟨Nat.le_trans (labs_small hL) (get_small hx), hline⟩
  · cases h
theorem sum_len (L : List Lab) : L.length ≤ (L.map fun x : Lab => x.1.size + x.2.size + 1).sum := by
  induction L with
  | nil => exact Nat.le_refl _
  | cons x L ih => simp only [List.length_cons, List.map_cons, List.sum_cons]; omega
theorem sum_one {α : Type} (f : α → Nat) : ∀ l : List α, l.length ≤ (l.map fun x => f x + 1).sum
  | [] => Nat.le_refl _
  | x :: l => by
    have := sum_one f l
    simp only [List.length_cons, List.map_cons, List.sum_cons]
    omega
theorem one_at {j : J} {r : Rec} {w : World} {B : Nat} {lv : Value} (h : oneJ j = some r) (hl : (formJ j).length ≤ 1048000) (ho : w.ownsRow B 55 2 lv r.labs.length (labCells r.labs)) : RecAt w lv r := by
  obtain ⟨h1, h2⟩ := one_small h
  refine ⟨LRow_own ho, fun x hx => ?_, ?_, by omega⟩
  · have := sum_mem (fun x : Lab => x.1.size + x.2.size + 1) hx
    try simp only at this
    omega
  · have := sum_len r.labs
    omega
def preRs (A : List Rec) : Option (List Rec) → Option (List Rec)
  | none => none
  | some B => some (A ++ B)
theorem preRs_nil (o : Option (List Rec)) : preRs [] o = o := by cases o <;> rfl
theorem ones_no {x : J} {l : List J} (h : oneJ x = none) : onesL (x :: l) = none := by simp only [onesL, h]
theorem ones_yes {x : J} {l : List J} {r : Rec} (A : List Rec) (h : oneJ x = some r) : preRs A (onesL (x :: l)) = preRs (A ++ [r]) (onesL l) := by
  simp only [onesL, h]
  cases onesL l <;> simp [preRs]
theorem repL_at {w : World} {S : Nat → Prop} : ∀ {l : List J} {vs : List Value}, RepL w S l vs → ∀ {k : Nat} (hk : k < l.length) (hv : k < vs.length), RepJ w S l[k] vs[k]
  | x :: l, vs, h, 0, _, hv => by
    obtain ⟨v, vs', rfl, h1, -⟩ := h
    exact h1
  | x :: l, vs, h, k + 1, hk, hv => by
    obtain ⟨v, vs', rfl, -, h2⟩ := h
    exact repL_at h2 (by simpa using hk) (by simpa using hv)
def RecsR (w : World) (o : Option (List Rec)) (e : Ending) (w' : World) : Prop :=
  Below w.heap.size w w' ∧ match o with
    | none => e = .returned (.tuple #[.slice none 0 0, .bool false])
    | some R => ∃ v Z, e = .returned (.tuple #[v, .bool true]) ∧ ROwn w' w.heap.size v Z ∧ Z.map Prod.fst = R
theorem ROwn.base {w : World} {A B : Nat} {v : Value} {Z : List RecL} (h : ROwn w B v Z) (hA : A ≤ B) : ROwn w A v Z :=
  ⟨owns_base h.own hA, fun z hz => ⟨owns_base (h.labs z hz).1 hA, (h.labs z hz).2⟩⟩
set_option maxRecDepth 100000 in
set_option maxHeartbeats 40000000 in
theorem wire_records (j : J) (S : Nat → Prop) (v : Value) (w : World) (hT : T23 w) (hr : RepJ w S j v) (hS : ∀ k, S k → k < w.heap.size) (hl : (formJ j).length ≤ 1048000) :
    Calls Tryz.prog 27 #[v] w (RecsR w (recsJ j)) := by
  have CG := get_opt kRecords j S v w hr hS (by omega)
  have CO := Lib.hid (fun (nv : Value) (W : World) (hW : Below w.heap.size w W) (hn : argRow W nv [kRecords].length 1 ([kRecords].map strV)) => wire_only j S v nv [kRecords] W (hr.low hS hW) (fun k hk => Nat.lt_of_lt_of_le (hS k hk) hW.size) (by omega) hn (by simp) (by decide))
  have hrecs : recsJ j = if onlyB [kRecords] j = true ∧ (getJ kRecords j).isSome = true ∧ (itemsJ (optJ (getJ kRecords j))).2 = true then onesL (itemsJ (optJ (getJ kRecords j))).1 else none := rfl
  have sr := opt_small kRecords j hl
  obtain ⟨X, hX⟩ : ∃ X, recsJ j = X := ⟨_, rfl⟩
  rw [hX] at hrecs ⊢
  have CO2 := CO.out
  obtain ⟨ON, hON⟩ : ∃ ON, onlyB [kRecords] j = ON := ⟨_, rfl⟩
  obtain ⟨sm, hsm⟩ : ∃ g, (getJ kRecords j).isSome = g := ⟨_, rfl⟩
  obtain ⟨g, hg⟩ : ∃ g, optJ (getJ kRecords j) = g := ⟨_, rfl⟩
  rw [hON] at hrecs CO2
  rw [hsm] at hrecs CG
  rw [hg] at hrecs CG sr
  have HCO := Lib.hid CO2
  have CI := Lib.hid (fun (u : Value) (W : World) (hW : Below w.heap.size w W) (h : RepJ W S g u) => js_Items g S u W h (fun k hk => Nat.lt_of_lt_of_le (hS k hk) hW.size) (by omega))
  obtain ⟨⟨l, ls⟩, hit⟩ : ∃ x, itemsJ g = x := ⟨_, rfl⟩
  have hls : (ls = true → ∀ x ∈ l, (formJ x).length ≤ 1048000) ∧ l.length ≤ 1048000 := by
    cases g with
    | arr l' =>
      obtain ⟨rfl, rfl⟩ := Prod.mk.inj hit
      refine ⟨fun _ x hx => ?_, ?_⟩
      · have := item_small hx
        omega
      · have h1 := formL_ge l'
        have h2 := sum_one (fun x : J => (formJ x).length) l'
        simp only [formJ, List.length_cons, List.length_append, List.length_nil] at sr
        omega
    | _ => obtain ⟨rfl, rfl⟩ := Prod.mk.inj hit; exact ⟨fun h => (by cases h), by simp⟩
  rw [hit] at CI hrecs
  have HRECS := Lib.hid hrecs
  have HLOW := Lib.hid (fun (x : J) (u : Value) (W W' : World) (hW : Below w.heap.size w W) (hb : Below W.heap.size W W') (h : RepJ W S x u) => h.low (B := W.heap.size) (fun k hk => Nat.lt_of_lt_of_le (hS k hk) hW.size) hb)
  have H1 := Lib.hid (fun (x : J) (u : Value) (W : World) (hW : Below w.heap.size w W) (h : RepJ W S x u) (hx : (formJ x).length ≤ 1048000) => wire_one x S u W (hT.to hW) h (fun k hk => Nat.lt_of_lt_of_le (hS k hk) hW.size) hx)
  have HLS := Lib.hid hls.1
  have hln := hls.2
  clear hrecs CO CO2 hX hON hsm hg hit hT hr hS hl hls sr
  go_enter Tryz.func27, Tryz.ntmps27
  go_upto_region 2 with (go_at_call 16; refine CG.mono ?_; rintro e w1 ⟨ug, rfl, hrg, hb1⟩)
  have CI' := CI.out ug w1 hb1 hrg
  clear CG CI
  go_upto_region 3 with (go_at_call 17; refine CI'.mono ?_; rintro e w2 ⟨uv, vs, rfl, ho2, hrl2, hb2⟩; have HO2 := Lib.hid (And.intro ho2 hrl2); obtain ⟨ia, ic, rfl⟩ := owns_slice ho2; clear ho2 hrl2)
  have h2 := hb1.trans (hb2.mono hb1.size)
  have h3 := belowAJ (o := .cells #[.string ⟨#[114, 101, 99, 111, 114, 100, 115]⟩] 9) h2 h2.size
  have hb3 := belowAJ (o := .cells #[.string ⟨#[114, 101, 99, 111, 114, 100, 115]⟩] 9) (Below.refl w2.heap.size w2) (Nat.le_refl _)
  have CO3 : Calls Tryz.prog 58 #[v, .slice (some ⟨w2.heap.size, 0, none⟩) 1 1] (w2.alloc (.cells #[.string ⟨#[114, 101, 99, 111, 114, 100, 115]⟩] 9)) fun e w' => e = .returned (.bool ON) ∧ Below (w2.alloc (.cells #[.string ⟨#[114, 101, 99, 111, 114, 100, 115]⟩] 9)).heap.size (w2.alloc (.cells #[.string ⟨#[114, 101, 99, 111, 114, 100, 115]⟩] 9)) w' := HCO.out _ _ h3 (rows1 w2 kRecords)
  clear CI' hrg
  by_cases hall : ON = true ∧ sm = true ∧ ls = true
  · obtain ⟨rfl, rfl, rfl⟩ := hall
    have HX := Lib.hid (show preRs [] (onesL l) = X by rw [preRs_nil, HRECS.out, if_pos ⟨rfl, rfl, rfl⟩])
    have HLS2 := Lib.hid (HLS.out rfl)
    clear HRECS HLS
    go_upto_region 5 with (go_at_call 58; refine CO3.mono ?_; rintro e w3 ⟨rfl, hb4⟩)
    have h4 := h3.trans (hb4.mono h3.size)
    have hb24 := hb3.trans (hb4.mono hb3.size)
    have hrow := argRow_below (argRow_owns HO2.out.1) hb24
    have hrep := HLOW.out
    have HREP := Lib.hid (show RepL w3 S l vs from by
      have hS' : ∀ k, S k → S k ∧ (k < w2.heap.size → w3.heap[k]? = w2.heap[k]?) := fun k hk => ⟨hk, fun hk2 => hb24.block k hk2⟩
      exact RepL.to hS' l vs HO2.out.2)
    have HROW := Lib.hid hrow
    have HB4 := Lib.hid h4
    have hvl := repL_len HREP.out
    have HVL := Lib.hid hvl
    clear CO3 hrow hb4 hb24 h3 hb3 h4 h2 hb2 hb1 hrep hvl HO2
    obtain ⟨n, hn⟩ : ∃ n, l.length = n := ⟨_, rfl⟩
    have HN := Lib.hid hn
    have hnn : n ≤ 1048000 := by omega
    rw [hn] at HROW ⊢
    clear hn hln
    go_wp2
    go_loopw [8, 37] (fun ov iv wr => ∃ (k : Nat) (Z : List RecL), iv = .int .i64 k ∧ k ≤ n ∧ Z.length = k ∧ ROwn wr w3.heap.size ov Z ∧ preRs (Z.map Prod.fst) (onesL (l.drop k)) = X ∧ Below w3.heap.size w3 wr) (fun _ iv _ => n - (intOf iv).toNat)
    case atStart => exact ⟨0, [], rfl, by omega, rfl, ROwn.nil _ _, HX.out, Below.refl _ _⟩
    case round =>
      obtain ⟨k, Z, rfl, hk, hZk, ho, hx, hb⟩ := hrel
      have HZK := Lib.hid hZk
      have hbb := HB4.out.trans (hb.mono HB4.out.size)
      have hsz := hb.size
      have HO := Lib.hid ho
      have HX2 := Lib.hid hx
      have HB := Lib.hid hb
      have hoo := ho.own
      rw [hZk] at hoo
      obtain ⟨va, vc, rfl⟩ := owns_slice hoo
      clear ho hx hZk
      by_cases hkl : k < n
      · have hil : k < l.length := by rw [HN.out]; exact hkl
        have d1 : decide ((k : Int) < (n : Int)) = true := decide_eq_true (by omega)
        have hkv : k < vs.length := by rw [HVL.out]; exact hil
        obtain ⟨hrl, ra, rc, re, hrc1, hrc2, hrc3⟩ := argRow_below HROW.out hb
        cases re
        obtain ⟨b, off, rfl, hbl, hcs⟩ := hrc3 (by omega)
        have hc := hcs k hkv
        have hu := HLOW.out _ _ _ _ HB4.out hb (repL_at HREP.out hil hkv)
        obtain ⟨u, hu0⟩ : ∃ u, vs[k] = u := ⟨_, rfl⟩
        rw [hu0] at hc hu
        have hk' := u_kind hu
        have C1 := H1.out _ u wr hbb hu (HLS2.out _ (List.getElem_mem hil))
        have hdr : l.drop k = l[k] :: l.drop (k + 1) := List.drop_eq_getElem_cons hil
        have hx := HX2.out
        rw [hdr] at hx
        have hsx := HLS2.out _ (List.getElem_mem hil)
        clear hu hu0 hdr hcs hrc1 hrc2 hrc3 hrl
        obtain ⟨x, hxx⟩ : ∃ x, l[k] = x := ⟨_, rfl⟩
        rw [hxx] at hx C1 hsx
        clear hxx
        cases h1 : oneJ x with
        | none =>
          obtain rfl : X = none := by rw [← hx, ones_no h1]; rfl
          rw [h1] at C1
          clear hx HX2 HX
          rcases hk' with rfl | ⟨T, y, rfl⟩
          all_goals
            go_wp2_with (go_at_call 59; refine C1.mono ?_; rintro e w5 ⟨hb5, rr, aa, an, ac, rfl⟩; unfold recV)
            go_ret2
            exact ⟨hbb.trans ((belowAJ hb5 hb5.size).mono hbb.size), rfl⟩
        | some r =>
          rw [ones_yes _ h1] at hx
          have HX3 := Lib.hid hx
          rw [h1] at C1
          have H1S := Lib.hid (fun (W : World) (lv : Value) (ho : W.ownsRow wr.heap.size 55 2 lv r.labs.length (labCells r.labs)) => one_at h1 hsx ho)
          clear hx HX2 HX h1 hsx
          rcases hk' with rfl | ⟨T, y, rfl⟩
          all_goals
            go_upto_region 10 with (go_at_call 59; refine C1.mono ?_; rintro e w5 ⟨hb5, lv, rfl, ho5⟩; have HO5 := Lib.hid ho5; obtain ⟨la, lc, rfl⟩ := owns_slice ho5; unfold recV; clear ho5)
            have hb6 := belowAJ (o := .cells #[.int .i64 r.time, .int .u64 (r.seq : Int), .slice la r.labs.length lc, .string r.line] 34) (Below.refl w5.heap.size w5) (Nat.le_refl _)
            have hn6 := heap_alloc_new w5 (.cells #[.int .i64 r.time, .int .u64 (r.seq : Int), .slice la r.labs.length lc, .string r.line] 34)
            have hown6 := (HO.out.keptB hb5).keptB hb6
            have hlab6 := owns_below HO5.out hb6
            have hbw6 := hb.trans ((hb5.trans (hb6.mono hb5.size)).mono hb.size)
            obtain ⟨c0, c1, c2, c3, -, -, -, -⟩ := cells4 hn6
            have HR6 := Lib.hid (H1S.out _ _ HO5.out)
            clear hn6 C1
            generalize w5.alloc (.cells #[.int .i64 r.time, .int .u64 (r.seq : Int), .slice la r.labs.length lc, .string r.line] 34) = w6 at *
            have hoo6 := hown6.own
            rw [HZK.out] at hoo6
            have HH6 := Lib.hid (And.intro hown6 (And.intro (owns_base hlab6 hsz) (HR6.out.below hb6)))
            have hsz6 := hbw6.size
            clear hown6 hlab6 hb6 HR6 hb5
            go_wp2_with (at_builtin; go_loud (refine wpList_append_src rfl _ _ _ _ rfl w3.heap.size ER _ k (recsCells Z) rfl (hoo6.alloc _) _ 1 (recCells (r, .slice la r.labs.length lc)) rfl (by exact src_last (cs := (recCells (r, .slice la r.labs.length lc)).toArray) Tryz.underlying24 1 1 4 rfl rfl (by simp [recCells, Value.oneCell'])) (by unfold maxLen; omega) (by omega) (by simp; omega) ?_); intro v9 w9 hown9 hgr9 _ _; have H9 := Lib.hid (And.intro hown9 hgr9); clear hown9 hgr9)
            go_roundw
            case rel =>
              have hba := belowAJ (o := .cells (recCells (r, .slice la r.labs.length lc)).toArray 34) (Below.refl w6.heap.size w6) (Nat.le_refl _)
              have hz := HH6.out.2
              have hown7 := HH6.out.1.keptB hba
              have hmore := ROwn.more (z := (r, .slice la r.labs.length lc)) hown7 ⟨owns_below hz.1 hba, hz.2.below hba⟩ H9.out.2 (by rw [HZK.out]; exact H9.out.1)
              refine ⟨k + 1, Z ++ [(r, .slice la r.labs.length lc)], by go_num, by omega, by rw [List.length_append, HZK.out]; rfl, hmore, ?_, ?_⟩
              · rw [List.map_append]
                exact HX3.out
              · exact (hbw6.trans (hba.mono hbw6.size)).grown H9.out.2 (by have := hba.size; omega) (fun k hk => (HH6.out.1.own.lt k hk).1)
            case measure => simp [intOf]; omega
      · have d1 : decide ((k : Int) < (n : Int)) = false := decide_eq_false (by omega)
        have hx := HX2.out
        rw [List.drop_of_length_le (by rw [HN.out]; omega)] at hx
        obtain rfl : X = some (Z.map Prod.fst) := by rw [← hx]; simp [onesL, preRs]
        clear hx HX2 HX
        go_wp2
        go_ret2
        exact ⟨hbb, _, Z, rfl, HO.out.base HB4.out.size, rfl⟩
  · have hX2 : X = none := by rw [HRECS.out, if_neg hall]
    subst hX2
    have h5 : (ON = false) ∨ (ON = true ∧ sm = false) ∨ (ON = true ∧ sm = true ∧ ls = false) := by
      cases ON <;> cases sm <;> cases ls <;> simp at hall ⊢
    clear hall HRECS
    rcases h5 with rfl | ⟨rfl, rfl⟩ | ⟨rfl, rfl, rfl⟩
    all_goals
      go_wp2_with (go_at_call 58; refine CO3.mono ?_; rintro e w7 ⟨rfl, hb7⟩)
      go_ret2
      exact ⟨h3.trans (hb7.mono h3.size), rfl⟩
end Go.Proofs.YtljnbbdhmlfhjaaGreatDoor
/-
  wire.Push.
-/
namespace Go.Proofs.YtljnbbdhmlfhjaaGreatDoor
open Go.RowKit
theorem recsCells_set : ∀ (Z : List RecL) (k : Nat) (h : k < Z.length) (r : Rec) (u : Value), r.time = Z[k].1.time → r.seq = Z[k].1.seq → r.line = Z[k].1.line → (recsCells Z).set (k * 4 + 2) u = recsCells (Z.set k (r, u))
  | x :: Z, 0, _, r, u, h1, h2, h3 => by
    simp only [List.getElem_cons_zero] at h1 h2 h3
    show (recCells x ++ recsCells Z).set 2 u = recCells (r, u) ++ recsCells Z
    unfold recCells
    rw [h1, h2, h3]
    rfl
  | x :: Z, k + 1, h, r, u, h1, h2, h3 => by
    have ih := recsCells_set Z k (by simpa using h) r u (by simpa using h1) (by simpa using h2) (by simpa using h3)
    show (recCells x ++ recsCells Z).set ((k + 1) * 4 + 2) u = recCells x ++ recsCells (Z.set k (r, u))
    rw [← ih, show (k + 1) * 4 + 2 = (k * 4 + 2) + 4 from by omega]
    rfl
theorem set_next {α : Type} (A B : List α) (x y : α) {k : Nat} (h : A.length = k) : (A ++ x :: B).set k y = A ++ y :: B := by
  subst h
  simp
theorem mem_set {α : Type} {l : List α} {k : Nat} {x y : α} (h : y ∈ l.set k x) : y = x ∨ y ∈ l := by
  rcases List.mem_or_eq_of_mem_set h with h | h
  · exact .inr h
  · exact .inl h
/-- A record's labels laid anew. -/
theorem ROwn.laid {w : World} {B g n c k : Nat} {Z : List RecL} {r : Rec} {u : Value} (h : ROwn w B (.slice (some ⟨g, 0, none⟩) n c) Z) (hn : Z.length = n) (hk : k < Z.length) (h1 : r.time = Z[k].1.time) (h2 : r.seq = Z[k].1.seq) (h3 : r.line = Z[k].1.line)
    (hu : w.ownsRow B 55 2 u r.labs.length (labCells r.labs)) (hr : RecAt w u r) :
    ROwn (w.setCell ⟨g, k * 4 + 2, none⟩ u) B (.slice (some ⟨g, 0, none⟩) n c) (Z.set k (r, u)) ∧ w.grownBy (w.setCell ⟨g, k * 4 + 2, none⟩ u) (some g) := by
  have ho := h.own
  rw [hn] at ho
  obtain ⟨s1, s2⟩ := ho.stored (k * 4 + 2) u
  refine ⟨⟨?_, fun z hz => ?_⟩, s2⟩
  · rw [List.length_set, hn, ← recsCells_set Z k hk r u h1 h2 h3]
    exact s1
  · have hz' : w.ownsRow B 55 2 z.2 z.1.labs.length (labCells z.1.labs) ∧ RecAt w z.2 z.1 := by
      rcases mem_set hz with rfl | hz
      · exact ⟨hu, hr⟩
      · exact h.labs z hz
    have hk1 : (w.setCell ⟨g, k * 4 + 2, none⟩ u).ownsRow B 55 2 z.2 z.1.labs.length (labCells z.1.labs) := hz'.1.kept s2 (by
      cases hv : z.2.ownBlock with
      | none => exact .inl rfl
      | some j => exact .inr fun e => own_apart hz'.1 h.own (by decide) hv (by first | exact e.symm | exact e))
    exact ⟨hk1, LRow_own hk1, hz'.2.2⟩
theorem insAll_mem {L : List Lab} {x : Lab} (h : x ∈ canonL L) : x ∈ L ∧ canonE L = 0 := by
  unfold canonL at h
  split at h
  · rename_i h0
    exact ⟨(insAll_perm L).mem_iff.1 h, h0⟩
  · simp at h
theorem canon_at {w : World} {r : Rec} {u lv : Value} (h : RecAt w lv r) (hu : LRow w u (canonL r.labs)) : RecAt w u (canR r) := by
  obtain ⟨-, h2, h3, h4⟩ := h
  refine ⟨hu, fun x hx => h2 x (insAll_mem hx).1, ?_, h4⟩
  show (canonL r.labs).length ≤ _
  unfold canonL
  split
  · rw [(insAll_perm r.labs).length_eq]
    exact h3
  · simp
theorem canon_calls (lv : Value) (L : List Lab) (W : World) (hL : LRow W lv L) (hT : Tabs W) (hs : ∀ x ∈ L, x.1.size ≤ 1000000000 ∧ x.2.size ≤ 1000000000) (hn : L.length ≤ 1048576) :
    Calls Tryz.prog 28 #[lv] W fun e w' => ∃ v, e = .returned (.tuple #[v, .int .i64 (canonE L)]) ∧ w'.ownsRow W.heap.size 55 2 v (canonL L).length (labCells (canonL L)) ∧ Below W.heap.size W w' :=
  (label_Canon lv L W hL hT hs hn).mono fun e w' h => by
    obtain ⟨v, h1, h2⟩ := canon_end h.1
    exact ⟨v, h1, h2, h.2⟩
def PushR (w : World) (b : Bs) (e : Ending) (w' : World) : Prop :=
  ∃ v Z, e = .returned (.tuple #[v, .int .i64 (pushP b).1]) ∧ RRow w' v Z ∧ Z.map Prod.fst = (pushP b).2 ∧ Below w.heap.size w w'
theorem PushR.bad {w w' : World} {b : Bs} {E : Int} (h : pushP b = (E, [])) (hb : Below w.heap.size w w') : PushR w b (.returned (.tuple #[.slice none 0 0, .int .i64 E])) w' :=
  ⟨_, [], by rw [h], (ROwn.nil w' 0).row, by rw [h]; rfl, hb⟩
set_option maxRecDepth 100000 in
set_option maxHeartbeats 40000000 in
theorem wire_Push (v : Value) (b : Bs) (w : World) (hT : T23 w) (hv : argRow w v b.length 1 (b.map bCell)) : Calls Tryz.prog 9 #[v] w (PushR w b) := by
  have CP0 := js_Parse v b w hT.tabs hv
  have CP : Calls Tryz.prog 15 #[v] w fun e w' => ∃ u, e = .returned (.tuple #[u, .int .i64 (parseE b)]) ∧ RepJ w' (Nw w.heap.size w') (parseJ b) u ∧ Below w.heap.size w w' := CP0
  clear CP0 hv
  by_cases hE : parseE b = 0
  · obtain ⟨hl, hval, j, hdoc, hdeep, hpj, hone⟩ := parse_zero hE
    obtain ⟨hok, hlen⟩ := doc_ok hval hdoc
    have hp : pushP b = pushJ j := by
      unfold pushP
      rw [if_neg (by rw [hE]; decide), hpj]
    rw [hE, hpj] at CP
    have CR := Lib.hid (fun (u : Value) (W : World) (hW : Below w.heap.size w W) (h : RepJ W (Nw w.heap.size W) j u) => wire_records j (Nw w.heap.size W) u W (hT.to hW) h (fun k hk => hk.2) (by omega))
    have HT := Lib.hid (fun W (hW : Below w.heap.size w W) => (hT.to hW).tabs)
    clear hE hl hval hdoc hdeep hpj hone hok hlen hT
    unfold pushJ at hp
    cases hrec : recsJ j with
    | none =>
      rw [hrec] at hp CR
      simp only at hp
      have HP := Lib.hid hp
      clear hp hrec
      go_enter Tryz.func9, Tryz.ntmps9
      go_upto_region 4 with (go_at_call 15; refine CP.mono ?_; rintro e w1 ⟨u, rfl, hr1, hb1⟩; have CR1 := CR.out u w1 hb1 hr1)
      clear CP CR hr1
      go_wp2_with (go_at_call 27; refine CR1.mono ?_; rintro e w2 ⟨hb2, rfl⟩)
      go_ret2
      exact PushR.bad HP.out (hb1.trans (hb2.mono hb1.size))
    | some R =>
      rw [hrec] at hp CR
      simp only at hp
      unfold pushL at hp
      clear hrec
      by_cases hmany : R.length = 0 ∨ 64 < R.length
      · rw [if_pos hmany] at hp
        have HP := Lib.hid hp
        clear hp
        go_enter Tryz.func9, Tryz.ntmps9
        go_upto_region 4 with (go_at_call 15; refine CP.mono ?_; rintro e w1 ⟨u, rfl, hr1, hb1⟩; have CR1 := CR.out u w1 hb1 hr1)
        clear CP CR hr1
        go_upto_region 5 with (go_at_call 27; refine CR1.mono ?_; rintro e w2 ⟨hb2, lv, Z, rfl, ho2, hZ⟩)
        have hZl : Z.length = R.length := by rw [← hZ, List.length_map]
        obtain ⟨va, vc, rfl⟩ := owns_slice ho2.own
        rw [hZl]
        clear CR1 hZl hZ ho2
        obtain ⟨n, hn⟩ : ∃ n, R.length = n := ⟨_, rfl⟩
        rw [hn] at hmany ⊢
        rcases hmany with rfl | hm
        · go_wp2
          go_ret2
          exact PushR.bad HP.out (hb1.trans (hb2.mono hb1.size))
        · have d1 : ((n : Int) == 0) = false := by simp; omega
          have d2 : decide ((64 : Int) < (n : Int)) = true := decide_eq_true (by omega)
          go_wp2
          go_ret2
          exact PushR.bad HP.out (hb1.trans (hb2.mono hb1.size))
      · rw [if_neg hmany] at hp
        have hm0 : ¬ R.length = 0 := fun e => hmany (.inl e)
        have hm1 : R.length ≤ 64 := by omega
        clear hmany
        have HP := Lib.hid hp
        clear hp
        obtain ⟨E, hE⟩ : ∃ E, errRs R = E := ⟨_, rfl⟩
        rw [hE] at HP
        have HE := Lib.hid hE
        go_enter Tryz.func9, Tryz.ntmps9
        go_upto_region 4 with (go_at_call 15; refine CP.mono ?_; rintro e w1 ⟨u, rfl, hr1, hb1⟩; have CR1 := CR.out u w1 hb1 hr1)
        clear CP CR hr1 hE
        go_upto_region 5 with (go_at_call 27; refine CR1.mono ?_; rintro e w2 ⟨hb2, lv, Z, rfl, ho2, hZ⟩)
        have hb12 := hb1.trans (hb2.mono hb1.size)
        have ho2' := ho2.base hb1.size
        have hZl : Z.length = R.length := by rw [← hZ, List.length_map]
        obtain ⟨va, vc, rfl⟩ := owns_slice ho2.own
        rw [hZl] at ho2' ⊢
        have HO2 := Lib.hid ho2'
        have HZ2 := Lib.hid hZ
        obtain ⟨n, hn⟩ : ∃ n, R.length = n := ⟨_, rfl⟩
        have HN := Lib.hid hn
        rw [hn] at hm0 hm1 HO2 ⊢
        have hva : ∃ g, va = some ⟨g, 0, none⟩ := by
          rcases HO2.out.own.2 with ⟨_, h0⟩ | ⟨g, cap, cur, e, _⟩
          · omega
          · cases e
            exact ⟨g, rfl⟩
        obtain ⟨g, rfl⟩ := hva
        have HZN := Lib.hid (hZl.trans hn)
        have d1 : ((n : Int) == 0) = false := by simp; omega
        have d2 : decide ((64 : Int) < (n : Int)) = false := decide_eq_false (by omega)
        clear CR1 hZl hZ ho2 ho2' hn hb1 hb2
        go_wp2
        go_loopw [34] (fun iv wr => ∃ (k : Nat) (Zk : List RecL), iv = .int .i64 k ∧ k ≤ n ∧ Zk.length = n ∧ ROwn wr w.heap.size (.slice (some ⟨g, 0, none⟩) n vc) Zk ∧ Zk.map Prod.fst = (R.take k).map canR ++ R.drop k ∧ errRs (R.drop k) = E ∧ Below w.heap.size w wr) (fun iv _ => n - (intOf iv).toNat)
        case atStart => exact ⟨0, Z, rfl, by omega, HZN.out, HO2.out, by simpa using HZ2.out, HE.out, hb12⟩
        case round =>
          obtain ⟨k, Zk, rfl, hk, hZk, ho, hmap, herr, hb⟩ := hrel
          have HO := Lib.hid ho
          have HMAP := Lib.hid hmap
          have HZK := Lib.hid hZk
          by_cases hkl : k < n
          · have d3 : decide ((k : Int) < (n : Int)) = true := decide_eq_true (by omega)
            have hkz : k < Zk.length := by rw [hZk]; exact hkl
            have hkr : k < R.length := by rw [HN.out]; exact hkl
            have hz1 : Zk[k].1 = R[k] := by
              have h1 : (Zk.map Prod.fst)[k]? = some Zk[k].1 := by rw [List.getElem?_map, List.getElem?_eq_getElem hkz]; rfl
              rw [hmap, List.getElem?_append_right (by rw [List.length_map, List.length_take]; omega), List.length_map, List.length_take, Nat.min_eq_left (by omega), Nat.sub_self, List.getElem?_drop, Nat.add_zero, List.getElem?_eq_getElem hkr] at h1
              exact (Option.some.inj h1).symm
            obtain ⟨b', off', e', hbg, c0, c1, c2, c3⟩ := ho.row.at hkz
            cases e'
            have hat := (ho.labs _ (List.getElem_mem hkz)).2
            have hdr : R.drop k = R[k] :: R.drop (k + 1) := List.drop_eq_getElem_cons hkr
            rw [hdr] at herr
            rw [hz1] at c0 c1 c3 hat
            obtain ⟨r, hr⟩ : ∃ r, R[k] = r := ⟨_, rfl⟩
            rw [hr] at herr c0 c1 c3 hat
            have HZ1 := Lib.hid (hz1.trans hr)
            have HDR := Lib.hid (And.intro hr hdr)
            obtain ⟨lv, hlv⟩ : ∃ lv, Zk[k].2 = lv := ⟨_, rfl⟩
            rw [hlv] at c2 hat
            have HERR := Lib.hid (show (if errR r ≠ 0 then errR r else errRs (R.drop (k + 1))) = E from herr)
            have CC := canon_calls lv r.labs wr hat.1 (HT.out wr hb) hat.2.1 hat.2.2.1
            have HAT := Lib.hid hat
            have hsz := hb.size
            have hgB := (HO.out.own.lt g rfl).1
            obtain ⟨la, lc, rfl, -, -⟩ := hat.1.shape
            simp only [Nat.zero_add] at c0 c1 c2 c3
            have HB := Lib.hid hb
            clear herr hdr hr hz1 hlv hat ho hmap hZk hb c0 c1 c3
            go_upto_region 14 with (go_at_call 28; refine CC.mono ?_; rintro e w5 ⟨v5, rfl, ho5, hb5⟩; have HO5 := Lib.hid ho5; obtain ⟨na, nc, rfl⟩ := owns_slice ho5; have hown5 := HO.out.keptB hb5; have f5 := (HZK.out ▸ hown5.own : _).frozenAt (k * 4 + 2); have c5 := hb5.cell (p := ⟨g, k * 4 + 2, none⟩) hbg; rw [c2] at c5; clear ho5)
            obtain ⟨ho6, hg6⟩ := hown5.laid (r := canR r) (u := .slice na (canonL r.labs).length nc) HZK.out hkz (by rw [HZ1.out]; rfl) (by rw [HZ1.out]; rfl) (by rw [HZ1.out]; rfl) (owns_base HO5.out hsz) (canon_at (HAT.out.below hb5) (LRow_own HO5.out))
            have hb5' := HB.out.trans (hb5.mono HB.out.size)
            have hb6 := hb5'.grown hg6 hb5'.size (fun i hi => by cases hi; exact hgB)
            have hnk : k < (Zk.set k (canR r, Value.slice na (canonL r.labs).length nc)).length := by rw [List.length_set]; exact hkz
            obtain ⟨b6, off6, e6, -, q0, q1, q2, q3⟩ := ho6.row.at hnk
            cases e6
            have hat6 := (ho6.labs _ (List.getElem_mem hnk)).2
            simp only [List.getElem_set_self, Nat.zero_add] at q0 q1 q2 q3 hat6
            have CK := rec_Check (canR r) (.slice na (canonL r.labs).length nc) _ hat6 (HT.out _ hb6)
            have hmap6 : (Zk.set k (canR r, Value.slice na (canonL r.labs).length nc)).map Prod.fst = (R.take (k + 1)).map canR ++ R.drop (k + 1) := by
              have hlk : ((R.take k).map canR).length = k := by rw [List.length_map, List.length_take, Nat.min_eq_left (by omega)]
              rw [List.map_set, HMAP.out, HDR.out.2, HDR.out.1, set_next ((R.take k).map canR) (R.drop (k + 1)) r _ hlk, List.take_succ_eq_append_getElem hkr, HDR.out.1, List.map_append, List.append_assoc]
              rfl
            have HM6 := Lib.hid hmap6
            have HO6 := Lib.hid ho6
            have HB6 := Lib.hid hb6
            unfold recV canR at CK
            simp only at CK q0 q1 q2 q3
            clear hmap6 ho6 hb6 hb5' hg6 hat6 hown5 f5 c5 c2 CC hb5
            have hER : errR r = if canonE r.labs ≠ 0 then canonE r.labs else chkRec (canR r) := rfl
            have HER := Lib.hid hER
            obtain ⟨CE, hCE⟩ : ∃ CE, canonE r.labs = CE := ⟨_, rfl⟩
            obtain ⟨KE, hKE⟩ : ∃ KE, chkRec ⟨r.time, r.seq, canonL r.labs, r.line⟩ = KE := ⟨_, rfl⟩
            have HKE := Lib.hid (show chkRec (canR r) = KE from hKE)
            have HCE := Lib.hid hCE
            rw [hKE] at CK
            rw [hCE]
            clear hER hCE hKE
            obtain ⟨nl, hnl⟩ : ∃ nl, (canonL r.labs).length = nl := ⟨_, rfl⟩
            rw [hnl] at CK q2 HO6 HB6 HM6 q0 q1 q3 ⊢
            clear hnl
            obtain ⟨w6, hw6⟩ : ∃ w6, w5.setCell ⟨g, k * 4 + 2, none⟩ (.slice na nl nc) = w6 := ⟨_, rfl⟩
            rw [hw6] at CK q0 q1 q2 q3 HO6 HB6 ⊢
            clear hw6
            by_cases hc0 : CE = 0
            · subst hc0
              have HER2 := Lib.hid (show errR r = KE by rw [HER.out, HCE.out, if_neg (by simp), HKE.out])
              go_upto_region 16 with (go_at_call 29; refine CK.mono ?_; rintro e w7 ⟨rfl, hb7⟩)
              by_cases hk0 : KE = 0
              · subst hk0
                go_wp2
                go_roundw
                case rel => exact ⟨k + 1, _, by go_num, by omega, by rw [List.length_set]; exact HZK.out, HO6.out.keptB hb7, HM6.out, by have h := HERR.out; rw [HER2.out, if_neg (by simp)] at h; exact h, HB6.out.trans (hb7.mono HB6.out.size)⟩
                case measure => simp [intOf]; omega
              · have hne : (KE != 0) = true := by simpa using hk0
                have hEK : E = KE := by rw [← HERR.out, HER2.out, if_pos hk0]
                have hP := HP.out
                rw [hEK, if_pos hk0] at hP
                clear hk0 hEK HP HERR HE
                go_wp2
                go_ret2
                exact PushR.bad hP (HB6.out.trans (hb7.mono HB6.out.size))
            · have HER2 := Lib.hid (show errR r = CE by rw [HER.out, HCE.out, if_pos hc0])
              have hne : (CE != 0) = true := by simpa using hc0
              have hne2 : (CE == 0) = false := by simpa using hc0
              have hEK : E = CE := by rw [← HERR.out, HER2.out, if_pos hc0]
              have hP := HP.out
              rw [hEK, if_pos hc0] at hP
              clear hc0 hEK HP HERR HE CK
              go_wp2
              go_ret2
              exact PushR.bad hP HB6.out
          · have d3 : decide ((k : Int) < (n : Int)) = false := decide_eq_false (by omega)
            have hkn : k = n := by omega
            have hE0 : E = 0 := by
              rw [← herr, List.drop_of_length_le (by rw [HN.out]; omega)]
              rfl
            have hP := HP.out
            rw [hE0, if_neg (by simp)] at hP
            have HP2 := Lib.hid hP
            have hmm : Zk.map Prod.fst = R.map canR := by
              rw [hmap, List.drop_of_length_le (by rw [HN.out]; omega), List.append_nil, List.take_of_length_le (by rw [HN.out]; omega)]
            have HMM := Lib.hid hmm
            clear hP hmm hmap herr ho hkn HP HE hE0
            go_wp2
            go_ret2
            exact ⟨_, Zk, by rw [HP2.out]; rfl, HO.out.row, by rw [HP2.out, HMM.out], hb⟩
  · obtain ⟨E, hEE⟩ : ∃ E, parseE b = E := ⟨_, rfl⟩
    have hp : pushP b = (E, []) := by unfold pushP; rw [if_pos hE, hEE]
    rw [hEE] at hE CP
    have hne : (E != 0) = true := by simpa using hE
    clear hEE hE hT
    go_enter Tryz.func9, Tryz.ntmps9
    go_wp2_with (go_at_call 15; refine CP.mono ?_; rintro e w1 ⟨u, rfl, hr1, hb1⟩)
    go_ret2
    exact PushR.bad hp hb1
end Go.Proofs.YtljnbbdhmlfhjaaGreatDoor
