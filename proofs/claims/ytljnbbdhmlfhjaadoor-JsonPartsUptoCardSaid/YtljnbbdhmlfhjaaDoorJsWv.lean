/-
  json.writer: value, of what is no list.
-/
import Derived.Test.YtljnbbdhmlfhjaaDoorJsWt
namespace Go.Proofs.YtljnbbdhmlfhjaaDoor
open Go.RowKit
mutual
/-- May it be written, so deep within lists? -/
def okW (d : Nat) : J → Bool
  | .nul => true
  | .bool _ => true
  | .num s => !s.isEmpty && numN s == s.length
  | .str s => Lib.validD s
  | .arr l => decide (d < 16) && okWL (d + 1) l
  | .obj l => decide (d < 16) && okWM (d + 1) l
def okWL (d : Nat) : List J → Bool
  | [] => true
  | x :: l => okW d x && okWL d l
def okWM (d : Nat) : List (Bs × J) → Bool
  | [] => true
  | x :: l => okWE d x && okWM d l
def okWE (d : Nat) : Bs × J → Bool
  | (n, x) => Lib.validD n && okW d x
end
/-- The tables, from before the call. -/
def TabB (B : Nat) (w : World) : Prop := ∃ w0, Tabs w0 ∧ w0.heap.size = B ∧ Below B w0 w
theorem TabB.tabs {B : Nat} {w : World} (h : TabB B w) : Tabs w := by
  obtain ⟨w0, h1, rfl, h3⟩ := h
  exact Utf8Tabs_below h1 h3
theorem TabB.to {B : Nat} {w w' : World} (h : TabB B w) (hb : Below B w w') : TabB B w' := by
  obtain ⟨w0, h1, h2, h3⟩ := h
  exact ⟨w0, h1, h2, h3.trans hb⟩
/-- What writing leaves. -/
def WEnd (B q : Nat) (w : World) (out : Bs) (bad ok : Bool) (f : Bs) (e : Ending) (w' : World) : Prop :=
  e = .returned (.tuple #[]) ∧ ∃ out' bad', WSt B q out' bad' w' ∧ Went B q w w' ∧ bad' = (bad || !ok) ∧ (bad' = false → out' = out ++ f) ∧ out'.length ≤ out.length + f.length
def WOk (j : J) : Prop := ∀ (d B q : Nat) (S : Nat → Prop) (v : Value) (out : Bs) (bad : Bool) (w : World), WSt B q out bad w → TabB B w → RepJ w S j v → (∀ k, S k → k < B) → d + (formJ j).length ≤ 2199023255552 → out.length + 6 * (formJ j).length + 2 ≤ 1099511627776 →
  Calls Tryd.prog 25 #[.pointer (some ⟨q, 0, none⟩), v, .int .i64 (d : Int)] w (WEnd B q w out bad (okW d j) (formJ j))
theorem wend_of {B q : Nat} {w w' : World} {out f : Bs} {bad ok : Bool} (hs : WSt B q (out ++ f) (bad || !ok) w') (hg : Went B q w w') : WEnd B q w out bad ok f (.returned (.tuple #[])) w' :=
  ⟨rfl, _, _, hs, hg, rfl, fun _ => rfl, by rw [List.length_append]; exact Nat.le_refl _⟩
/-- The two boxes that the call makes of its arguments. -/
structure Bx (q d k : Nat) (W : World) : Prop where
  b0 : W.heap[k]? = some (.cells #[.pointer (some ⟨q, 0, none⟩)] 70 (0, 0))
  b1 : W.heap[k + 1]? = some (.cells #[.int .i64 (d : Int)] 3 (0, 0))
  ne : q < k
theorem Bx.to {q d k : Nat} {W W' : World} (h : Bx q d k W) (hk : KeepW q W W') : Bx q d k W' :=
  ⟨hk _ _ _ _ h.b0 (by decide) (by have := h.ne; omega), hk _ _ _ _ h.b1 (by decide) (by have := h.ne; omega), h.ne⟩
theorem Bx.cells {q d k : Nat} {W : World} (h : Bx q d k W) : (W.cell? ⟨k, 0, none⟩ = some (.pointer (some ⟨q, 0, none⟩)) ∧ W.cell? ⟨k + 1, 0, none⟩ = some (.int .i64 (d : Int))) ∧ W.frozen? ⟨k, 0, none⟩ = false ∧ W.frozen? ⟨k + 1, 0, none⟩ = false :=
  ⟨⟨by rw [Lib.cell_of_heap h.b0]; rfl, by rw [Lib.cell_of_heap h.b1]; rfl⟩, Lib.frozen_of_heap h.b0 0, Lib.frozen_of_heap h.b1 0⟩
theorem bx_new {B q d : Nat} {out : Bs} {bad : Bool} {w : World} (h : WSt B q out bad w) :
    Bx q d w.heap.size ((w.alloc (.cells #[.pointer (some ⟨q, 0, none⟩)] 70)).alloc (.cells #[.int .i64 (d : Int)] 3)) ∧
      Below w.heap.size w ((w.alloc (.cells #[.pointer (some ⟨q, 0, none⟩)] 70)).alloc (.cells #[.int .i64 (d : Int)] 3)) := by
  have e : (w.alloc (.cells #[.pointer (some ⟨q, 0, none⟩)] 70)).heap.size = w.heap.size + 1 := by simp
  refine ⟨⟨?_, ?_, h.lt⟩, belowAJ (belowAJ (Below.refl _ _) (Nat.le_refl _)) (by omega)⟩
  · rw [heap_alloc_old _ _ (by omega)]
    exact heap_alloc_new w _
  · have := heap_alloc_new (w.alloc (.cells #[.pointer (some ⟨q, 0, none⟩)] 70)) (.cells #[.int .i64 (d : Int)] 3)
    rwa [e] at this
/-- The start of every call: the writer beside its boxes. -/
structure W1 (B q d : Nat) (w : World) (out : Bs) (bad : Bool) (W : World) : Prop where
  st : WSt B q out bad W
  bx : Bx q d w.heap.size W
  wt : Went B q w W
  tb : TabB B W
theorem w1_new {B q d : Nat} {out : Bs} {bad : Bool} {w : World} (h : WSt B q out bad w) (hT : TabB B w) : W1 B q d w out bad ((w.alloc (.cells #[.pointer (some ⟨q, 0, none⟩)] 70)).alloc (.cells #[.int .i64 (d : Int)] 3)) := by
  obtain ⟨h1, h2⟩ := bx_new (d := d) h
  have hg := Went.below (q := q) h2 h.size
  exact ⟨h.keptB h2, h1, hg, hT.to hg.1⟩
theorem W1.to {B q d : Nat} {out out' : Bs} {bad bad' : Bool} {w W W' : World} (h : W1 B q d w out bad W) (hs : WSt B q out' bad' W') (hg : Went B q W W') : W1 B q d w out' bad' W' := ⟨hs, h.bx.to hg.2, h.wt.trans hg, h.tb.to hg.1⟩
set_option maxRecDepth 100000 in
set_option maxHeartbeats 10000000 in
theorem wv_nul : WOk .nul := by
  intro d B q S v out bad w hw hT hr hS hd hl
  have hv : v = .nilIface := hr
  subst hv
  have H0 := Lib.hid (w1_new (d := d) hw hT)
  clear hw hT hr hS
  go_enter Tryd.func25, Tryd.ntmps25
  go_upto_region 6 with fail
  generalize ((w.alloc (.cells #[.pointer (some ⟨q, 0, none⟩)] 70)).alloc (.cells #[.int .i64 (d : Int)] 3)) = W at *
  obtain ⟨⟨c0, c1⟩, f0, f1⟩ := H0.out.bx.cells
  have C1 := w_string B q out bad ⟨#[110, 117, 108, 108]⟩ W H0.out.st (by show _ + 4 ≤ _; omega)
  go_wp2_with (go_at_call 44; refine C1.mono ?_; rintro e w3 ⟨rfl, hw3, hg3⟩; have H3 := Lib.hid (H0.out.to hw3 hg3); clear hw3 hg3)
  go_end0
  exact wend_of (f := formJ .nul) (ok := true) (by rw [Bool.not_true, Bool.or_false]; exact H3.out.st) H3.out.wt
theorem ta_no (T t : TypeId) (x : Value) (z : Value) (w : World) (h : ∀ w, (Instr.typeAssert (.iface T x) 20 t true).run Tryd.prog w = .ok (.tuple #[z, .bool false]) w) : (Instr.typeAssert (.iface T x) 20 t true).run Tryd.prog w = .ok (.tuple #[z, .bool false]) w := h w
set_option maxRecDepth 100000 in
set_option maxHeartbeats 10000000 in
theorem wv_str (s : Bs) : WOk (.str s) := by
  intro d B q S v out bad w hw hT hr hS hd hl
  have hv : v = .iface 9 (.string ⟨s.toArray⟩) := hr
  subst hv
  have H0 := Lib.hid (w1_new (d := d) hw hT)
  have hsl : s.length ≤ (quote s).length := by
    have : ∀ l : Bs, l.length ≤ (escS l).length := by
      intro l
      induction l with
      | nil => exact Nat.le_refl _
      | cons c l ih =>
        have : 1 ≤ (escB c).length := by
          unfold escB
          repeat' split
          all_goals simp
        rw [escS_cons, List.length_append, List.length_cons]
        omega
    have := this s
    simp only [quote, List.length_cons, List.length_append]
    omega
  have hl2 : out.length + 6 * s.length + 2 ≤ 70368744177664 := by
    have : (formJ (.str s)).length = (quote s).length := rfl
    omega
  have a1 : ∀ W, (Instr.typeAssert (.iface 9 (.string ⟨s.toArray⟩)) 20 4 true).run Tryd.prog W = .ok (.tuple #[.bool false, .bool false]) W := fun W => by kernel_rfl
  have a2 : ∀ W, (Instr.typeAssert (.iface 9 (.string ⟨s.toArray⟩)) 20 30 true).run Tryd.prog W = .ok (.tuple #[.string ⟨#[]⟩, .bool false]) W := fun W => by kernel_rfl
  have a3 : ∀ W, (Instr.typeAssert (.iface 9 (.string ⟨s.toArray⟩)) 20 9 true).run Tryd.prog W = .ok (.tuple #[.string ⟨s.toArray⟩, .bool true]) W := fun W => by kernel_rfl
  clear hw hT hr hS hsl hl
  go_enter Tryd.func25, Tryd.ntmps25
  go_upto_region 16 with fail
  generalize ((w.alloc (.cells #[.pointer (some ⟨q, 0, none⟩)] 70)).alloc (.cells #[.int .i64 (d : Int)] 3)) = W at *
  obtain ⟨⟨c0, c1⟩, f0, f1⟩ := H0.out.bx.cells
  have C1 := w_quote B q out bad ⟨s.toArray⟩ W H0.out.st H0.out.tb.tabs (by show _ + 6 * s.length + 2 ≤ _; omega)
  go_wp2_with (go_at_call 46; refine C1.mono ?_; rintro e w3 ⟨rfl, hw3, hg3⟩; have H3 := Lib.hid (H0.out.to hw3 hg3); clear hw3 hg3)
  go_end0
  exact wend_of (f := formJ (.str s)) (ok := okW d (.str s)) H3.out.st H3.out.wt
end Go.Proofs.YtljnbbdhmlfhjaaDoor
