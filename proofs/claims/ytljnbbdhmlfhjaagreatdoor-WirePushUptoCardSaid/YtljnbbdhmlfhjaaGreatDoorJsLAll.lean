/-
  The law's form of a text: Parse, then Write.
-/
import Derived.Test.YtljnbbdhmlfhjaaGreatDoorWTwo
import Derived.Test.YtljnbbdhmlfhjaaGreatDoorJsM
import Derived.Test.YtljnbbdhmlfhjaaGreatDoorJsnAll
namespace Go.Proofs.YtljnbbdhmlfhjaaGreatDoor
open Go.RowKit
mutual
theorem okW_of : ∀ (j : J) (d : Nat), okJ j → d + deepJ j ≤ 16 → okW d j = true
  | .nul, _, _, _ => rfl
  | .bool _, _, _, _ => rfl
  | .num s, d, h, _ => by
    obtain ⟨h1, h2⟩ := (num_iff s).1 h
    simp only [okW, h2]
    cases s with
    | nil => exact absurd rfl h1
    | cons c s => simp
  | .str s, _, h, _ => h
  | .arr l, d, h, hd => by
    simp only [deepJ] at hd
    simp only [okW, Bool.and_eq_true, decide_eq_true_eq]
    exact ⟨by omega, okWL_of l (d + 1) h (by omega)⟩
  | .obj l, d, h, hd => by
    simp only [deepJ] at hd
    simp only [okW, Bool.and_eq_true, decide_eq_true_eq]
    exact ⟨by omega, okWM_of l (d + 1) h (by omega)⟩
theorem okWL_of : ∀ (l : List J) (d : Nat), okL l → d + deepL l ≤ 16 → okWL d l = true
  | [], _, _, _ => rfl
  | x :: l, d, h, hd => by
    simp only [deepL] at hd
    simp only [okWL, Bool.and_eq_true]
    exact ⟨okW_of x d h.1 (by omega), okWL_of l d h.2 (by omega)⟩
theorem okWM_of : ∀ (l : List (Bs × J)) (d : Nat), okM l → d + deepM l ≤ 16 → okWM d l = true
  | [], _, _, _ => rfl
  | (n, x) :: l, d, h, hd => by
    simp only [deepM, deepE] at hd
    simp only [okWM, okWE, Bool.and_eq_true]
    exact ⟨⟨h.1.1, okW_of x d h.1.2 (by omega)⟩, okWM_of l d h.2 (by omega)⟩
end
mutual
theorem nums_of : ∀ (j : J), okJ j → numsJ j
  | .nul, _ => trivial
  | .bool _, _ => trivial
  | .num _, h => h
  | .str _, _ => trivial
  | .arr l, h => numsL_of l h
  | .obj l, h => numsM_of l h
theorem numsL_of : ∀ (l : List J), okL l → numsL l
  | [], _ => trivial
  | x :: l, h => ⟨nums_of x h.1, numsL_of l h.2⟩
theorem numsM_of : ∀ (l : List (Bs × J)), okM l → numsM l
  | [], _ => trivial
  | (_, x) :: l, h => ⟨nums_of x h.1.2, numsM_of l h.2⟩
end
end Go.Proofs.YtljnbbdhmlfhjaaGreatDoor
/-
  awake, of layer 22.
-/
namespace Go.Proofs.YtljnbbdhmlfhjaaGreatDoor
open Go.RowKit
set_option maxRecDepth 100000 in
set_option maxHeartbeats 10000000 in
theorem wv_other (B q : Nat) (out : Bs) (bad : Bool) (w : World) (hw : WSt B q out bad w) (hT : TabB B w) :
    Calls Tryz.prog 48 #[.pointer (some ⟨q, 0, none⟩), .iface 3 (.int .i64 5), .int .i64 0] w fun e w' => e = .returned (.tuple #[]) ∧ WSt B q out true w' ∧ Went B q w w' := by
  have H0 := Lib.hid (w1_new (d := 0) hw hT)
  have a1 : ∀ W, (Instr.typeAssert (.iface 3 (.int .i64 5)) 20 4 true).run Tryz.prog W = .ok (.tuple #[.bool false, .bool false]) W := fun W => by kernel_rfl
  have a2 : ∀ W, (Instr.typeAssert (.iface 3 (.int .i64 5)) 20 95 true).run Tryz.prog W = .ok (.tuple #[.string ⟨#[]⟩, .bool false]) W := fun W => by kernel_rfl
  have a3 : ∀ W, (Instr.typeAssert (.iface 3 (.int .i64 5)) 20 9 true).run Tryz.prog W = .ok (.tuple #[.string ⟨#[]⟩, .bool false]) W := fun W => by kernel_rfl
  have a4 : ∀ W, (Instr.typeAssert (.iface 3 (.int .i64 5)) 20 42 true).run Tryz.prog W = .ok (.tuple #[.slice none 0 0, .bool false]) W := fun W => by kernel_rfl
  have a5 : ∀ W, (Instr.typeAssert (.iface 3 (.int .i64 5)) 20 79 true).run Tryz.prog W = .ok (.tuple #[.slice none 0 0, .bool false]) W := fun W => by kernel_rfl
  clear hw hT
  go_enter Tryz.func48, Tryz.ntmps48
  go_upto_region 3 with fail
  have e0 : ((0 : Nat) : Int) = 0 := rfl
  rw [e0] at H0
  generalize ((w.alloc (.cells #[.pointer (some ⟨q, 0, none⟩)] 102)).alloc (.cells #[.int .i64 0] 3)) = W at *
  obtain ⟨⟨c0, c1⟩, f0, f1⟩ := H0.out.bx.cells
  obtain ⟨c2, f2⟩ := H0.out.st.flag
  clear e0
  go_wp2
  go_end0
  have h := H0.out.st.setBad true
  exact ⟨rfl, h.1, H0.out.wt.trans h.2⟩
set_option maxRecDepth 100000 in
set_option maxHeartbeats 10000000 in
theorem js_Write_five (w : World) (hT : Tabs w) : Calls Tryz.prog 22 #[.iface 3 (.int .i64 5)] w fun e w' => e = .returned (.tuple #[.slice none 0 0, .int .i64 1]) ∧ Below w.heap.size w w' := by
  have hb1 := belowAJ (o := .cells #[.pointer none, .slice none 0 0, .bool false] 107) (Below.refl w.heap.size w) (Nat.le_refl _)
  have CV := wv_other w.heap.size w.heap.size [] false _ (wst_new w) ⟨w, hT, rfl, hb1⟩
  have HB1 := Lib.hid hb1
  clear hT hb1
  go_enter Tryz.func22, Tryz.ntmps22
  go_upto_region 3 with (go_at_call 48; refine CV.mono ?_; rintro e w2 ⟨rfl, h1, h2⟩; have H2 := Lib.hid (And.intro h1 h2); clear h1 h2)
  obtain ⟨c2, f2⟩ := H2.out.1.flag
  go_wp2
  go_ret2
  exact ⟨rfl, HB1.out.trans H2.out.2.1⟩
def awS : ByteArray := ⟨#[32, 123, 32, 34, 97, 34, 32, 58, 32, 91, 49, 44, 32, 45, 48, 46, 53, 101, 51, 44, 32, 34, 120, 92, 117, 48, 48, 52, 49, 92, 110, 34, 93, 32, 125, 32]⟩
def awT : ByteArray := ⟨#[123, 34, 97, 34, 58, 91, 49, 44, 45, 48, 46, 53, 101, 51, 44, 34, 120, 65, 92, 110, 34, 93, 125]⟩
end Go.Proofs.YtljnbbdhmlfhjaaGreatDoor
/-
  The law JsonBack.
-/
namespace Go.Proofs.YtljnbbdhmlfhjaaGreatDoor
open Go.RowKit
theorem str_eqJ (a b : ByteArray) (h : a.data.toList = b.data.toList) : (a.toList == b.toList) = true := by
  rw [beq_iff_eq, ByteArray.toList_eq, ByteArray.toList_eq, h]
end Go.Proofs.YtljnbbdhmlfhjaaGreatDoor
/-
  The law JsonDeep: values within one another in memory.
-/
namespace Go.Proofs.YtljnbbdhmlfhjaaGreatDoor
open Go.RowKit
def nestJ (bs : List Bool) : J := bs.foldl (fun j b => wrapJ b j) (.num [49])
theorem nest_snoc (bs : List Bool) (b : Bool) : nestJ (bs ++ [b]) = wrapJ b (nestJ bs) := by simp [nestJ]
theorem num_one : NumS [49] := (num_iff [49]).2 ⟨by simp, by decide⟩
theorem nest_ok : ∀ (n : Nat) (bs : List Bool), bs.length = n → okJ (nestJ bs) ∧ deepJ (nestJ bs) = bs.length ∧ (formJ (nestJ bs)).length ≤ 6 * bs.length + 1 := by
  intro n
  induction n with
  | zero =>
    intro bs h
    obtain rfl := List.eq_nil_of_length_eq_zero h
    exact ⟨num_one, rfl, by simp [nestJ, formJ]⟩
  | succ n ih =>
    intro bs h
    have hne : bs ≠ [] := by intro e; subst e; cases h
    obtain ⟨cs, b, rfl⟩ : ∃ cs b, bs = cs ++ [b] := ⟨_, _, (List.dropLast_concat_getLast hne).symm⟩
    obtain ⟨h1, h2, h3⟩ := ih cs (by simpa using h)
    rw [nest_snoc, wrap_deep, wrap_form, List.length_append, List.length_singleton]
    refine ⟨wrap_ok b h1, by omega, ?_⟩
    cases b
    · simp only [Bool.false_eq_true, if_false, List.length_append, List.length_cons, List.length_nil]; omega
    · simp only [if_true, List.length_append, List.length_cons, List.length_nil]; omega
theorem open_snoc (bs : List Bool) (b : Bool) : (bs ++ [b]).flatMap openB = bs.flatMap openB ++ openB b := by simp
theorem rep_arr {lo : Nat} {W : World} {j : J} {v : Value} (hlo : lo ≤ W.heap.size) (h : RepJ W (Nw lo W) j v) : RepJ (W.alloc (.cells #[v] 20)) (Nw lo (W.alloc (.cells #[v] 20))) (.arr [j]) (.iface 42 (.slice (some ⟨W.heap.size, 0, none⟩) 1 1)) := by
  have ho := World.ownsRow_lit (base := lo) (e := 20) (size := 1) W #[v] 1 hlo (by decide) rfl
  refine ⟨_, [v], rfl, rowS_own ho, v, [], rfl, RepJ.to (fun k hk => ⟨⟨hk.1, by have := hk.2; simp; omega⟩, fun hk2 => heap_alloc_old W _ hk2⟩) j v h, rfl⟩
theorem rep_obj {lo : Nat} {W : World} {j : J} {v : Value} (n : Bs) (hlo : lo ≤ W.heap.size) (h : RepJ W (Nw lo W) j v) : RepJ (W.alloc (.cells #[.string ⟨n.toArray⟩, v] 93)) (Nw lo (W.alloc (.cells #[.string ⟨n.toArray⟩, v] 93))) (.obj [(n, j)]) (.iface 79 (.slice (some ⟨W.heap.size, 0, none⟩) 1 1)) := by
  have ho := World.ownsRow_lit (base := lo) (e := 93) (size := 2) W #[.string ⟨n.toArray⟩, v] 1 hlo (by decide) rfl
  refine ⟨_, [.string ⟨n.toArray⟩, v], rfl, rowS_own ho, v, [], rfl, RepJ.to (fun k hk => ⟨⟨hk.1, by have := hk.2; simp; omega⟩, fun hk2 => heap_alloc_old W _ hk2⟩) j v h, rfl⟩
end Go.Proofs.YtljnbbdhmlfhjaaGreatDoor
