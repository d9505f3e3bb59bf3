/-
  json.writer: value, of an object; every value.
-/
import Derived.Test.YtljnbbdhmlfhjaaDoorJsWp
namespace Go.Proofs.YtljnbbdhmlfhjaaDoor
open Go.RowKit
theorem capO_new {B q d k : Nat} {out : Bs} {bad : Bool} {W : World} (sv : Value) (hw : WSt B q out bad W) (hb : Bx q d k W) :
    CapO B q d k W.heap.size sv (W.alloc (.cells #[sv] 34)) ∧ Below W.heap.size W (W.alloc (.cells #[sv] 34)) := by
  have h1 := belowAJ (o := .cells #[sv] 34) (Below.refl W.heap.size W) (Nat.le_refl _)
  exact ⟨⟨hb.to (KeepW.below h1), heap_alloc_new W _, hw.lt⟩, h1⟩
set_option maxRecDepth 100000 in
set_option maxHeartbeats 20000000 in
theorem wv_obj (l : List (Bs × J)) (hx : ∀ x ∈ l, WOk x.2) : WOk (.obj l) := by
  intro d B q S v out bad w hw hT hr hS hd hl
  obtain ⟨sv, vs, rfl, hrow, hrep⟩ := hr
  obtain ⟨⟨hl1, a, cap, rfl, hca, hcm, hcs⟩, hSb⟩ := hrow
  have hrow : RowS w S (.slice a l.length cap) l.length 2 vs := ⟨⟨hl1, a, cap, rfl, hca, hcm, hcs⟩, hSb⟩
  have H0 := Lib.hid (w1_new (d := d) hw hT)
  have hl2 : out.length + 6 * (formM l).length + 14 ≤ 1099511627776 := by
    have : (formJ (.obj l)).length = (formM l).length + 2 := by simp [formJ]
    omega
  have hd2 : d + 1 + (formM l).length ≤ 2199023255552 := by
    have : (formJ (.obj l)).length = (formM l).length + 2 := by simp [formJ]
    omega
  have a1 : ∀ W, (Instr.typeAssert (.iface 34 (.slice a l.length cap)) 20 4 true).run Tryd.prog W = .ok (.tuple #[.bool false, .bool false]) W := fun W => by kernel_rfl
  have a2 : ∀ W, (Instr.typeAssert (.iface 34 (.slice a l.length cap)) 20 30 true).run Tryd.prog W = .ok (.tuple #[.string ⟨#[]⟩, .bool false]) W := fun W => by kernel_rfl
  have a3 : ∀ W, (Instr.typeAssert (.iface 34 (.slice a l.length cap)) 20 9 true).run Tryd.prog W = .ok (.tuple #[.string ⟨#[]⟩, .bool false]) W := fun W => by kernel_rfl
  have a4 : ∀ W, (Instr.typeAssert (.iface 34 (.slice a l.length cap)) 20 35 true).run Tryd.prog W = .ok (.tuple #[.slice none 0 0, .bool false]) W := fun W => by kernel_rfl
  have a5 : ∀ W, (Instr.typeAssert (.iface 34 (.slice a l.length cap)) 20 34 true).run Tryd.prog W = .ok (.tuple #[.slice a l.length cap, .bool true]) W := fun W => by kernel_rfl
  have CL := Lib.hid (fun (W : World) (k kx : Nat) (b : Bool) (hW : WSt B q out b W) (hc : CapO B q d k kx (.slice a l.length cap) W) (hg : Went B q w W) => list_obj (l := l) (vs := vs) (S := S) hx hW hc (hT.to hg.1) (hrow.low hS hg.1) (hrep.low hS hg.1) hS hd2 hl2)
  obtain ⟨n, hn⟩ : ∃ n, l.length = n := ⟨_, rfl⟩
  rw [hn] at a1 a2 a3 a4 a5 CL ⊢
  clear hw hT hrow hrep hS hSb hcs hl1 hl hx hca hcm hl2 hn hd2
  have hmf : ∀ (fn : Fn) (first cap : Array Value) (w : World), (Instr.makeFunc fn first cap).run Tryd.prog w = .ok (.func fn first cap) w := fun _ _ _ _ => rfl
  go_enter Tryd.func25, Tryd.ntmps25
  go_upto_region 22 with fail
  generalize ((w.alloc (.cells #[.pointer (some ⟨q, 0, none⟩)] 70)).alloc (.cells #[.int .i64 (d : Int)] 3)) = W at *
  go_upto_region 23 with fail
  obtain ⟨hcap, hbw⟩ := capO_new (.slice a n cap) H0.out.st H0.out.bx
  have hgw := Went.below (q := q) hbw H0.out.st.size
  have H1 := Lib.hid (And.intro (H0.out.to (H0.out.st.keptB hbw) hgw) hcap)
  clear hcap hbw hgw
  generalize (W.alloc (.cells #[.slice a n cap] 34)) = W2 at *
  have hdr : Below W2.heap.size W2 W2.drew := (Below.refl _ _).drew
  have hgd := Went.below (q := q) hdr H1.out.1.st.size
  have H2 := Lib.hid (And.intro (H1.out.1.to (H1.out.1.st.keptB hdr) hgd) (H1.out.2.to hgd.2))
  have HGD := Lib.hid hgd
  obtain ⟨⟨c0, c1⟩, f0, f1⟩ := H2.out.1.bx.cells
  obtain ⟨c2, f2⟩ := H2.out.1.st.flag
  have hdl : d ≤ 2199023255552 := by omega
  clear hdr hgd
  go_cut [] from 87 to 97 (fun wx => WSt B q out (bad || decide (16 ≤ d)) wx ∧ Went B q W2 wx)
  case first =>
    have HSB := Lib.hid (fun b => H2.out.1.st.setBad b)
    clear CL
    cases bad with
    | true =>
      refine wp_region_tailJ 11 (by kernel_rfl) (by kernel_rfl) ?_
      simp only [List.take_succ_cons, List.take_zero, List.drop_succ_cons, List.drop_zero]
      repeat (go_big_quiet_step (fail))
      refine wpQuiet_nil ?_
      change wpList _ _ _ _ _ W2.drew
      go_wp2_with fail
      go_meet
      exact ⟨(HSB.out true).1, HGD.out.trans (HSB.out true).2⟩
    | false =>
      obtain ⟨X, hX⟩ : ∃ X, decide (16 ≤ d) = X := ⟨_, rfl⟩
      have hX2 : decide ((16 : Int) ≤ (d : Int)) = X := by rw [← hX]; apply decide_eq_decide.2; omega
      have HXX := Lib.hid hX
      clear hX
      refine wp_region_tailJ 11 (by kernel_rfl) (by kernel_rfl) ?_
      simp only [List.take_succ_cons, List.take_zero, List.drop_succ_cons, List.drop_zero]
      repeat (go_big_quiet_step (fail))
      refine wpQuiet_nil ?_
      change wpList _ _ _ _ _ W2.drew
      go_wp2_with fail
      go_meet
      rw [HXX.out, Bool.false_or]
      exact ⟨(HSB.out X).1, HGD.out.trans (HSB.out X).2⟩
  case rest =>
    have H3 := Lib.hid (And.intro (H1.out.1.to hcut.1 hcut.2) (H1.out.2.to hcut.2.2))
    clear c0 c1 f0 f1 c2 f2 hcut H2 HGD
    obtain ⟨⟨c0, c1⟩, f0, f1⟩ := H3.out.1.bx.cells
    have c3 : wc.cell? ⟨W.heap.size, 0, none⟩ = some (.slice a n cap) := by rw [Lib.cell_of_heap H3.out.2.bl]; rfl
    have C1 := CL.out wc w.heap.size W.heap.size _ H3.out.1.st H3.out.2 H3.out.1.wt
    clear CL
    go_wp2_with (go_at_call 47; refine C1.mono ?_; rintro e w2 ⟨rfl, o2, b2, h1, h2, h3, h4, h5⟩; have HE := Lib.hid (And.intro h1 (And.intro h2 (And.intro h3 (And.intro h4 h5)))); clear h1 h2 h3 h4 h5)
    go_end0
    obtain ⟨h1, h2, h3, h4, h5⟩ := HE.out
    refine ⟨rfl, o2, b2, h1, H3.out.1.wt.trans h2, ?_, h4, h5⟩
    rw [h3]
    simp only [okW]
    have e1 : decide (d < 16) = !decide (16 ≤ d) := by
      by_cases h : 16 ≤ d
      · rw [decide_eq_true h, decide_eq_false (by omega)]; rfl
      · rw [decide_eq_false h, decide_eq_true (by omega)]; rfl
    rw [e1]
    cases bad <;> cases decide (16 ≤ d) <;> cases okWM (d + 1) l <;> rfl
end Go.Proofs.YtljnbbdhmlfhjaaDoor
