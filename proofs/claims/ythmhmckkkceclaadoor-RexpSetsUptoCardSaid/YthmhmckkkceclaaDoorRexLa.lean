/-
  The law's awake; RexpParses' walk.
-/
import Derived.Test.YthmhmckkkceclaaDoorRexTwo
import Derived.Test.YthmhmckkkceclaaDoorRexTl
namespace Go.Proofs.YthmhmckkkceclaaDoor
open Go.RowKit
def awA : ByteArray := ⟨#[97, 98, 42]⟩
def awB : ByteArray := ⟨#[97, 42, 42]⟩
def awC : ByteArray := ⟨#[40, 40, 40, 97, 123, 56, 125, 41, 123, 56, 125, 41, 123, 56, 125, 41, 123, 56, 125]⟩
theorem awA_e : parseE awA = 0 := by decide +kernel
theorem awB_e : parseE awB = 40 := by decide +kernel
theorem awC_e : parseE awC = 3 := by decide +kernel
theorem awA_l : (parseL awA).length = 4 ∧ ((parseL awA).map fun n => n.kind) = [2, 2, 5, 3] ∧ ((parseL awA).map fun n => n.hi) = [0, 0, -1, 0] := by decide +kernel
/-- Nodes that a text has been read as. -/
theorem parsed_at {w : World} {B : Nat} {v : Value} {Z : List NdL} {l : List Nd} (h : NOwn w B v Z) (hz : Z.map Prod.fst = l) (k : Nat) (hk : k < l.length) : ∃ g c, v = .slice (some ⟨g, 0, none⟩) l.length c ∧ ∀ W, Below w.heap.size w W →
    W.cell? ⟨g, k * 5, none⟩ = some (.int .i64 l[k].kind) ∧ W.cell? ⟨g, k * 5 + 2, none⟩ = some (.int .i64 l[k].lo) ∧ W.cell? ⟨g, k * 5 + 3, none⟩ = some (.int .i64 l[k].hi) := by
  subst hz
  have hk' : k < Z.length := by simpa using hk
  obtain ⟨g, c, h1, h2⟩ := nds_at h hk'
  refine ⟨g, c, by simpa using h1, fun W hW => ?_⟩
  obtain ⟨h3, _, h4, h5, _⟩ := h2 W hW
  rw [List.getElem_map]
  exact ⟨h3, h4, h5⟩
set_option maxRecDepth 100000 in
set_option maxHeartbeats 8000000 in
theorem law18_awake (w : World) (hT : Tabs w) : Calls Tryd.prog 8 #[] w fun e w' => e = .returned (.bool true) ∧ Below w.heap.size w w' := by
  have CA := par_Parse awA w hT (by decide)
  have HB := Lib.hid (fun W (hW : Below w.heap.size w W) => par_Parse awB W (Utf8Tabs_below hT hW) (by decide))
  have HC := Lib.hid (fun W (hW : Below w.heap.size w W) => par_Parse awC W (Utf8Tabs_below hT hW) (by decide))
  unfold awA at CA
  unfold awB at HB
  unfold awC at HC
  clear hT
  go_enter Tryd.func8, Tryd.ntmps8
  go_upto_region 2 with (go_at_call 9; refine CA.mono ?_; rintro e w1 ⟨v1, Z1, rfl, hn1, hz1, hb1⟩; have H1 := Lib.hid (And.intro hn1 (And.intro hz1 hb1)); clear hn1 hz1 hb1)
  clear CA
  have hl := awA_l
  have hE := awA_e
  unfold awA at hl hE
  obtain ⟨g, c, rfl, h3⟩ := parsed_at H1.out.1 H1.out.2.1 3 (by rw [hl.1]; decide)
  obtain ⟨g', c', e', h2⟩ := parsed_at H1.out.1 H1.out.2.1 2 (by rw [hl.1]; decide)
  cases e'
  rw [hE, hl.1]
  have k3 : (parseL ⟨#[97, 98, 42]⟩)[3]?.map (fun n => n.kind) = some 3 := by rw [← List.getElem?_map, hl.2.1]; rfl
  have k2 : (parseL ⟨#[97, 98, 42]⟩)[2]?.map (fun n => n.hi) = some (-1) := by rw [← List.getElem?_map, hl.2.2]; rfl
  have HX3 := Lib.hid (fun W (hW : Below w1.heap.size w1 W) => (by
    have := (h3 W hW).1
    rw [List.getElem?_eq_getElem (by rw [hl.1]; decide)] at k3
    rw [show (parseL ⟨#[97, 98, 42]⟩)[3].kind = 3 from Option.some.inj k3] at this
    exact this : W.cell? ⟨g, 15, none⟩ = some (.int .i64 3)))
  have HX2 := Lib.hid (fun W (hW : Below w1.heap.size w1 W) => (by
    have := (h2 W hW).2.2
    rw [List.getElem?_eq_getElem (by rw [hl.1]; decide)] at k2
    rw [show (parseL ⟨#[97, 98, 42]⟩)[2].hi = -1 from Option.some.inj k2] at this
    exact this : W.cell? ⟨g, 13, none⟩ = some (.int .i64 (-1))))
  clear h3 h2 k3 k2 hl hE
  have CB := HB.out w1 H1.out.2.2
  go_upto_region 3 with (go_at_call 9; refine CB.mono ?_; rintro e w2 ⟨v2, Z2, rfl, hn2, -, hb2⟩; obtain ⟨a2, c2, rfl⟩ := owns_slice hn2.own; have H2 := Lib.hid hb2; clear hn2 hb2)
  have CC := HC.out w2 (H1.out.2.2.trans (H2.out.mono H1.out.2.2.size))
  clear CB
  go_upto_region 4 with (go_at_call 9; refine CC.mono ?_; rintro e w3 ⟨v3, Z3, rfl, hn3, -, hb3⟩; obtain ⟨a3, c3, rfl⟩ := owns_slice hn3.own; have H3 := Lib.hid hb3; clear hn3 hb3)
  clear CC
  have e2 := awB_e
  have e3 := awC_e
  unfold awB at e2
  unfold awC at e3
  rw [e2, e3]
  have hb13 : Below w1.heap.size w1 w3 := H2.out.trans (H3.out.mono H2.out.size)
  have x3 := HX3.out w3 hb13
  have x2 := HX2.out w3 hb13
  clear e2 e3
  go_wp2_with fail
  go_ret
  exact ⟨rfl, H1.out.2.2.trans (hb13.mono H1.out.2.2.size)⟩
theorem sizes_of (s : ByteArray) : (parseL s).length ≤ 1000 := by
  unfold parseL
  split
  · rename_i h
    unfold parseE at h
    split at h
    · cases h
    split at h
    · cases h
    unfold treeL
    cases hp : patP (runesZ s) with
    | none => exact Nat.zero_le _
    | some f =>
      show (if treeE (runesZ s) = 0 then f.nodes else []).length ≤ 1000
      rw [if_pos h]
      have hrl := runesZ_len s
      unfold patP at hp
      cases ha : altN ((runesZ s).length + 1) (runesZ s) with
      | none =>
        rw [ha] at hp
        cases hp
      | some x =>
        obtain ⟨f', r⟩ := x
        rw [ha] at hp
        have hp2 : (if r = [] then some f' else none) = some f := hp
        by_cases hr : r = []
        · rw [if_pos hr] at hp2
          cases hp2
          have := (altN_part _ _ _ _ ha).few
          omega
        · rw [if_neg hr] at hp2
          cases hp2
  · exact Nat.zero_le _
set_option maxRecDepth 100000 in
set_option maxHeartbeats 4000000 in
theorem parses_walk (s : ByteArray) (w : World) (hT : Tabs w) (hs : s.size ≤ maxLen) : Calls Tryd.prog 3 #[.string s] w fun e w' => e = .returned (.bool true) ∧ Below w.heap.size w w' := by
  have cA := law18_awake w hT
  have HC := Lib.hid (fun W (hW : Below w.heap.size w W) => par_Parse s W (Utf8Tabs_below hT hW) hs)
  have HR := Lib.hid (fun W => ref_Parse s W hs)
  have hsz := sizes_of s
  have HS := Lib.hid (fun W B B' v v' Z Z' (h : NOwn W B v Z) (h' : NOwn W B' v' Z') (hz : Z.map Prod.fst = parseL s) (hz' : Z'.map Prod.fst = parseL s) => ref_Same B B' v v' Z Z' W h h' (hz.trans hz'.symm) (by
    have := congrArg List.length hz
    rw [List.length_map] at this
    omega))
  generalize parseE s = E at *
  clear hsz hT hs
  go_enter Tryd.func3, Tryd.ntmps3
  go_upto_region 3 with (go_at_call 8; refine cA.mono ?_; rintro e w1 ⟨rfl, hb1⟩)
  have CC := HC.out w1 hb1
  clear cA
  go_upto_region 4 with (go_at_call 9; refine CC.mono ?_; rintro e w2 ⟨v2, Z2, rfl, hn2, hz2, hb2⟩; obtain ⟨a2, c2, rfl⟩ := owns_slice hn2.own; have H2 := Lib.hid (And.intro hn2 (And.intro hz2 hb2)); clear hn2 hz2 hb2)
  have CR := HR.out w2
  clear CC
  go_upto_region 5 with (go_at_call 10; refine CR.mono ?_; rintro e w3 ⟨v3, Z3, rfl, hn3, hz3, hb3⟩; obtain ⟨a3, c3, rfl⟩ := owns_slice hn3.own; have H3 := Lib.hid (And.intro hn3 (And.intro hz3 hb3)); clear hn3 hz3 hb3)
  clear CR
  have CS := HS.out w3 _ _ _ _ Z2 Z3 (H2.out.1.keptB H3.out.2.2) H3.out.1 H2.out.2.1 H3.out.2.1
  have hee : (E == E) = true := by simp
  go_wp2_with (go_at_call 11; refine CS.mono ?_; rintro e w4 ⟨rfl, hb4⟩)
  go_ret
  have h1 := H2.out.2.2
  have h2 := H3.out.2.2
  exact ⟨rfl, hb1.trans ((h1.trans ((h2.trans (hb4.mono h2.size)).mono h1.size)).mono hb1.size)⟩
end Go.Proofs.YthmhmckkkceclaaDoor
