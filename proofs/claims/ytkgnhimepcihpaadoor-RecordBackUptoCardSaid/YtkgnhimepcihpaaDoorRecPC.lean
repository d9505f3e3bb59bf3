/-
  The walk of RecordBack.
-/
import Derived.Test.YtkgnhimepcihpaaDoorRecPB
import Derived.Test.YtkgnhimepcihpaaDoorRecY
namespace Go.Proofs.YtkgnhimepcihpaaDoor
open Go.RowKit
set_option maxRecDepth 100000 in
set_option maxHeartbeats 8000000 in
theorem back_walk9 (v : Value) (Z : List RecL) (vb : Value) (b : List UInt8) (w : World) (hT : Tabs w) (h : RRow w v Z) (hi : ∀ z ∈ Z, inRec z.1) (hZ : Z.length ≤ 1048576) (hrow : argRow w vb b.length 1 (Lib.byteCells b)) (hl : b.length ≤ 1000000000) :
    Calls Tryd.prog 6 #[v, vb] w fun e w' => e = .returned (.bool true) ∧ Below w.heap.size w w' := by
  have CA := Lib.hid (law09_awake w hT)
  have CL := Lib.hid (fun W (hW : Below w.heap.size w W) => record_GetAll vb b W (argRow_below hrow hW) hl (Utf8Tabs_below hT hW))
  have CP := Lib.hid (fun W (hW : Below w.heap.size w W) => record_PutAll v Z W (h.below hW) (Utf8Tabs_below hT hW) hi hZ)
  have hcvb := Lib.hid (fun W (hW : Below w.heap.size w W) => conv_arg (argRow_below hrow hW))
  have hin : ∀ r ∈ Z.map Prod.fst, inRec r := fun r hr => by
    obtain ⟨z, hz, rfl⟩ := List.mem_map.1 hr
    exact hi z hz
  have hbl := putB_len hin
  have HGP := Lib.hid (fun hE => get_put hin (of_put hE))
  have HGS := Lib.hid (fun hE k hk => get_short hin (of_put hE) (k := k) hk)
  have HGM := Lib.hid (fun hE => get_more hin (of_put hE) 0)
  have HNE := Lib.hid (fun hE => putB_bad (l := Z.map Prod.fst) hE)
  obtain ⟨E, hE⟩ : ∃ E, putE (Z.map Prod.fst) = E := ⟨_, rfl⟩
  obtain ⟨G, hG⟩ : ∃ E, putB (Z.map Prod.fst) = E := ⟨_, rfl⟩
  rw [hE, hG] at CP HGP HGS
  rw [hG] at hbl
  rw [hE, hG] at HGM HNE
  have H := Lib.hid h
  obtain ⟨al, cl, rfl, hlc, hlc2⟩ := h.shape
  obtain ⟨ab, cb, rfl⟩ : ∃ a c, vb = .slice a b.length c := by
    obtain ⟨_, a, c, e, _⟩ := hrow
    exact ⟨a, c, e⟩
  clear h hi hE hG hrow hin
  by_cases hA : allE b = 0
  · have hga := all_zero hA
    obtain ⟨hpg, hok⟩ := put_get hga
    obtain ⟨q1, q2⟩ := put_of hpg
    rw [hA] at CL
    have hlen := allL_len b
    have HOK := Lib.hid hok
    have HQ1 := Lib.hid q1
    have HQ2 := Lib.hid q2
    clear hga hpg hok q1 q2
    go_enter Tryd.func6, Tryd.ntmps6
    go_upto_region 3 with (go_at_call 12; refine CA.out.mono ?_; rintro en w1 ⟨rfl, hb1⟩)
    go_upto_region 4 with (go_at_call 15; refine (CL.out _ hb1).mono ?_; rintro en w2 ⟨v2, Z2, rfl, hZ2, ho2, hb2⟩)
    have hb12 := below_seq hb1 hb2
    have cQ := record_PutAll v2 Z2 w2 ho2.row (Utf8Tabs_below hT hb12) (fun z hz => ok_in (HOK.out _ (by rw [← hZ2]; exact List.mem_map_of_mem hz))) (by have := congrArg List.length hZ2; rw [List.length_map] at this; omega)
    rw [hZ2, HQ1.out, HQ2.out] at cQ
    have CQ := Lib.hid cQ
    clear cQ
    go_upto_region 6 with (go_at_call 20; refine CQ.out.mono ?_; rintro en w3 ⟨v3, rfl, ho3, hb3⟩)
    have hb13 := below_seq hb12 hb3
    have c1 := conv_ob ho3
    have c2 := hcvb.out w3 hb13
    go_upto_region 8 with fail
    clear c1 c2 ho3 CQ ho2 hZ2
    go_upto_region 9 with (go_at_call 20; refine (CP.out _ hb13).mono ?_; rintro en w4 ⟨v4, rfl, ho4, hb4⟩; obtain ⟨a4, c4, rfl⟩ := owns_slice ho4)
    have hb14 := below_seq hb13 hb4
    by_cases hE0 : E = 0
    · obtain ⟨g1, g2⟩ := all_ok (HGP.out hE0)
      have hS := HGS.out hE0
      have hM := HGM.out hE0
      have HS := Lib.hid (fun k hk => (all_err (hS k hk)).1)
      have HM := Lib.hid (all_err hM).1
      subst hE0
      have harg4 := argRow_owns ho4
      have hlc4 : G.length ≤ c4 ∧ c4 ≤ maxLen := by
        obtain ⟨_, a, c, e, h1, h2, _⟩ := harg4
        cases e
        exact ⟨h1, h2⟩
      have cM := record_GetAll (.slice a4 G.length c4) G w4 harg4 (by omega) (Utf8Tabs_below hT hb14)
      rw [g1] at cM
      have CM := Lib.hid cM
      have HARG := Lib.hid harg4
      have HO4 := Lib.hid ho4
      have G2 := Lib.hid g2
      clear cM harg4 ho4 g1 g2 hS hM HGP HGS HGM HNE
      obtain ⟨hlc4a, hlc4b⟩ := hlc4
      unfold maxLen at hlc4b
      go_upto_region 12 with (go_at_call 15; refine CM.out.mono ?_; rintro en w5 ⟨v5, Z5, rfl, hZ5, ho5, hb5⟩)
      have hb15 := below_seq hb14 hb5
      have cS := rrec_SameAll (.slice al Z.length cl) v5 Z Z5 w5 (H.out.below hb15) ho5.row (by omega)
      rw [hZ5, G2.out, decide_eq_true rfl] at cS
      have CS := Lib.hid cS
      clear cS ho5 hZ5 CM
      go_wp2_with (go_at_call 18; refine CS.out.mono ?_; rintro en w6 ⟨rfl, hb6⟩)
      have hb46 := below_seq hb5 hb6
      have t2 : ((G.length : Nat) : Int).tdiv 40 = ((G.length / 40 : Nat) : Int) := by rw [Int.tdiv_eq_ediv_of_nonneg (by omega)]; omega
      clear CS hb5 hb6 hb15
      go_loopw [10, 11, 12] (fun kv _ _ wr => ∃ k : Nat, kv = .int .i64 (k : Int) ∧ k ≤ G.length + 1 + G.length / 40 ∧ Below w4.heap.size w4 wr) (fun kv _ _ _ => 2000000000 - (intOf kv).toNat)
      case atStart => exact ⟨0, rfl, by omega, hb46⟩
      case round =>
        obtain ⟨k, rfl, hk, hbr⟩ := hrel
        by_cases hlt : k < G.length
        · have i1 : (k : Int) < (G.length : Int) := by omega
          have i2 : (0 : Int) ≤ (k : Int) := by omega
          have i3 : (k : Int) ≤ (c4 : Int) := by omega
          have i4 : ¬ c4 = 0 := by omega
          have i5 : ¬ 0 = c4 := by omega
          have cK := record_GetAll (.slice a4 k c4) (G.take k) wr (arg_take (argRow_below HARG.out hbr) (by omega)) (by rw [List.length_take]; omega) (Utf8Tabs_below hT (below_seq hb14 hbr))
          rw [HS.out k hlt] at cK
          have CK := Lib.hid cK
          clear cK
          rcases a4 with _ | ⟨b0, off, spot⟩
          all_goals
            go_wp2_with (go_at_call 15; refine CK.out.mono ?_; rintro en w7 ⟨v7, Z7, rfl, -, -, hb7⟩)
            go_roundw
            case rel => exact ⟨k + (1 + G.length / 40), by go_num, by omega, below_seq hbr hb7⟩
            case measure => simp [intOf]; omega
        · have i1 : ¬ (k : Int) < (G.length : Int) := by omega
          have ho8 : (wr.alloc (.cells #[] 5)).ownsRow wr.heap.size 5 1 (.slice (some ⟨wr.heap.size, 0, none⟩) 0 0) 0 [] := owns_new wr #[] 5 0 rfl (by decide)
          have hb8 := belowA (o := .cells #[] 5) (Below.refl wr.heap.size wr)
          have hsrc := OB.src (owns_below (owns_below HO4.out hbr) hb8)
          have CM9 := Lib.hid (fun v W (ha : argRow W v (G ++ [0]).length 1 (Lib.byteCells (G ++ [0]))) (hW : Below w.heap.size w W) => record_GetAll v (G ++ [0]) W ha (by rw [List.length_append]; show G.length + 1 ≤ _; omega) (Utf8Tabs_below hT hW))
          rw [HM.out] at CM9
          clear t2
          go_wp2_with (first
            | (at_builtin; refine wpList_append_src rfl (.tmp 81) _ _ _ rfl wr.heap.size E8 _ _ _ rfl ho8 _ G.length (Lib.byteCells G) rfl (by exact hsrc) (by unfold maxLen; omega) (by omega) (by simp) ?_; intro v9 w9 hown9 hgr9 _ _; have hb9 := hb8.grown hgr9 (by simp) (fun j hj => (ho8.lt j hj).1); have hs9 := hb9.size)
            | (at_builtin; refine wpList_append_src rfl (.tmp 83) _ _ _ rfl wr.heap.size E8 _ _ _ rfl (hown9.alloc _) _ 1 [.int .u8 0] rfl (by exact src_last (cs := #[.int .u8 0]) Tryd.underlying22 1 1 1 rfl rfl (by simp [Value.oneCell'])) (by unfold maxLen; simp; omega) (by simp; omega) (by simp; omega) ?_; intro v10 w10 hown10 hgr10 _ _; have hb10 := (belowA hb9).grown hgr10 (by simp; omega) (fun j hj => (hown9.lt j hj).1); have ho10 : w10.ownsRow wr.heap.size 5 1 v10 (G ++ [0]).length (Lib.byteCells (G ++ [0])) := (by have e1 : (G ++ [0]).length = 0 + G.length + 1 := (by simp); rw [e1, byteCells_append]; exact hown10))
            | (go_at_call 15; refine (CM9.out _ _ (argRow_owns ho10) (below_seq (below_seq hb14 hbr) hb10)).mono ?_; rintro en w11 ⟨v11, Z11, rfl, -, -, hb11⟩))
          go_ret
          exact ⟨by first | rfl | (simp; done), below_seq (below_seq (below_seq hb14 hbr) hb10) hb11⟩
    · have hGn := HNE.out hE0
      subst hGn
      have hE' : (E != 0) = true := by simpa using hE0
      clear hE0 HGP HGS HGM HNE
      go_wp2
      go_ret
      exact ⟨by first | rfl | simp, hb14⟩
  · have hA' : (allE b == 0) = false := by simpa using hA
    go_enter Tryd.func6, Tryd.ntmps6
    go_upto_region 3 with (go_at_call 12; refine CA.out.mono ?_; rintro en w1 ⟨rfl, hb1⟩)
    go_upto_region 4 with (go_at_call 15; refine (CL.out _ hb1).mono ?_; rintro en w3 ⟨v2, Z2, rfl, hZ2, ho2, hb2⟩)
    have hb13 := below_seq hb1 hb2
    go_upto_region 8 with fail
    clear hA hA' hZ2 ho2
    go_upto_region 9 with (go_at_call 20; refine (CP.out _ hb13).mono ?_; rintro en w4 ⟨v4, rfl, ho4, hb4⟩; obtain ⟨a4, c4, rfl⟩ := owns_slice ho4)
    have hb14 := below_seq hb13 hb4
    by_cases hE0 : E = 0
    · obtain ⟨g1, g2⟩ := all_ok (HGP.out hE0)
      have hS := HGS.out hE0
      have hM := HGM.out hE0
      have HS := Lib.hid (fun k hk => (all_err (hS k hk)).1)
      have HM := Lib.hid (all_err hM).1
      subst hE0
      have harg4 := argRow_owns ho4
      have hlc4 : G.length ≤ c4 ∧ c4 ≤ maxLen := by
        obtain ⟨_, a, c, e, h1, h2, _⟩ := harg4
        cases e
        exact ⟨h1, h2⟩
      have cM := record_GetAll (.slice a4 G.length c4) G w4 harg4 (by omega) (Utf8Tabs_below hT hb14)
      rw [g1] at cM
      have CM := Lib.hid cM
      have HARG := Lib.hid harg4
      have HO4 := Lib.hid ho4
      have G2 := Lib.hid g2
      clear cM harg4 ho4 g1 g2 hS hM HGP HGS HGM HNE
      obtain ⟨hlc4a, hlc4b⟩ := hlc4
      unfold maxLen at hlc4b
      go_upto_region 12 with (go_at_call 15; refine CM.out.mono ?_; rintro en w5 ⟨v5, Z5, rfl, hZ5, ho5, hb5⟩)
      have hb15 := below_seq hb14 hb5
      have cS := rrec_SameAll (.slice al Z.length cl) v5 Z Z5 w5 (H.out.below hb15) ho5.row (by omega)
      rw [hZ5, G2.out, decide_eq_true rfl] at cS
      have CS := Lib.hid cS
      clear cS ho5 hZ5 CM
      go_wp2_with (go_at_call 18; refine CS.out.mono ?_; rintro en w6 ⟨rfl, hb6⟩)
      have hb46 := below_seq hb5 hb6
      have t2 : ((G.length : Nat) : Int).tdiv 40 = ((G.length / 40 : Nat) : Int) := by rw [Int.tdiv_eq_ediv_of_nonneg (by omega)]; omega
      clear CS hb5 hb6 hb15
      go_loopw [10, 11, 12] (fun kv _ _ wr => ∃ k : Nat, kv = .int .i64 (k : Int) ∧ k ≤ G.length + 1 + G.length / 40 ∧ Below w4.heap.size w4 wr) (fun kv _ _ _ => 2000000000 - (intOf kv).toNat)
      case atStart => exact ⟨0, rfl, by omega, hb46⟩
      case round =>
        obtain ⟨k, rfl, hk, hbr⟩ := hrel
        by_cases hlt : k < G.length
        · have i1 : (k : Int) < (G.length : Int) := by omega
          have i2 : (0 : Int) ≤ (k : Int) := by omega
          have i3 : (k : Int) ≤ (c4 : Int) := by omega
          have i4 : ¬ c4 = 0 := by omega
          have i5 : ¬ 0 = c4 := by omega
          have cK := record_GetAll (.slice a4 k c4) (G.take k) wr (arg_take (argRow_below HARG.out hbr) (by omega)) (by rw [List.length_take]; omega) (Utf8Tabs_below hT (below_seq hb14 hbr))
          rw [HS.out k hlt] at cK
          have CK := Lib.hid cK
          clear cK
          rcases a4 with _ | ⟨b0, off, spot⟩
          all_goals
            go_wp2_with (go_at_call 15; refine CK.out.mono ?_; rintro en w7 ⟨v7, Z7, rfl, -, -, hb7⟩)
            go_roundw
            case rel => exact ⟨k + (1 + G.length / 40), by go_num, by omega, below_seq hbr hb7⟩
            case measure => simp [intOf]; omega
        · have i1 : ¬ (k : Int) < (G.length : Int) := by omega
          have ho8 : (wr.alloc (.cells #[] 5)).ownsRow wr.heap.size 5 1 (.slice (some ⟨wr.heap.size, 0, none⟩) 0 0) 0 [] := owns_new wr #[] 5 0 rfl (by decide)
          have hb8 := belowA (o := .cells #[] 5) (Below.refl wr.heap.size wr)
          have hsrc := OB.src (owns_below (owns_below HO4.out hbr) hb8)
          have CM9 := Lib.hid (fun v W (ha : argRow W v (G ++ [0]).length 1 (Lib.byteCells (G ++ [0]))) (hW : Below w.heap.size w W) => record_GetAll v (G ++ [0]) W ha (by rw [List.length_append]; show G.length + 1 ≤ _; omega) (Utf8Tabs_below hT hW))
          rw [HM.out] at CM9
          clear t2
          go_wp2_with (first
            | (at_builtin; refine wpList_append_src rfl (.tmp 81) _ _ _ rfl wr.heap.size E8 _ _ _ rfl ho8 _ G.length (Lib.byteCells G) rfl (by exact hsrc) (by unfold maxLen; omega) (by omega) (by simp) ?_; intro v9 w9 hown9 hgr9 _ _; have hb9 := hb8.grown hgr9 (by simp) (fun j hj => (ho8.lt j hj).1); have hs9 := hb9.size)
            | (at_builtin; refine wpList_append_src rfl (.tmp 83) _ _ _ rfl wr.heap.size E8 _ _ _ rfl (hown9.alloc _) _ 1 [.int .u8 0] rfl (by exact src_last (cs := #[.int .u8 0]) Tryd.underlying22 1 1 1 rfl rfl (by simp [Value.oneCell'])) (by unfold maxLen; simp; omega) (by simp; omega) (by simp; omega) ?_; intro v10 w10 hown10 hgr10 _ _; have hb10 := (belowA hb9).grown hgr10 (by simp; omega) (fun j hj => (hown9.lt j hj).1); have ho10 : w10.ownsRow wr.heap.size 5 1 v10 (G ++ [0]).length (Lib.byteCells (G ++ [0])) := (by have e1 : (G ++ [0]).length = 0 + G.length + 1 := (by simp); rw [e1, byteCells_append]; exact hown10))
            | (go_at_call 15; refine (CM9.out _ _ (argRow_owns ho10) (below_seq (below_seq hb14 hbr) hb10)).mono ?_; rintro en w11 ⟨v11, Z11, rfl, -, -, hb11⟩))
          go_ret
          exact ⟨by first | rfl | (simp; done), below_seq (below_seq (below_seq hb14 hbr) hb10) hb11⟩
    · have hGn := HNE.out hE0
      subst hGn
      have hE' : (E != 0) = true := by simpa using hE0
      clear hE0 HGP HGS HGM HNE
      go_wp2
      go_ret
      exact ⟨by first | rfl | simp, hb14⟩
end Go.Proofs.YtkgnhimepcihpaaDoor
