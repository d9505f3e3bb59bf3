/-
  ReplyChunks' walk.
-/
import Derived.Test.YtknoimflimhcgaaDoorRepS
namespace Go.Proofs.YtknoimflimhcgaaDoor
open Go.RowKit

theorem grown_trans {a w w' : World} {row : Option Nat} (h : a.grownBy w row) (k : w.grownBy w' row) : a.grownBy w' row :=
  ⟨k.os.trans h.os, k.tape.trans h.tape, k.output.trans h.output, Nat.le_trans h.size k.size, fun j hj hne => (k.block j (Nat.lt_of_lt_of_le hj h.size) hne).trans (h.block j hj hne)⟩
theorem chunks_some {l : Byt} {M : List Byt} {d : Bool} (h : chunksOf l = some (M, d)) (va : Value) (W : World) (hrow : argRow W va l.length 1 (Lib.byteCells l)) (hl : l.length ≤ 1000000000) :
    Calls Tryd.prog 8 #[va] W fun e w' => ∃ v, e = .returned (.tuple #[v, .bool d, .int .i64 0]) ∧ Parts w' W.heap.size v M ∧ Below W.heap.size W w' := by
  have := chunks_val va l W hrow hl
  rw [h] at this
  exact this
theorem chunks_none {l : Byt} (h : chunksOf l = none) (va : Value) (W : World) (hrow : argRow W va l.length 1 (Lib.byteCells l)) (hl : l.length ≤ 1000000000) :
    Calls Tryd.prog 8 #[va] W fun e w' => ∃ v, e = .returned (.tuple #[v, .bool false, .int .i64 6]) ∧ Below W.heap.size W w' := by
  have := chunks_val va l W hrow hl
  rw [h] at this
  exact this.mono fun e w' ⟨v, h1, _, h2⟩ => ⟨v, h1, h2⟩
theorem same_calls {a b : Value} {X : List Byt} {W : World} (h1 : Rows W a X) (h2 : Rows W b X) : Calls Tryd.prog 10 #[a, b] W fun e w' => e = .returned (.bool true) ∧ Below W.heap.size W w' := by
  have := ref_Same a b X X W h1 h2
  rw [decide_eq_true rfl] at this
  exact this

set_option maxRecDepth 100000 in
set_option maxHeartbeats 4000000 in
theorem parts_walk (va : Value) (L : List Byt) (c : Int) (w : World) (hT : Tabs27 w) (hrows : Rows w va L) (hbd : (L.map fun l => l.length + 1).sum ≤ 1048576) (hLl : L.length ≤ 1048576) (hmem : ∀ l ∈ L, l.length ≤ 1048576) :
    Calls Tryd.prog 5 #[va, .int .i64 c] w fun e w' => e = .returned (.bool true) ∧ Below w.heap.size w w' := by
  have E8 : ElemT Tryd.prog 22 5 (.int .u8 0) 1 1 := ⟨Tryd.underlying22, info_u8', rfl, by decide⟩
  have EL : ElemT Tryd.prog 24 22 (.slice none 0 0) 1 24 := ⟨Tryd.underlying24, by kernel_rfl, rfl, by decide⟩
  have h16 : ∀ p ∈ L, p.length < 16 ^ 8 := fun p hp => Nat.lt_of_le_of_lt (hmem p hp) (by decide)
  have hall := Lib.hid (chunks_all h16)
  have hcut := Lib.hid (chunks_cut h16)
  have hlast := Lib.hid (chunks_last h16)
  have hmore := Lib.hid (chunks_more h16 120)
  have hPl := fun k => Nat.le_trans (allOf_take_len L k) (Nat.mul_le_mul_left 21 hbd)
  have hMl := fun k => Nat.le_trans (fullOf_le (L.take k)) (Nat.le_trans (by rw [List.length_take]; exact Nat.min_le_right _ _) hLl)
  obtain ⟨a0, c0, rfl, hc0, hc0m⟩ := hrows.shape
  have HROWS := Lib.hid hrows
  have HMEM := Lib.hid hmem
  clear hrows hmem h16 hbd
  have cA := law_awake w hT
  go_enter Tryd.func5, Tryd.ntmps5
  go_upto_region 3 with (go_at_call 7; refine cA.mono ?_; rintro e w1 ⟨rfl, hb1⟩)
  have HPL := Lib.hid hPl
  have HML := Lib.hid hMl
  clear cA hPl hMl
  go_wp2
  go_loopw [5, 6, 7] (fun aV wV iV wr => ∃ k : Nat, iV = .int .i64 k ∧ k ≤ L.length ∧ CS w w1 wr aV wV (allOf (L.take k)) (fullOf (L.take k))) (fun _ _ iV _ => L.length - (intOf iV).toNat)
  case atStart => exact ⟨0, rfl, Nat.zero_le _, ⟨World.ownsRow_nil _ _ _ _, Wants.nil _ _ _, Below.refl _ _⟩⟩
  case round =>
    obtain ⟨k, rfl, hk, hcs⟩ := hrel
    have HCS := Lib.hid hcs
    clear hcs
    by_cases hlt : k < L.length
    · have ta : L.take (k + 1) = L.take k ++ [L[k]] := List.take_succ_eq_append_getElem hlt
      have hP1 : allOf (L.take (k + 1)) = allOf (L.take k) ++ chunkOf L[k] := by rw [ta, allOf_snoc]
      have hM1 : fullOf (L.take (k + 1)) = fullOf (L.take k) ++ (if L[k] = [] then [] else [L[k]]) := by rw [ta, fullOf_snoc]
      have hpl := HPL.out (k + 1)
      rw [hP1, List.length_append] at hpl
      have hml := HML.out k
      have hlk := HMEM.out _ (List.getElem_mem hlt)
      obtain ⟨b, off, x, rfl, hbb, hx, hrx⟩ := HROWS.out.at hlt
      have cC := Lib.hid (fun W (hW : Below w.heap.size w W) => reply_Chunk x L[k] W (hT.below hW) (argRow_below hrx hW) (by omega))
      have HP1 := Lib.hid hP1
      have HM1 := Lib.hid hM1
      clear ta hP1 hM1
      generalize L[k] = p at *
      generalize hXP : allOf (L.take k) = P at *
      generalize hXM : fullOf (L.take k) = M at *
      clear hXP hXM
      obtain ⟨HALL, HWANT, HBEL⟩ := HCS.out
      obtain ⟨a5, c5, rfl⟩ := owns_slice HALL
      obtain ⟨E, hE, hE2⟩ := HWANT
      obtain ⟨a6, c6, rfl⟩ := owns_slice hE
      have hbr := below_seq hb1 HBEL
      have g1 : wr.cell? ⟨b, off + k, none⟩ = some x := by rw [hbr.cell (p := ⟨b, _, none⟩) hbb]; exact hx
      obtain ⟨ax, cx, rfl⟩ : ∃ a c, x = .slice a p.length c := by
        obtain ⟨_, a, c, e, _⟩ := hrx
        exact ⟨a, c, e⟩
      have HE := Lib.hid (And.intro hE hE2)
      have HA := Lib.hid HALL
      clear HALL hE hE2
      have i1 : (0 : Int) ≤ (k : Int) := by omega
      have i2 : (k : Int) < (L.length : Int) := by omega
      go_upto_region 9 with (first | (go_at_call 12; refine (cC.out _ hbr).mono ?_; rintro e w2 ⟨v30, rfl, hp30, hb2⟩) | (at_builtin; refine wpList_append_src rfl (.tmp 25) (.tmp 30) _ _ rfl w1.heap.size E8 _ _ _ rfl (owns_below HA.out hb2) _ (chunkOf p).length (Lib.byteCells (chunkOf p)) rfl (by exact src_arg Tryd.underlying22 (argRow_owns hp30) (byteCells_one _)) (by unfold maxLen; omega) (by omega) (by have := HBEL.size; have := hb2.size; omega) ?_; intro v3 w3 hown3 hgr3 _ _))
      have hcs3 := (HCS.out.below hb2).lay hown3 hgr3
      have hb3 := below_seq hb1 hcs3.bel
      have g3 : w3.cell? ⟨b, off + k, none⟩ = some (.slice ax p.length cx) := by rw [hb3.cell (p := ⟨b, _, none⟩) hbb]; exact hx
      have hs3 := hcs3.bel.size
      have HC3 := Lib.hid hcs3
      clear hcs3 hown3 hgr3 HE HA g1 hx
      by_cases hp0 : p = []
      · subst hp0
        rw [if_pos rfl, List.append_nil] at HM1
        go_wp2
        go_roundw
        case rel => exact ⟨k + 1, by go_num, by omega, by rw [HP1.out, HM1.out]; exact HC3.out⟩
        case measure => simp [intOf]; omega
      · have hpp : 0 < p.length := List.length_pos_iff.2 hp0
        have hpi : (0 : Int) < (p.length : Int) := by omega
        have HM2 := Lib.hid (show fullOf (L.take (k + 1)) = M ++ [p] by rw [HM1.out, if_neg hp0])
        obtain ⟨E', hE', hE2'⟩ := HC3.out.want
        have HE := Lib.hid (And.intro hE' hE2')
        clear hE' hE2' HM1 hp0
        go_wp2_with (at_builtin; refine wpList_append_src rfl _ _ _ _ rfl w1.heap.size EL (.slice a6 M.length c6) M.length E' rfl (HE.out.1.alloc _) _ 1 [.slice ax p.length cx] rfl (by exact src_last (cs := #[.slice ax p.length cx]) Tryd.underlying24 1 1 1 rfl rfl (by simp [Value.oneCell'])) (by unfold maxLen; omega) (by omega) (by simp; omega) ?_; intro v4 w4 hown4 hgr4 _ _)
        have hcs4 := Lib.hid ((HC3.out.below (belowA (Below.refl _ _))).list (HE.out.1.alloc _) HE.out.2 hown4 hrx hgr4)
        clear hown4 hgr4
        go_wp2
        go_roundw
        case rel => exact ⟨k + 1, by go_num, by omega, by rw [HP1.out, HM2.out]; exact hcs4.out⟩
        case measure => simp [intOf]; omega
    · obtain rfl : k = L.length := by omega
      have hpl := HPL.out L.length
      have hml := HML.out L.length
      rw [List.take_length] at HCS hpl hml
      clear HPL HML HROWS HMEM
      obtain ⟨wo, hwo⟩ : ∃ wo : World, wo = wr := ⟨_, rfl⟩
      subst hwo
      generalize allOf L = P at *
      generalize fullOf L = M at *
      obtain ⟨HALL, HWANT, HBEL⟩ := HCS.out
      obtain ⟨a5, c5, rfl⟩ := owns_slice HALL
      obtain ⟨E, hE, hE2⟩ := HWANT
      obtain ⟨a6, c6, rfl⟩ := owns_slice hE
      have hbr := below_seq hb1 HBEL
      have hws := HBEL.size
      have HA := Lib.hid HALL
      have HW := Lib.hid HCS.out.want
      clear HALL hE hE2
      obtain ⟨K, hK, hKe⟩ := umod c P.length
      go_upto_region 14 with (first | (go_at_call 8; refine (chunks_some hall.out _ _ (argRow_owns HA.out) (by omega)).mono ?_; rintro e w4 ⟨v4, rfl, hp4, hb4⟩) | (go_at_call 10; refine (same_calls hp4.rows ((HW.out.below hb4).rows (below_seq hbr hb4))).mono ?_; rintro e w5 ⟨rfl, hb5⟩))
      have HP4 := Lib.hid hp4
      clear hp4
      go_upto_region 15 with fail
      obtain ⟨M', hM', hpre⟩ := hcut.out K
      have hb45 := below_seq hb4 hb5
      have hcs5 := HCS.out.below hb45
      have hKrow : argRow w5 (.slice a5 K c5) (P.take K).length 1 (Lib.byteCells (P.take K)) := by
        have := argRow_take (argRow_owns hcs5.all) hK
        rw [Nat.mul_one] at this
        rw [List.length_take, Nat.min_eq_left hK]
        simpa [Lib.byteCells, List.map_take] using this
      have hKl : (P.take K).length ≤ 1000000000 := by rw [List.length_take]; omega
      have hac : P.length ≤ c5 := by
        obtain ⟨_, _, _, e, h1, _⟩ := argRow_owns HA.out
        cases e
        exact h1
      have hacm : c5 ≤ maxLen := by
        obtain ⟨_, _, _, e, _, h1, _⟩ := argRow_owns HA.out
        cases e
        exact h1
      unfold maxLen at hacm
      have j1 : (0 : Int) ≤ (K : Int) := by omega
      have j2 : (K : Int) ≤ (c5 : Int) := by omega
      have j3 : (K : Int) ≤ (P.length : Int) := by omega
      have HCS5 := Lib.hid hcs5
      clear hcs5
      have hml2 : M'.length ≤ M.length := hpre.length_le
      have hm1 : ¬ (M.length : Int) < (M'.length : Int) := by omega
      have hm2 : ¬ M.length < M'.length := by omega
      have hMe : M.take M'.length = M' := (List.prefix_iff_eq_take.1 hpre).symm
      have hrw : ∀ W, Below w5.heap.size w5 W → Rows W (.slice a6 M'.length c6) M' := fun W hW => by
        have h1 := ((HCS5.out.below hW).want.rows (below_seq hb1 (HCS5.out.below hW).bel)).take hml2
        rw [hMe] at h1
        exact h1
      have hmc : M.length ≤ c6 ∧ c6 ≤ maxLen := by
        obtain ⟨E', hE', _⟩ := HW.out
        obtain ⟨_, _, _, e, h1, h2, _⟩ := argRow_owns hE'
        cases e
        exact ⟨h1, h2⟩
      unfold maxLen at hmc
      have j4 : (0 : Int) ≤ (M'.length : Int) := by omega
      have j5 : (M'.length : Int) ≤ (c6 : Int) := by omega
      have HMe := Lib.hid hMe
      have HPRE := Lib.hid hpre
      clear hMe hpre
      go_upto_region 18 with (first | (go_at_call 8; refine (chunks_some hM' _ _ hKrow hKl).mono ?_; rintro e w6 ⟨v6, rfl, hp6, hb6⟩; obtain ⟨aM, cM, rfl, _, _⟩ := hp6.rows.shape) | (go_at_call 10; refine (same_calls hp6.rows (hrw _ hb6)).mono ?_; rintro e w7 ⟨rfl, hb7⟩))
      have hb57 := below_seq hb6 hb7
      have hcs7 := HCS5.out.below hb57
      have hp47 := HP4.out.below (below_seq hb5 hb57)
      clear hM' hrw hp6
      have hs7 := hcs7.bel.size
      have hpl5 : (Lib.byteCells lastB).length = 5 := rfl
      go_upto_region 19 with (first | (go_at_call 13; refine (reply_Last _).mono ?_; rintro e w8 ⟨v8, rfl, hr8, hb8⟩) | (at_builtin; refine wpList_append_src rfl _ _ _ _ rfl w1.heap.size E8 _ _ _ rfl (owns_below hcs7.all hb8) _ 5 (Lib.byteCells lastB) rfl (by exact src_arg Tryd.underlying22 hr8 (byteCells_one _)) (by unfold maxLen; omega) (by omega) (by have := hb8.size; omega) ?_; intro v9 w9 hown9 hgr9 _ hbk9))
      have hcs9 : CS w w1 w9 v9 (.slice a6 M.length c6) (P ++ lastB) M := (hcs7.below hb8).lay hown9 hgr9
      have hP2 : (P ++ lastB).length ≤ 22020101 := by
        rw [List.length_append]
        have : lastB.length = 5 := rfl
        omega
      have hP20 : 0 < (P ++ lastB).length := by rw [List.length_append]; have : lastB.length = 5 := rfl; omega
      have hlast' := hlast.out
      have hmore' := hmore.out
      clear hall hcut hlast hmore hown9
      generalize P ++ lastB = P2 at *
      obtain ⟨g, c9, rfl, hg1, hg9⟩ : ∃ g c, v9 = .slice (some ⟨g, 0, none⟩) P2.length c ∧ w1.heap.size ≤ g ∧ g < w9.heap.size := by
        rcases hcs9.all.2 with ⟨_, h0⟩ | ⟨g, c, cur, rfl, hb, hg, _⟩
        · omega
        · exact ⟨g, c, rfl, hb, (Array.getElem?_eq_some_iff.1 hg).1⟩
      have hp48 := hp47.below hb8
      have hgg : g < wo.heap.size ∨ g = w8.heap.size := by
        rcases hbk9 with h | h
        · exact .inl (HA.out.lt g h.symm).2
        · exact .inr (by simpa [Value.ownBlock] using h)
      have hown5 : ∀ k, (Value.slice a5 P.length c5).ownBlock = some k → k < wo.heap.size := fun k hk => (HA.out.lt k hk).2
      have hkeep9 : ∀ i, wo.heap.size ≤ i → i < w8.heap.size → w9.heap[i]? = w8.heap[i]? := fun i h1 h2 => hgr9.block i h2 (fun e => by have := hown5 i e.symm; omega)
      have hs9 := hcs9.bel.size
      have h89 := hgr9.size
      have HCS9 := Lib.hid hcs9
      have HP48 := Lib.hid hp48
      have HGG := Lib.hid hgg
      have HK9 := Lib.hid hkeep9
      clear hcs9 hp47 hp48 hgg hkeep9 hown5 hgr9 hbk9 HCS5 HP4 HW HCS hcs7
      go_upto_region 20 with (go_at_call 8; refine (chunks_some hlast' _ _ (argRow_owns HCS9.out.all) (by omega)).mono ?_; rintro e w10 ⟨v10, rfl, hp10, hb10⟩)
      have hcs10 := HCS9.out.below hb10
      have hs10 := hb10.size
      have HCS10 := Lib.hid hcs10
      have HP10 := Lib.hid hp10
      clear hcs10 hp10 hlast'
      have hone : ∀ u ∈ (#[Value.int .u8 120] : Array Value).toList, u.oneCell' = true := by simp [Value.oneCell']
      go_upto_region 21 with (first | (at_builtin; refine wpList_append_src rfl (.tmp 109) (.tmp 110) _ _ rfl w10.heap.size E8 _ 0 [] rfl (owns_new w10 #[] _ 0 rfl (by decide)) _ P2.length (Lib.byteCells P2) rfl (by exact src_arg Tryd.underlying22 (argRow_owns (HCS10.out.below (belowA (Below.refl _ _))).all) (byteCells_one _)) (by unfold maxLen; omega) (by omega) (by simp) ?_; intro v11 w11 hown11 hgr11 _ _) | (at_builtin; refine wpList_append_src rfl _ _ _ _ rfl w10.heap.size E8 _ _ _ rfl (hown11.alloc _) _ 1 [.int .u8 120] rfl (by exact src_last (cs := #[.int .u8 120]) Tryd.underlying22 1 1 1 rfl rfl hone) (by unfold maxLen; omega) (by omega) (by have := hgr11.size; simp at this ⊢; omega) ?_; intro v12 w12 hown12 hgr12 _ _) | (go_at_call 8; refine (chunks_none hmore' _ _ (by have h := argRow_owns hown12; rw [Nat.zero_add, List.nil_append] at h; rw [List.length_append, byteCells_append]; exact h) (by simp; omega)).mono ?_; rintro e w13 ⟨v13, rfl, hb13⟩))
      have b1 : Below w10.heap.size w10 w11 := (belowA (Below.refl _ _)).grown hgr11 (by simp) (fun k hk => by
        cases hk
        exact Nat.le_refl _)
      have b2 : Below w10.heap.size w10 w12 := (belowA b1).grown hgr12 (by have := b1.size; simp; omega) (fun k hk => (hown11.lt k hk).1)
      have B13 : Below w10.heap.size w10 w13 := b2.trans (hb13.mono b2.size)
      have hcs13 := HCS10.out.below B13
      have hp13 := HP10.out.below B13
      have hs13 := B13.size
      have hk13 : ∀ i, wo.heap.size ≤ i → i < w8.heap.size → w13.heap[i]? = w8.heap[i]? := fun i h1 h2 => by
        rw [B13.block i (by omega), hb10.block i (by omega), HK9.out i h1 h2]
      have HCS13 := Lib.hid hcs13
      have HP13 := Lib.hid hp13
      have HK13 := Lib.hid hk13
      clear b1 b2 B13 hcs13 hp13 hk13 hown11 hgr11 hown12 hgr12 HCS9 HCS10 HP10 HK9 hb13 hmore'
      go_wp2
      go_loopw [16] (fun iv wr => ∃ p : Nat, iv = .int .i64 p ∧ p ≤ P2.length ∧ w13.grownBy wr (some g) ∧ ∃ xs, wr.ownsRow w1.heap.size 5 1 (.slice (some ⟨g, 0, none⟩) P2.length c9) P2.length xs) (fun iv _ => P2.length - (intOf iv).toNat)
      case atStart => exact ⟨0, rfl, Nat.zero_le _, ⟨rfl, rfl, rfl, Nat.le_refl _, fun _ _ _ => rfl⟩, _, HCS13.out.all⟩
      case round =>
        obtain ⟨p, rfl, hp, hgr, xs, hxs⟩ := hrel
        by_cases hpl' : p < P2.length
        · obtain ⟨x, hcp⟩ : ∃ x, wr.cell? ⟨g, p, none⟩ = some x := ⟨xs[p]'(by have := hxs.1; omega), by rw [hxs.cellAt p (by omega), List.getElem?_eq_getElem]⟩
          have hfp := hxs.frozenAt p
          have hst := Lib.hid (hxs.stored p (.int .u8 238))
          have HGR := Lib.hid hgr
          clear hxs hgr
          have i1 : (0 : Int) ≤ (p : Int) := by omega
          have i2 : (p : Int) < (P2.length : Int) := by omega
          go_wp2
          go_roundw
          case rel => exact ⟨p + 1, by go_num, by omega, grown_trans HGR.out hst.out.2, _, hst.out.1⟩
          case measure => simp [intOf]; omega
        · obtain rfl : p = P2.length := by omega
          have hl : Rows wr v4 M := (HP48.out.same (fun i h1 h2 => by
            rw [hgr.block i (by omega) (fun e => by have := HGG.out; simp only [Option.some.injEq] at e; omega), HK13.out i h1 h2])).rows
          have hm : Rows wr v10 M := (HP13.out.same (fun i h1 h2 => hgr.block i (by omega) (fun e => by simp only [Option.some.injEq] at e; omega))).rows
          have hB := below_seq hb1 (HCS13.out.bel.grown hgr HCS13.out.bel.size (fun k hk => by simp only [Option.some.injEq] at hk; omega))
          have hw := (HCS13.out.want.bytes HCS13.out.all hgr).rows hB
          have cS := Lib.hid (fun W va (hW : Below wr.heap.size wr W) (hva : Rows wr va M) => (same_calls (hva.below hW) (hw.below hW)).mono (fun e w' h => ⟨h.1, below_seq hW h.2⟩ : ∀ e w', _ → e = .returned (.bool true) ∧ Below wr.heap.size wr w'))
          have hb0 := Below.refl wr.heap.size wr
          clear hw hxs hgr HCS13 HK13 HP13 HP48 HGG
          go_wp2_with (go_at_call 10; refine (cS.out _ _ (by assumption) (by assumption)).mono ?_; rintro e wA ⟨rfl, hbA⟩)
          go_ret
          exact ⟨rfl, below_seq hB (by assumption)⟩
end Go.Proofs.YtknoimflimhcgaaDoor
