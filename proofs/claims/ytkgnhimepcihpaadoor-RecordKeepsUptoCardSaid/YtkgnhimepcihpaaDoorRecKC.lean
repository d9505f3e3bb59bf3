/-
  The walk of RecordKeeps.
-/
import Derived.Test.YtkgnhimepcihpaaDoorRecKD
import Derived.Test.YtkgnhimepcihpaaDoorRecY
namespace Go.Proofs.YtkgnhimepcihpaaDoor
open Go.RowKit Go.WideShapes
theorem recsCells_one (Z : List RecL) (w : World) (h : ∀ z ∈ Z, RecAt w z.2 z.1) : ∀ u ∈ recsCells Z, u.oneCell' = true := by
  intro u hu
  obtain ⟨z, hz, hx⟩ := List.mem_flatMap.1 hu
  obtain ⟨a, c, e, -, -⟩ := (h z hz).1.shape
  simp only [recCells, List.mem_cons, List.mem_nil_iff, or_false] at hx
  rcases hx with rfl | rfl | rfl | rfl
  · rfl
  · rfl
  · rw [e]; rfl
  · rfl
theorem own_take {w : World} {B : Nat} {Z : List RecL} {xs : List Value} {g c : Nat} (h : w.ownsRow B 27 4 (.slice (some ⟨g, 0, none⟩) (Z.length + 1) c) (Z.length + 1) (recsCells Z ++ xs)) : argRow w (.slice (some ⟨g, 0, none⟩) Z.length c) Z.length 4 (recsCells Z) := by
  have := argRow_take (argRow_owns h) (k := Z.length) (Nat.le_succ _)
  rw [← recsCells_len Z, List.take_left] at this
  exact this
theorem own_slice1 {w : World} {B size n : Nat} {e : TypeId} {v : Value} {xs : List Value} (h : w.ownsRow B e size v (n + 1) xs) (hsz : 0 < size) : ∃ g c, v = .slice (some ⟨g, 0, none⟩) (n + 1) c ∧ n + 1 ≤ c ∧ c ≤ maxLen ∧ B ≤ g ∧ g < w.heap.size := by
  rcases h.2 with ⟨rfl, h2⟩ | ⟨g, cap, cur, rfl, hB, hg, hn, hc, -, -⟩
  · omega
  · exact ⟨g, cap, rfl, hn, hc, hB, (Array.getElem?_eq_some_iff.1 hg).1⟩
theorem wpList_append_run {P : Program} {w : World} {ops : Array Oper} {rest : List Oper} {o : Oper} {a : Act} {Q : Exit → Act → World → Prop} (hgd : o.guard = none) (s x : Operand) (t tx : TypeId)
    (ho : o.op = .call { callee := .builtin .append, args := #[s, x], argTypes := #[t, tx] }) (v u : Value) (hs : a.eval s = v) (hx : a.eval x = u) {v' : Value} {w' : World}
    (hr : (Builtin.append_ #[t, tx] o.type #[v, u]).run P w = .ok v' w') (h : wpList P ops Q rest (a.put o.dst v') w') : wpList P ops Q (o :: rest) a w := by
  refine wpList_plain hgd fun K hK => ?_
  unfold Oper.wp execOp
  simp only [ho, resolve, invoke, builtin, Sem.run_bind, Sem.run_pure, Result.andThen_ok, List.map_toArray, List.map_cons, List.map_nil, hs, hx, hr]
  exact hK _ _ h
theorem room_arg {B : Nat} {w : World} {v : Value} {l r : List UInt8} {g cap : Nat} (h : Room B w v (l ++ r) g cap) : argRow w (.slice (some ⟨g, 0, none⟩) l.length cap) l.length 1 (Lib.byteCells l) := by
  have hle := h.le
  rw [List.length_append] at hle
  refine ⟨by simp [Lib.byteCells], _, _, rfl, by omega, h.mx, fun _ => ⟨g, 0, rfl, h.lt, fun j hj => ?_⟩⟩
  have hj' : j < l.length := by simpa [Lib.byteCells] using hj
  rw [Nat.zero_add, h.cell j (by rw [List.length_append]; omega), List.getElem_append_left hj']
  simp [Lib.byteCells]
theorem frozen_of_block {w w' : World} {g j : Nat} (h : w'.heap[g]? = w.heap[g]?) : w'.frozen? ⟨g, j, none⟩ = w.frozen? ⟨g, j, none⟩ := by
  unfold World.frozen?
  simp only [h]
theorem some_set {w : World} {a b : Addr} {v : Value} (h : (w.cell? b).isSome = true) : ((w.setCell a v).cell? b).isSome = true := by
  by_cases he : b = a
  · subst he
    rw [World.cell?_setCell_same' _ _ _ h]
    rfl
  · rw [World.cell?_setCell_other _ _ _ _ (fun e => he e.symm)]
    exact h
theorem lab_16 {l : List Rec} (hl : ∀ r ∈ l, inRec r) (h : putE l = 0) : ∀ r ∈ l, r.labs.length ≤ 16 := fun r hr => by
  exact ((putAll_ok hl (of_put h)).2.2 r hr).1.2.2.2.1.1
set_option maxRecDepth 100000 in
set_option maxHeartbeats 8000000 in
theorem keeps_walk (v : Value) (Z : List RecL) (w : World) (hT : Tabs w) (h : RRow w v Z) (hi : ∀ z ∈ Z, inRec z.1) (hZ : Z.length ≤ 1048576) :
    Calls Tryd.prog 7 #[v] w fun e w' => e = .returned (.bool true) ∧ Below w.heap.size w w' := by
  have CA := Lib.hid (law09_awake w hT)
  have hin : ∀ r ∈ Z.map Prod.fst, inRec r := fun r hr => by
    obtain ⟨z, hz, rfl⟩ := List.mem_map.1 hr
    exact hi z hz
  have hbl := putB_len hin
  have HGP := Lib.hid (fun hE => get_put hin (of_put hE))
  have HNE := Lib.hid (fun hE => putB_bad (l := Z.map Prod.fst) hE)
  have HLN := Lib.hid (fun (hE : putE (Z.map Prod.fst) = 0) r hr => lab_16 hin hE r hr)
  have CP := Lib.hid (fun vv W (hW : RRow W vv Z) (hb : Below w.heap.size w W) => record_PutAll vv Z W hW (Utf8Tabs_below hT hb) hi hZ)
  obtain ⟨E, hE⟩ : ∃ E, putE (Z.map Prod.fst) = E := ⟨_, rfl⟩
  obtain ⟨G, hG⟩ : ∃ E, putB (Z.map Prod.fst) = E := ⟨_, rfl⟩
  rw [hE] at HLN
  rw [hE, hG] at CP HGP HNE
  rw [hG] at hbl
  have H := Lib.hid h
  obtain ⟨al, cl, rfl, hlc, hlc2⟩ := h.shape
  unfold maxLen at hlc2
  clear h hi hE hG hin
  have HONE := Lib.hid (recsCells_one Z w H.out.2)
  go_enter Tryd.func7, Tryd.ntmps7
  go_upto_region 3 with (go_at_call 12; refine CA.out.mono ?_; rintro en w1 ⟨rfl, hb1⟩)
  have ho0 : (w1.alloc (.cells #[] 27)).ownsRow w1.heap.size 27 4 (.slice (some ⟨w1.heap.size, 0, none⟩) 0 0) 0 [] := World.ownsRow_lit w1 #[] 0 (Nat.le_refl _) (by decide) rfl
  have hb0 := belowA (o := .cells #[] 27) (Below.refl w1.heap.size w1)
  have hsrc : Src Tryd.prog 4 31 (.slice al Z.length cl) Z.length (recsCells Z) (w1.alloc (.cells #[] 27)) := src_arg Tryd.underlying31 (H.out.below (below_seq hb1 hb0)).1 HONE.out
  clear CA
  go_upto_region 4 with (first
    | (at_builtin; refine wpList_append_src rfl (.tmp 17) _ _ _ rfl w1.heap.size ER _ _ _ rfl ho0 _ Z.length (recsCells Z) rfl (by exact hsrc) (by unfold maxLen; omega) (by omega) (by simp) ?_; intro v2 w2 hown2 hgr2 _ _; have hb2 := hb0.grown hgr2 (by simp) (fun j hj => (ho0.lt j hj).1); have hs2 := hb2.size)
    | (at_builtin; refine wpList_append_src rfl (.tmp 19) _ _ _ rfl w1.heap.size ER _ _ _ rfl (hown2.alloc _) _ 1 [.int .i64 0, .int .u64 77, .slice none 0 0, .string ⟨#[]⟩] rfl (by exact src_last (cs := #[.int .i64 0, .int .u64 77, .slice none 0 0, .string ⟨#[]⟩]) Tryd.underlying31 1 1 4 rfl rfl (by simp [Value.oneCell'])) (by unfold maxLen; omega) (by omega) (by simp; omega) ?_; intro v3 w3 hown3 hgr3 _ _; have hb3 := (belowA hb2).grown hgr3 (by simp; omega) (fun j hj => (hown2.lt j hj).1); rw [Nat.zero_add, List.nil_append] at hown3; obtain ⟨g3, c3, rfl, hc3, hc3m, hg3, hg3l⟩ := own_slice1 hown3 (by decide)))
  have hb13 := hb3
  have hb03 := below_seq hb1 hb3
  have hs1 := hb3.size
  have hR3 : RRow w3 (.slice (some ⟨g3, 0, none⟩) Z.length c3) Z := ⟨own_take hown3, fun z hz => (H.out.2 z hz).below hb03⟩
  have h77 : ∀ W, Below w3.heap.size w3 W → W.cell? ⟨g3, Z.length * 4 + 1, none⟩ = some (.int .u64 77) := fun W hW => by
    rw [hW.cell (p := ⟨g3, _, none⟩) hg3l]
    have := hown3.cells (g := g3) rfl (Z.length * 4 + 1) (.int .u64 77) (by rw [List.getElem?_append_right (by rw [recsCells_len]; omega), recsCells_len, show Z.length * 4 + 1 - Z.length * 4 = 1 by omega]; rfl)
    rw [add_plain, Nat.zero_add] at this
    exact this
  have H77 := Lib.hid h77
  have HR3 := Lib.hid hR3
  have i1 : (0 : Int) ≤ (Z.length : Int) := by omega
  have i2 : (Z.length : Int) ≤ (c3 : Int) := by omega
  have i3 : ¬ c3 = 0 := by omega
  have i4 : ¬ 0 = c3 := by omega
  have i5 : (Z.length : Int) < ((Z.length + 1 : Nat) : Int) := by omega
  unfold maxLen at hc3m
  clear hb2 hgr2 hown2 hgr3 hown3 ho0 hb0 hsrc hs2 h77 hR3
  go_upto_region 5 with (go_at_call 20; refine (CP.out _ _ HR3.out hb03).mono ?_; rintro en w4 ⟨v4, rfl, ho4, hb4⟩)
  have hb04 := below_seq hb03 hb4
  have hR4 := HR3.out.below hb4
  have CS := Lib.hid (fun W (hW : Below w4.heap.size w4 W) => rrec_SameAll (.slice (some ⟨g3, 0, none⟩) Z.length c3) (.slice al Z.length cl) Z Z W (hR4.below hW) (H.out.below (below_seq hb04 hW)) (by omega))
  rw [decide_eq_true rfl] at CS
  have hb44 := Below.refl w4.heap.size w4
  by_cases hE0 : E = 0
  · subst hE0
    have hgp := HGP.out rfl
    go_upto_region 7 with (go_at_call 18; refine (CS.out _ hb44).mono ?_; rintro en w5 ⟨rfl, hb5⟩; have k77 := H77.out w5 (below_seq hb4 hb5))
    have ho5 := owns_below ho4 hb5
    have hb05 := below_seq hb04 hb5
    obtain ⟨S, hS⟩ : ∃ S : ByteArray, (⟨G.toArray⟩ : ByteArray) = S := ⟨_, rfl⟩
    have hSG : S.data.toList = G := by rw [← hS]
    have hSz : S.size = G.length := by rw [← hS]; simp [ByteArray.size]
    have hcv := conv_ob ho5
    rw [hS] at hcv
    have HSG := Lib.hid hSG
    have HSZ := Lib.hid hSz
    have hSb : S.size ≤ 400000000 := by omega
    have hcvt := fun (W : World) => Lib.run_convert_string_bytes (P := Tryd.prog) W 9 22 5 S Tryd.underlying9 Tryd.underlying22 Tryd.underlying5
    obtain ⟨v6, w6, hrun, ⟨g6, c6, hroom⟩, hb56⟩ := append_two w5 S 22 (by omega)
    have HO5 := Lib.hid ho5
    clear hS hSG hSz ho5 ho4 k77 CP CS H77 HR3 hR4 hb44
    go_upto_region 8 with fail
    go_upto_region 9 with (at_builtin; refine wpList_append_run rfl _ _ _ _ rfl _ _ rfl rfl hrun ?_)
    have hsl : S.data.toList.length = S.size := by simp [ByteArray.size_data]
    have harg6 : argRow w6 (.slice (some ⟨g6, 0, none⟩) S.size c6) G.length 1 (Lib.byteCells G) := by
      have := room_arg hroom
      rw [HSG.out] at this
      rw [HSZ.out]
      exact this
    have hr6 : S.size + 2 ≤ c6 ∧ c6 ≤ maxLen ∧ w5.heap.size ≤ g6 ∧ g6 < w6.heap.size := by
      have h1 := hroom.le
      rw [List.length_append, hsl] at h1
      exact ⟨h1, hroom.mx, hroom.ge, hroom.lt⟩
    have hrc : ∀ j, j < S.size + 2 → (w6.cell? ⟨g6, j, none⟩).isSome = true ∧ w6.frozen? ⟨g6, j, none⟩ = false := fun j hj => by
      have hj' : j < (S.data.toList ++ [9, 9]).length := by rw [List.length_append, hsl]; exact hj
      exact ⟨by rw [hroom.cell j hj']; rfl, hroom.froz j hj'⟩
    obtain rfl : v6 = .slice (some ⟨g6, 0, none⟩) (S.size + 2) c6 := by
      rw [hroom.val, List.length_append, hsl]
      rfl
    obtain ⟨hr6a, hr6b, hr6c, hr6d⟩ := hr6
    unfold maxLen at hr6b
    obtain ⟨e1, e2⟩ := all_ok hgp
    have CL := Lib.hid (fun W (hW : Below w6.heap.size w6 W) => record_GetAll (.slice (some ⟨g6, 0, none⟩) S.size c6) G W (argRow_below harg6 hW) (by omega) (Utf8Tabs_below hT (below_seq (below_seq hb05 hb56) hW)))
    rw [e1, e2] at CL
    have HRC := Lib.hid hrc
    have hb66 := Below.refl w6.heap.size w6
    have j1 : (0 : Int) ≤ (S.size : Int) := by omega
    have j2 : (S.size : Int) ≤ (c6 : Int) := by omega
    have j3 : ¬ c6 = 0 := by omega
    have j4 : ¬ 0 = c6 := by omega
    clear hroom hrun hcvt hsl harg6 hrc e1 e2 hgp HGP HNE
    go_upto_region 10 with (go_at_call 15; refine (CL.out _ hb66).mono ?_; rintro en w7 ⟨v7, Z7, rfl, hZ7, ho7, hb7⟩)
    go_upto_region 11 with (go_at_call 15; refine (CL.out _ hb7).mono ?_; rintro en w8 ⟨v8, Z8, rfl, hZ8, ho8, hb8⟩)
    have hb68 := below_seq hb7 hb8
    have hs7 := hb7.size
    have hs8 := hb8.size
    go_wp2_with fail
    go_loopw [11] (fun iv wr => ∃ k : Nat, iv = .int .i64 (k : Int) ∧ k ≤ S.size + 2 ∧ w8.grownBy wr (some g6) ∧ (∀ j, j < S.size + 2 → (wr.cell? ⟨g6, j, none⟩).isSome = true ∧ wr.frozen? ⟨g6, j, none⟩ = false)) (fun iv _ => S.size + 2 - (intOf iv).toNat)
    case atStart => exact ⟨0, rfl, Nat.zero_le _, World.grownBy.refl _ _, fun j hj => by
      have h := HRC.out j hj
      refine ⟨by rw [hb68.cell (p := ⟨g6, j, none⟩) hr6d]; exact h.1, ?_⟩
      rw [frozen_of_block (hb68.block g6 hr6d)]
      exact h.2⟩
    case round =>
      obtain ⟨k, rfl, hk, hgr, hrr⟩ := hrel
      have HRR := Lib.hid hrr
      clear hrr
      by_cases hlt : k < S.size + 2
      · obtain ⟨u, hu⟩ := Option.isSome_iff_exists.1 (HRR.out k hlt).1
        have hf := (HRR.out k hlt).2
        have i6 : (k : Int) < ((S.size + 2 : Nat) : Int) := by omega
        have i7 : (0 : Int) ≤ (k : Int) := by omega
        go_wp2
        go_roundw
        case rel => exact ⟨k + 1, by go_num, by omega, grown_trans hgr (grown_set _ _ _ _), fun j hj => ⟨some_set (HRR.out j hj).1, by rw [World.frozen?_setCell]; exact (HRR.out j hj).2⟩⟩
        case measure => simp [intOf]; omega
      · have i6 : ¬ (k : Int) < ((S.size + 2 : Nat) : Int) := by omega
        have hK0 := Kp.start (Z := Z7) (vm := v7) ho7 rfl hb8 hgr hr6d
        obtain ⟨am, cm, rfl, hm1, hm2, hm3⟩ := own_shape ho7.own
        unfold maxLen at hm2
        have hl7 : Z7.length = Z.length := by simpa using congrArg List.length hZ7
        have HL7 := Lib.hid hl7
        have hz7 : Z7.length ≤ 1048576 := by omega
        have hln : ∀ z ∈ Z7, z.1.labs.length ≤ 16 := fun z hz => by
          have h1 : z.1 ∈ Z.map Prod.fst := by rw [← hZ7]; exact List.mem_map_of_mem hz
          exact HLN.out (by first | trivial | rfl) _ h1
        have HLM := Lib.hid hln
        clear hln
        have HO8 := Lib.hid ho8
        have HZ8 := Lib.hid hZ8
        clear HRR hgr hk hlt hl7 ho7 hZ7 ho8 hZ8
        obtain ⟨wo, hwo⟩ : ∃ wo : World, wo = wr := ⟨_, rfl⟩
        subst hwo
        go_wp2_with fail
        go_loopw [12, 13, 14] (fun iv _ _ wr => ∃ i : Nat, iv = .int .i64 (i : Int) ∧ i ≤ Z7.length ∧ Kp w6.heap.size w7.heap.size g6 (.slice am Z7.length cm) Z7 w8 wr) (fun iv _ _ _ => Z7.length - (intOf iv).toNat)
        case atStart => exact ⟨0, rfl, Nat.zero_le _, hK0⟩
        case round =>
          obtain ⟨i, rfl, hi, hK⟩ := hrel
          by_cases hil : i < Z7.length
          · obtain ⟨gm, rfl⟩ := hm3 (by omega)
            have hz := List.getElem_mem hil
            obtain ⟨⟨r, lv⟩, hzz⟩ : ∃ z, Z7[i] = z := ⟨_, rfl⟩
            have hC : ∀ W, Kp w6.heap.size w7.heap.size g6 (.slice (some ⟨gm, 0, none⟩) Z7.length cm) Z7 w8 W → W.cell? ⟨gm, i * 4 + 2, none⟩ = some lv := fun W K => by rw [K.cell hil, hzz]
            have HC := Lib.hid hC
            clear hC
            rw [hzz] at hz
            have hnl := HLM.out _ hz
            have hL : ∀ W, Kp w6.heap.size w7.heap.size g6 (.slice (some ⟨gm, 0, none⟩) Z7.length cm) Z7 w8 W → AnyOwn W w6.heap.size 2 47 lv r.labs.length := fun W K => K.labs _ hz
            have HL := Lib.hid hL
            clear hL
            obtain ⟨xs, hxs⟩ := HL.out wr hK
            obtain ⟨la, lc, rfl, hl1, hl2, hl3⟩ := own_shape hxs
            unfold maxLen at hl2
            replace hnl : r.labs.length ≤ 16 := hnl
            generalize r.labs.length = n at *
            have hcell := HC.out wr hK
            obtain ⟨wp, hwp⟩ : ∃ wp : World, wp = wr := ⟨_, rfl⟩
            subst hwp
            go_wp2_with fail
            clear hcell
            go_loopw [13] (fun kv wr => ∃ k : Nat, kv = .int .i64 (k : Int) ∧ k ≤ n ∧ Kp w6.heap.size w7.heap.size g6 (.slice (some ⟨gm, 0, none⟩) Z7.length cm) Z7 w8 wr) (fun kv _ => n - (intOf kv).toNat)
            case atStart => exact ⟨0, rfl, Nat.zero_le _, hK⟩
            case round =>
              obtain ⟨k, rfl, hk, hKk⟩ := hrel
              have hcell := HC.out wr hKk
              by_cases hlt : k < n
              · obtain ⟨gl, rfl⟩ := hl3 (by omega)
                obtain ⟨⟨u, hu⟩, hf⟩ := any_cell (HL.out wr hKk) hlt
                have q1 : (k : Int) < (n : Int) := by omega
                have q2 : (0 : Int) ≤ (k : Int) := by omega
                have q3 : (i : Int) < (Z7.length : Int) := by omega
                have q4 : (0 : Int) ≤ (i : Int) := by omega
                go_wp2
                go_roundw
                case rel => exact ⟨k + 1, by go_num, by omega, hKk.step hz (grown_set _ _ _ _) (Shapes.set _ _ _ _)⟩
                case measure => simp [intOf]; omega
              · have hke : ¬ (k : Int) < (n : Int) := by omega
                have q3 : (i : Int) < (Z7.length : Int) := by omega
                have q4 : (0 : Int) ≤ (i : Int) := by omega
                obtain ⟨ys, hys⟩ := HL.out wr hKk
                have hsz := hKk.size
                go_upto_region 22 with fail
                go_upto_region 23 with (at_builtin; refine wpList_append_shapes rfl (.tmp 125) _ _ _ rfl w6.heap.size EL _ _ _ rfl (hys.alloc _) _ 1 [.string ⟨#[109, 111, 114, 101]⟩, .string ⟨#[]⟩] rfl (by exact src_last (cs := #[.string ⟨#[109, 111, 114, 101]⟩, .string ⟨#[]⟩]) Tryd.underlying25 1 1 2 rfl rfl (by simp [Value.oneCell'])) (by unfold maxLen; omega) (by omega) (by simp; omega) ?_; intro v9 w9 hown9 hgr9 _ hsh9)
                have hK9 := (hKk.new (belowA (Below.refl wr.heap.size wr))).step hz hgr9 hsh9
                obtain ⟨a9, c9, rfl, -, -, -⟩ := own_shape hown9
                have hcell9 := HC.out w9 hK9
                go_wp2_with fail
                go_roundw
                case rel => exact ⟨i + 1, by go_num, by omega, hK9⟩
                case measure => simp [intOf]; omega
          · have hie : ¬ (i : Int) < (Z7.length : Int) := by omega
            have r8 := hK.rown HO8.out (by omega)
            have b8 := hK.below (below_seq hb05 (below_seq hb56 hb68)) (Nat.le_refl _) (by have := hb05.size; omega) (by have := hb05.size; have := hb56.size; omega)
            have b5 := hK.below (below_seq hb56 hb68) (Nat.le_refl _) hr6c (by have := hb56.size; omega)
            have CS2 := rrec_SameAll v8 (.slice al Z.length cl) Z8 Z wr r8.row (H.out.below b8) (by have := congrArg List.length HZ8.out; simp at this; omega)
            rw [decide_eq_true HZ8.out] at CS2
            have hcv2 : ∀ W, Below w5.heap.size w5 W → Sem.run Tryd.prog (convert 22 9 v4) W = .ok (.string S) W := fun W hb => by
              have h := conv_ob (owns_below HO5.out hb)
              have e : (⟨G.toArray⟩ : ByteArray) = S := by rw [← HSG.out]
              rw [e] at h
              exact h
            have HCV := Lib.hid hcv2
            clear hcv2 hcv
            obtain ⟨a8, c8, rfl, -, -, -⟩ := own_shape r8.own
            go_wp2_with (go_at_call 18; refine CS2.mono ?_; rintro en w10 ⟨rfl, hb10⟩; have hcv3 := HCV.out w10 (below_seq b5 hb10))
            go_ret
            exact ⟨by first | rfl | (simp; done), below_seq b8 hb10⟩
  · have hE' : (E != 0) = true := by simpa using hE0
    clear hE0 HGP HNE
    go_wp2_with (first
      | (go_at_call 18; refine (CS.out _ (by assumption)).mono ?_; rintro en w5 ⟨rfl, hb5⟩; have hb45 := below_seq (w := w4) (by assumption) hb5; have k77 := H77.out w5 (below_seq hb4 hb45)))
    go_ret
    exact ⟨by first | rfl | (simp; done), below_seq hb04 (by assumption)⟩
end Go.Proofs.YtkgnhimepcihpaaDoor
