/-
  (*Head).index.
-/
import Derived.Test.YtaimldndooijdaaGreatDoorHeadTwo
import Derived.Test.YtaimldndooijdaaGreatDoorTextAll
namespace Go.Proofs.YtaimldndooijdaaGreatDoor
open Go.RowKit Go.WideMaps Go.Maps Go.WideElems Go.MapKept
open Go.ChangeShapes (lits)
def plI (t : Txt) (L : List Rec) : List Int := (places t 0 L).map fun (i : Nat) => (i : Int)
/-- What lies under a text while the terms of a record are laid. -/
def part (L : List Rec) (T : List Txt) (j : Nat) (t : Txt) : List Int := plI t L ++ if t ∈ T.take j then [(L.length : Int)] else []
theorem part_start (L : List Rec) (T : List Txt) (t : Txt) : part L T 0 t = plI t L := by simp [part]
theorem part_end (L : List Rec) (r : Rec) (t : Txt) : part L (termsOf r) (termsOf r).length t = plI t (L ++ [r]) := by
  unfold part plI
  rw [List.take_length, places_snoc, List.map_append, Nat.zero_add]
  split <;> rfl
theorem part_at {L : List Rec} {T : List Txt} {j : Nat} (hT : strict T) (hj : j < T.length) : part L T j T[j] = plI T[j] L := by
  unfold part
  rw [if_neg, List.append_nil]
  intro hm
  obtain ⟨i, hi, he⟩ := List.getElem_of_mem hm
  have hi' : i < j := by rw [List.length_take] at hi; omega
  rw [List.getElem_take] at he
  have := List.pairwise_iff_getElem.1 hT i j (by omega) hj hi'
  rw [he] at this
  exact tlt_irrefl _ this
theorem part_step {L : List Rec} {T : List Txt} {j : Nat} (hT : strict T) (hj : j < T.length) (t : Txt) : (if t = T[j] then part L T j T[j] ++ [(L.length : Int)] else part L T j t) = part L T (j + 1) t := by
  have hm : t ∈ T.take (j + 1) ↔ t ∈ T.take j ∨ t = T[j] := by
    rw [List.take_succ_eq_append_getElem hj, List.mem_append, List.mem_singleton]
  by_cases h : t = T[j]
  · subst h
    rw [if_pos rfl, part_at hT hj]
    unfold part
    rw [if_pos (hm.2 (.inr rfl))]
  · rw [if_neg h]
    unfold part
    congr 1
    by_cases h2 : t ∈ T.take j
    · rw [if_pos h2, if_pos (hm.2 (.inl h2))]
    · rw [if_neg h2, if_neg (fun h3 => (hm.1 h3).elim h2 h)]
theorem terms_small {r : Rec} (h : chkRec r = 0) : (termsOf r).length ≤ 1040 ∧ ∀ t ∈ termsOf r, t.length ≤ 1100 := by
  obtain ⟨h1, h2, h3, h4⟩ := chk_parts h
  have h16 := canonE_16 h1
  have hb : firstBad r.labs = 0 := (canon_ok h1).2.2.1
  have hl := h_onceL_len (words r.line.data.toList ++ r.labs.map labT)
  have hw := h_words_len r.line.data.toList
  rw [size_list] at hw
  rw [List.length_append, List.length_map] at hl
  refine ⟨by unfold termsOf; omega, fun t ht => ?_⟩
  unfold termsOf at ht
  rw [once_mem] at ht
  rcases List.mem_append.1 ht with ht | ht
  · rw [words_runs] at ht
    obtain ⟨run, _, rfl⟩ := List.mem_map.1 ht
    have h := (enc_length ((run.take 32).map smallN)).2
    rw [List.length_map, List.length_take] at h
    unfold wordOf
    omega
  · obtain ⟨x, hx, rfl⟩ := List.mem_map.1 ht
    have := lab_small (firstBad_zero.1 hb x hx)
    have e1 := size_list x.1
    have e2 := size_list x.2
    unfold labT
    rw [List.length_append, List.length_cons]
    omega
end Go.Proofs.YtaimldndooijdaaGreatDoor
/-
  The walk of (*Head).index.
-/
namespace Go.Proofs.YtaimldndooijdaaGreatDoor
open Go.RowKit Go.WideMaps Go.Maps Go.WideElems Go.MapKept
open Go.ChangeShapes (lits)
theorem ix_start {w : World} {p : Nat} {av mv : Value} {last : Int} {so : Bool} (hp : w.heap[p]? = some (headObj av mv last so)) :
    Ix w p w.heap.size (headObj av (.map (some w.heap.size)) last so) 0 (fun _ => []) ((w.setCell ⟨p, 1, none⟩ (.map (some w.heap.size))).alloc (.map #[] 0)) := by
  have hlt : p < w.heap.size := (Array.getElem?_eq_some_iff.1 hp).1
  have hs : (w.setCell ⟨p, 1, none⟩ (.map (some w.heap.size))).heap.size = w.heap.size := by simp
  have hI := Idx.made (w.setCell ⟨p, 1, none⟩ (.map (some w.heap.size)))
  rw [hs] at hI
  refine ⟨(grown_set _ _ _ _).trans (grown_of_below (belowA (Below.refl _ _)) _), ?_, hI, hlt, Nat.le_refl _, by simp⟩
  rw [(belowA (Below.refl (w.setCell ⟨p, 1, none⟩ (.map (some w.heap.size))).heap.size _)).block p (by rw [hs]; exact hlt), heap_setCell_same _ _ _ _ _ _ hp]
  rfl
theorem Ix.step {w0 wr w9 w10 : World} {p b n m : Nat} {hc : Obj} {f f' : Txt → List Int} {v : Value} (h : Ix w0 p b hc n f wr) (hv : ∀ g, v.ownBlock = some g → b < g) (hall : wr.grownBy w9 v.ownBlock) (hgr : w9.grownBy w10 (some b)) (hix : Idx w10 b m f') : Ix w0 p b hc m f' w10 := by
  have hk : ∀ k, k < wr.heap.size → k < b → w10.heap[k]? = wr.heap[k]? := fun k h1 h2 => by
    rw [hgr.block k (Nat.lt_of_lt_of_le h1 hall.size) (fun e => (by cases e; omega)), hall.block k h1 (fun e => (by have := hv k e.symm; omega))]
  have hs := Nat.le_trans hall.size hgr.size
  refine ⟨⟨hgr.os.trans (hall.os.trans h.gr.os), hgr.tape.trans (hall.tape.trans h.gr.tape), hgr.output.trans (hall.output.trans h.gr.output), Nat.le_trans h.gr.size hs, fun k h1 h2 => ?_⟩, ?_, hix, h.pb, h.b0, Nat.lt_of_lt_of_le h.bl hs⟩
  · have := h.b0
    rw [hk k (Nat.lt_of_lt_of_le h1 h.gr.size) (by omega)]
    exact h.gr.block k h1 h2
  · have := h.bl
    have := h.pb
    rw [hk p (by omega) (by omega)]
    exact h.hd
theorem texts_step {wr w9 w10 : World} {b : Nat} {T : List Txt} {tv v : Value} {zs : List Int} (h : Texts wr (b + 1) tv T) (ho : wr.ownsInts (b + 1) 44 .u64 v zs) (hall : wr.grownBy w9 v.ownBlock) (hgr : w9.grownBy w10 (some b)) : Texts w10 (b + 1) tv T := by
  have h1 : Texts w9 (b + 1) tv T := h.kept hall (by
    cases hv : tv.ownBlock with
    | none => exact .inl rfl
    | some g => exact .inr fun e => own_apart ho.1 h (by decide) e.symm hv)
  exact h1.kept hgr (by
    cases hv : tv.ownBlock with
    | none => exact .inl rfl
    | some g => exact .inr fun e => (by
        have := (h1.lt _ hv).1
        have := Option.some.inj e
        omega))
theorem idx_step {w9 w10 : World} {b m : Nat} {D : DataW Unit} {f g : Txt → List Int} {tt : Txt} {v' : Value} {zs : List Int} {B : Nat} (hM : IsMap D) (hR : ∀ t, ReadsD D t (f t)) (hne : zs ≠ []) (ho : w9.ownsInts B 44 .u64 v' zs) (hG : Groups w10 b m (D.put (.string tt) (rowDatum .u64 v' zs)))
    (he : ∀ t, (if t = tt then zs else f t) = g t) : Idx w10 b m g := by
  rw [ho.datum_pos hne] at hG
  refine ⟨_, hG, hM.put _ _, fun t => ?_⟩
  rw [← he t]
  exact ReadsD.put hM hR tt zs t
set_option maxRecDepth 100000 in
set_option maxHeartbeats 4000000 in
theorem head_index (p : Nat) (av mv : Value) (last : Int) (so : Bool) (Z : List RecL) (w : World) (hp : w.heap[p]? = some (headObj av mv last so)) (hZ : ROwn w 0 av Z) (hl : Z.length ≤ 65536) (hchk : ∀ z ∈ Z, chkRec z.1 = 0) :
    Calls Tryz.prog 27 #[.pointer (some ⟨p, 0, none⟩)] w fun e w' => e = .returned (.tuple #[]) ∧ ∃ b n, n ≤ 1000000000 ∧ Ix w p b (headObj av (.map (some b)) last so) n (fun t => plI t (Z.map Prod.fst)) w' := by
  have hst := ix_start hp
  have c0 := cell_own hp (j := 0) rfl
  have c1 := cell_own hp (j := 1) rfl
  have cf := Lib.frozen_of_heap hp 1
  have hp' := hp
  have HROW := Lib.hid (fun W (hW : w.grownBy W (some p)) => (hZ.off hp' hW).row)
  obtain ⟨al, cl, rfl, hlc, hlc2⟩ := hZ.row.shape
  unfold maxLen at hlc2
  have hmm := @run_makeMap Tryz.prog
  have HCH := Lib.hid hchk
  have hlt : p < w.heap.size := (Array.getElem?_eq_some_iff.1 hp).1
  have hne : ¬ w.heap.size = p := by omega
  have HST := Lib.hid hst
  have HP := Lib.hid hp
  clear hp hp' hZ hchk hst
  go_enter Tryz.func27, Tryz.ntmps27
  go_upto_region 2 with fail
  generalize hw1 : (w.setCell ⟨p, 1, none⟩ (.map (some w.heap.size))).alloc (.map #[] 0) = w1 at *
  clear hw1 c0 c1 cf hne hmm
  generalize hb : w.heap.size = b at *
  have HB := Lib.hid hb
  clear hb
  go_wp2_with fail
  go_loopw [15] (fun i wr => ∃ k n : Nat, k ≤ Z.length ∧ i = .int .i64 k ∧ n ≤ 1100 * k ∧ Ix w p b (headObj (.slice al Z.length cl) (.map (some b)) last so) n (fun t => plI t ((Z.take k).map Prod.fst)) wr) (fun i _ => Z.length - (intOf i).toNat)
  case atStart => exact ⟨0, 0, by omega, rfl, by omega, HST.out⟩
  case round =>
    obtain ⟨k, n, hk, rfl, hn, hix⟩ := hrel
    have hbl := hix.bl
    have hrow := HROW.out wr hix.gr
    by_cases hlz : k < Z.length
    · obtain ⟨bz, off, rfl, hbz, g0, g1, g2, g3⟩ := hrow.at hlz
      have hat := hrow.2 _ (List.getElem_mem hlz)
      have hch := HCH.out _ (List.getElem_mem hlz)
      have hft : (Z.take (k + 1)).map Prod.fst = (Z.take k).map Prod.fst ++ [Z[k].1] := by rw [List.take_succ_eq_append_getElem hlz, List.map_append]; rfl
      obtain ⟨⟨r, lv⟩, hzz⟩ : ∃ z, Z[k] = z := ⟨_, rfl⟩
      rw [hzz] at hat hft hch g0 g1 g2 g3
      simp only at hat hft hch g0 g1 g2 g3
      obtain ⟨t1, t2⟩ := terms_small hch
      obtain ⟨la, lc, rfl, -, -⟩ := hat.1.shape
      have hLl : ((Z.take k).map Prod.fst).length = k := by rw [List.length_map, List.length_take]; omega
      have HT := Lib.hid (fun W (hW : Below wr.heap.size wr W) => head_Terms r (.slice la r.labs.length lc) W (hat.below hW))
      unfold recV at HT
      generalize hL : (Z.take k).map Prod.fst = L at *
      have HFT := Lib.hid hft
      have HLL := Lib.hid hLl
      clear hL hft hLl hzz hch hat hrow
      generalize r.labs.length = nl at *
      go_upto_region 4 with fail
      have hb1 := belowA (o := .cells #[.int .i64 r.time, .int .u64 (r.seq : Int), .slice la nl lc, .string r.line] 47) (Below.refl wr.heap.size wr)
      have hx := heap_alloc_new wr (.cells #[.int .i64 r.time, .int .u64 (r.seq : Int), .slice la nl lc, .string r.line] 47)
      have e0 := cell_own hx (j := 0) rfl
      have e1 := cell_own hx (j := 1) rfl
      have e2 := cell_own hx (j := 2) rfl
      have e3 := cell_own hx (j := 3) rfl
      clear hx g0 g1 g2 g3
      generalize wr.alloc (.cells #[.int .i64 r.time, .int .u64 (r.seq : Int), .slice la nl lc, .string r.line] 47) = wx at *
      go_wp2_with (go_at_call 21; refine (HT.out wx hb1).mono ?_; rintro e w2 ⟨v2, rfl, hT2, hb2⟩; obtain ⟨a2, k2, rfl⟩ := owns_slice hT2)
      have hix2 := hix.below (below_seq hb1 hb2)
      have hT2' := owns_base (A := b + 1) hT2 (by have := hb1.size; omega)
      have hstrict := once_strict (words r.line.data.toList ++ r.labs.map labT)
      have HPE := Lib.hid (fun t => part_end L r t)
      have HTS := Lib.hid t2
      replace hstrict : strict (termsOf r) := hstrict
      generalize termsOf r = T at *
      have HS := Lib.hid hstrict
      have hu := Tryz.underlying51
      clear hstrict t2 hT2 HT e0 e1 e2 e3 hb1 hb2 hix hbl
      clear hu
      obtain ⟨wo, hwo⟩ : ∃ wo : World, wo = wr := ⟨_, rfl⟩
      subst hwo
      go_loopw [23] (fun i wr => ∃ j m : Nat, j ≤ T.length ∧ i = .int .i64 j ∧ m ≤ 1100 * k + j ∧ Ix w p b (headObj (.slice (some ⟨bz, off, none⟩) Z.length cl) (.map (some b)) last so) m (part L T j) wr ∧ Texts wr (b + 1) (.slice a2 T.length k2) T) (fun i _ => T.length - (intOf i).toNat)
      case atStart => exact ⟨0, n, by omega, rfl, by omega, hix2.congr fun t => (part_start L T t).symm, hT2'⟩
      case round =>
        obtain ⟨j, m, hj, rfl, hm, hij, hTj⟩ := hrel
        have hbl := hij.bl
        have hpb := hij.pb
        by_cases hjt : j < T.length
        · obtain ⟨g2, rfl⟩ : ∃ g, a2 = some ⟨g, 0, none⟩ := by
            rcases hTj.2 with ⟨e, h0⟩ | ⟨g, cap, cur, e, _⟩
            · omega
            · exact ⟨g, (Value.slice.inj e).1⟩
          have hcell : wr.cell? ⟨g2, j, none⟩ = some (strV T[j]) := by
            have := hTj.cellAt (g := g2) j (by omega)
            rw [this, List.getElem?_map, List.getElem?_eq_getElem hjt]
            rfl
          have hsz := HTS.out _ (List.getElem_mem hjt)
          obtain ⟨D, hG, hM, hR⟩ := hij.ix
          obtain ⟨v, zs, hlook, hat, hoi, hzl, hback⟩ := groups_look hG T[j] (by unfold maxLen; omega) (by unfold maxLen; omega)
          have hzs := (hR T[j]).eq hoi hat
          have hfs := fun t => part_step (L := L) HS.out hjt t
          rw [← hzs] at hfs
          have hp1 := cell_own hij.hd (j := 1) rfl
          have hp1' : ∀ W, Below wr.heap.size wr W → W.cell? ⟨p, 1, none⟩ = some (.map (some b)) := fun W hW => by rw [hW.cell (p := ⟨p, 1, none⟩) (by show p < _; omega)]; exact hp1
          generalize hTT : T[j] = tt at *
          have HR := Lib.hid hR
          have HF := Lib.hid hfs
          have LK := Lib.hid hlook
          have HBK := Lib.hid hback
          have HOI := Lib.hid hoi
          clear hR hfs hlook hat hoi hback hzs hTT hG
          have hcv : IntKind.u64.wrap (k : Int) = (k : Int) := by rw [IntKind.wrap_u64]; omega
          have hl1 := LK.out wr.drew (Below.refl _ _).drew
          have hl2 := LK.out (wr.alloc (.cells #[.int .u64 k] 44)).drew (belowA (Below.refl _ _)).drew
          have hwf : (Lit.int .u64 (k : Int)).wf = true := by go_wf
          have HWF := Lib.hid hwf
          have hsx : ((wr.alloc (.cells #[.int .u64 k] 44)).drew).heap.size = wr.heap.size + 1 := by simp
          have HSX := Lib.hid hsx
          have hpl : p < wr.heap.size := by omega
          have hpn : ¬ p = wr.heap.size := by omega
          have hpm : ¬ wr.heap.size = p := by omega
          have hp2 := hp1' _ (belowA (o := .cells #[.int .u64 k] 44) (Below.refl _ _))
          have HP1 := Lib.hid hp1'
          have hhd : ∀ W, wr.grownBy W v.ownBlock → W.heap[p]? = some (headObj (.slice (some ⟨bz, off, none⟩) Z.length cl) (.map (some b)) last so) := fun W hW => by
            rw [hW.block p hpl (fun e => by have := (HOI.out.1.lt p e.symm).1; omega)]
            exact hij.hd
          have HHD := Lib.hid hhd
          clear hwf hsx hp1' hhd
          go_upto_region 7 with fail
          go_region_law (first
            | (first
               | (go_loud (refine step_append_src rfl (.tmp 37) (.tmp 40) _ _ (by rfl) (b + 1) EU v zs.length (u64s zs) rfl (by (repeat (first | exact HOI.out.1 | with_reducible refine World.ownsRow.alloc ?_ _ | with_reducible refine World.ownsRow.drew ?_)); done) _ 1 [.int .u64 k] rfl (by first | exact src_last (cs := #[.int .u64 k]) Tryz.underlying39 1 1 1 rfl rfl (by simp [Value.oneCell']) | exact src_new (cs := #[.int .u64 k]) (t := 44) (fr := (0, 0)) Tryz.underlying39 1 1 1 (by exact heap_alloc_new wr _) rfl (by simp [Value.oneCell'])) (by unfold maxLen; omega) (by omega) (by simp; omega) ?_)
                  intro v9 w9 hown9 hgr9 _ hloc9
                  have hall := (grown_of_below (by (repeat (first | assumption | with_reducible exact Below.refl _ _ | with_reducible refine belowA ?_ | with_reducible refine Below.drew ?_)); done : Below wr.heap.size wr _) v.ownBlock).trans hgr9
                  have hp9 := cell_own (HHD.out _ hall) (j := 1) rfl
                  obtain ⟨w10, hrun10, hG10, hgr10⟩ := HBK.out w9 v9 (zs ++ [(k : Int)]) hall (HOI.out.appended hown9 HWF.out) (by rw [List.length_append]; show zs.length + 1 ≤ _; omega) (by rcases hloc9 with h | h; exact .inl h; exact .inr ⟨_, h, by simp⟩))
               | fail))
          all_goals
            go_wp2_with fail
            go_roundw
            case rel =>
              exact ⟨j + 1, m + 1, by omega, by go_num, by omega, hij.step (fun g hg => (HOI.out.1.lt g hg).1) hall hgr10 (idx_step hM HR.out (by simp) (HOI.out.appended hown9 HWF.out) hG10 (by rw [← HLL.out]; exact HF.out)), texts_step hTj HOI.out hall hgr10⟩
            case measure => simp [intOf]; omega
        · obtain rfl : j = T.length := by omega
          clear hTj
          have hij2 := hij.congr HPE.out
          go_wp2_with fail
          go_roundw
          case rel => exact ⟨k + 1, m, by omega, by go_num, by omega, hij2.congr fun t => by rw [HFT.out]⟩
          case measure => simp [intOf]; omega
    · obtain rfl : k = Z.length := by omega
      rw [List.take_length] at hix
      go_wp2
      first | (go_end0; exact ⟨rfl, b, n, by omega, hix⟩) | (refine bodyPost_ret (results_none rfl _ _ _) rfl ?_; exact ⟨rfl, b, n, by omega, hix⟩)
end Go.Proofs.YtaimldndooijdaaGreatDoor
/-
  (*Head).Add.
-/
namespace Go.Proofs.YtaimldndooijdaaGreatDoor
open Go.RowKit Go.WideMaps Go.Maps Go.WideElems Go.MapKept
open Go.ChangeShapes (lits)
theorem putBad_first : ∀ {l : List Rec} {k : Nat} (hk : k < l.length), (∀ j (h : j < l.length), j < k → chkRec l[j] = 0) → chkRec l[k] ≠ 0 → putBad l = chkRec l[k]
  | r :: l, 0, _, _, h => by
    have h' : chkRec r ≠ 0 := h
    unfold putBad
    rw [if_pos h']
    rfl
  | r :: l, k + 1, hk, h0, h => by
    have h1 : chkRec r = 0 := h0 0 (by simp) (by omega)
    unfold putBad
    rw [if_neg (by simp [h1])]
    exact putBad_first (by simpa using hk) (fun j hj hjk => h0 (j + 1) (by simpa using hj) (by omega)) h
theorem putBad_none {l : List Rec} (h : ∀ j (h : j < l.length), chkRec l[j] = 0) : putBad l = 0 := putBad_all fun r hr => by
  obtain ⟨j, hj, rfl⟩ := List.getElem_of_mem hr
  exact h j hj
theorem rises_stop {l : List Rec} {k : Nat} (hk : k < l.length) {so : Bool} {last : Nat} (hs : (so || decide (0 < k)) = true) (h : ¬ lastS last (l.take k) < l[k].seq) : rises so last l = false := by
  have e : l = l.take k ++ l[k] :: l.drop (k + 1) := by rw [← List.drop_eq_getElem_cons hk, List.take_append_drop]
  rw [e, rises_append]
  simp only [rises]
  have hne : decide (l.take k ≠ []) = decide (0 < k) := by
    refine decide_eq_decide.2 ⟨fun h => ?_, fun h e => ?_⟩
    · refine Nat.pos_of_ne_zero fun e => h (by rw [e]; rfl)
    · have := congrArg List.length e
      rw [List.length_take, List.length_nil] at this
      omega
  rw [hne, hs, decide_eq_false h]
  simp
theorem rises_more {l : List Rec} {k : Nat} (hk : k < l.length) {so : Bool} {last : Nat} (hr : rises so last (l.take k) = true) (h : (so || decide (0 < k)) = true → lastS last (l.take k) < l[k].seq) : rises so last (l.take (k + 1)) = true := by
  rw [List.take_succ_eq_append_getElem hk, rises_append, hr]
  simp only [rises]
  have hne : decide (l.take k ≠ []) = decide (0 < k) := by
    refine decide_eq_decide.2 ⟨fun h => ?_, fun h e => ?_⟩
    · refine Nat.pos_of_ne_zero fun e => h (by rw [e]; rfl)
    · have := congrArg List.length e
      rw [List.length_take, List.length_nil] at this
      omega
  rw [hne]
  cases hs : (so || decide (0 < k))
  · rfl
  · simp [h hs]
theorem head_set2 {w : World} {p : Nat} {av mv : Value} {last lk : Int} {so s : Bool} (h : w.heap[p]? = some (headObj av mv last so)) :
    ((w.setCell ⟨p, 2, none⟩ (.int .u64 lk)).setCell ⟨p, 3, none⟩ (.bool s)).heap[p]? = some (headObj av mv lk s) := by
  rw [heap_setCell_same _ _ _ _ _ _ (heap_setCell_same _ _ _ _ _ _ h)]
  rfl
theorem head_set0 {w : World} {p : Nat} {av mv v : Value} {last : Int} {so : Bool} (h : w.heap[p]? = some (headObj av mv last so)) :
    (w.setCell ⟨p, 0, none⟩ v).heap[p]? = some (headObj v mv last so) := by
  rw [heap_setCell_same _ _ _ _ _ _ h]
  rfl
theorem rown_sorted {W W' : World} {B : Nat} {v : Value} {Z Z' : List RecL} (ho : W.ownsRow B 47 4 v Z.length (recsCells Z)) (hl : ∀ z ∈ Z, W.ownsRow 0 62 2 z.2 z.1.labs.length (labCells z.1.labs) ∧ RecAt W z.2 z.1) (hp : Z'.Perm Z)
    (ho' : W'.ownsRow B 47 4 v Z'.length (recsCells Z')) (hg : W.grownBy W' v.ownBlock) : ROwn W' 0 v Z' :=
  ⟨owns_base ho' (Nat.zero_le _), fun z hz => by
    obtain ⟨h1, h2⟩ := hl z (hp.mem_iff.1 hz)
    have h3 := h1.kept hg (by
      cases hv : z.2.ownBlock with
      | none => exact .inl rfl
      | some g => exact .inr fun e => own_apart h1 ho (by decide) hv e.symm)
    exact ⟨h3, LRow_own h3, h2.2⟩⟩
theorem below_dN {B : Nat} {w w' : World} (h : Below B w w') (n : Nat) : Below B w (w'.drewN n) := ⟨h.os, h.tape, h.output, h.size, h.block⟩
/-- What an Add that is answered OK leaves. -/
def AddOk (w : World) (p last : Nat) (so : Bool) (ZA Z : List RecL) (w' : World) : Prop :=
  ∃ av b n ZB, n ≤ 1000000000 ∧ w'.heap[p]? = some (headObj av (.map (some b)) (lastS last (Z.map Prod.fst) : Nat) (so || decide (0 < Z.length))) ∧ ROwn w' 0 av ZB ∧ (ZB.map Prod.fst).Perm (ZA.map Prod.fst ++ Z.map Prod.fst) ∧ Sorted (ZB.map Prod.fst) ∧
    Idx w' b n (fun t => plI t (ZB.map Prod.fst)) ∧ w.heap.size ≤ b ∧ w.grownBy w' (some p) ∧ (∀ k, av.ownBlock = some k → w.heap.size ≤ k) ∧ ∀ z ∈ ZB, (∃ y ∈ ZA, z.2 = y.2) ∨ ∀ k, z.2.ownBlock = some k → w.heap.size ≤ k
def AddEnd (w : World) (p last : Nat) (so : Bool) (ZA Z : List RecL) (E : Int) (w' : World) : Prop := (E ≠ 0 → Below w.heap.size w w') ∧ (E = 0 → AddOk w p last so ZA Z w')
theorem AddEnd.bad {w : World} {p last : Nat} {so : Bool} {ZA Z : List RecL} {E : Int} {w' : World} (h : E ≠ 0) (hb : Below w.heap.size w w') : AddEnd w p last so ZA Z E w' := ⟨fun _ => hb, fun e => absurd e h⟩
set_option maxRecDepth 100000 in
set_option maxHeartbeats 4000000 in
theorem head_Add (p last : Nat) (so : Bool) (av mv v : Value) (ZA Z : List RecL) (w : World) (hT : Tabs w) (hp : w.heap[p]? = some (headObj av mv last so)) (hA : ROwn w 0 av ZA) (hlA : ZA.length ≤ 65536) (hcA : ∀ z ∈ ZA, chkRec z.1 = 0)
    (hv : ∀ W, w.grownBy W (some p) → RRow W v Z) (hZ : Z.length ≤ 2000000) :
    Calls Tryz.prog 8 #[.pointer (some ⟨p, 0, none⟩), v] w fun e w' => e = .returned (.int .i64 (addE so last ZA.length (Z.map Prod.fst))) ∧ AddEnd w p last so ZA Z (addE so last ZA.length (Z.map Prod.fst)) w' := by
  have hdef : addE so last ZA.length (Z.map Prod.fst) = if putBad (Z.map Prod.fst) ≠ 0 then putBad (Z.map Prod.fst) else if rises so last (Z.map Prod.fst) = false then 6 else if 65536 < ZA.length + (Z.map Prod.fst).length then 3 else 0 := rfl
  obtain ⟨E, hE⟩ : ∃ E, addE so last ZA.length (Z.map Prod.fst) = E := ⟨_, rfl⟩
  rw [hE] at hdef ⊢
  have HE := Lib.hid hdef
  clear hdef hE
  have HR := Lib.hid (hv w (World.grownBy.refl _ _))
  obtain ⟨al, cl, rfl, hlc, hlc2⟩ := HR.out.shape
  unfold maxLen at hlc2
  have hlt : p < w.heap.size := (Array.getElem?_eq_some_iff.1 hp).1
  have HP := Lib.hid (fun W (hW : Below w.heap.size w W) => (hW.block p hlt).trans hp)
  have HV := Lib.hid hv
  have HA := Lib.hid hA
  have HCA := Lib.hid hcA
  have HC := Lib.hid (fun z (hz : z ∈ Z) W (hW : Below w.heap.size w W) => rec_Check z.1 z.2 W ((HR.out.2 z hz).below hW) (Utf8Tabs_below hT hW))
  have hLl : (Z.map Prod.fst).length = Z.length := List.length_map _
  have HLL := Lib.hid hLl
  clear hv hA hcA hp hT hLl
  go_enter Tryz.func8, Tryz.ntmps8
  go_wp2_with fail
  go_loopw [17] (fun i wr => ∃ k : Nat, k ≤ Z.length ∧ i = .int .i64 k ∧ (∀ j (h : j < (Z.map Prod.fst).length), j < k → chkRec (Z.map Prod.fst)[j] = 0) ∧ Below w.heap.size w wr) (fun i _ => Z.length - (intOf i).toNat)
  case atStart => exact ⟨0, by omega, rfl, fun j _ h => by omega, Below.refl _ _⟩
  case round =>
    obtain ⟨k, hk, rfl, hgood, hbr⟩ := hrel
    have HG := Lib.hid hgood
    clear hgood
    by_cases hlz : k < Z.length
    · obtain ⟨bz, off, rfl, hbz, g0, g1, g2, g3⟩ := (HR.out.below hbr).at hlz
      have hck := fun W hW => HC.out _ (List.getElem_mem hlz) W hW
      have hat := (HR.out.2 _ (List.getElem_mem hlz)).1
      have hkl : k < (Z.map Prod.fst).length := by rw [HLL.out]; exact hlz
      have hzk : (Z.map Prod.fst)[k] = Z[k].1 := List.getElem_map ..
      have hst := fun (h : chkRec Z[k].1 ≠ 0) => putBad_first hkl HG.out (by rw [hzk]; exact h)
      have hgo := fun (h : chkRec Z[k].1 = 0) j (hj : j < (Z.map Prod.fst).length) (hjk : j < k + 1) => (if e : j = k then by subst e; rw [hzk]; exact h else HG.out j hj (by omega) : chkRec (Z.map Prod.fst)[j] = 0)
      rw [hzk] at hst
      obtain ⟨⟨r, lv⟩, hzz⟩ : ∃ z, Z[k] = z := ⟨_, rfl⟩
      rw [hzz] at hck hat hst hgo g0 g1 g2 g3
      simp only at hck hat hst hgo g0 g1 g2 g3
      obtain ⟨la, lc, rfl, -, -⟩ := hat.shape
      have CK := Lib.hid hck
      unfold recV at CK
      have HST := Lib.hid hst
      have HGO := Lib.hid hgo
      clear hck hst hgo hzk hzz hat
      obtain ⟨c, hc⟩ : ∃ c, chkRec r = c := ⟨_, rfl⟩
      rw [hc] at CK HST HGO
      clear hc
      generalize r.labs.length = nl at *
      go_upto_region 6 with fail
      have hb1 := belowA (o := .cells #[.int .i64 r.time, .int .u64 (r.seq : Int), .slice la nl lc, .string r.line] 47) (Below.refl wr.heap.size wr)
      have hx := heap_alloc_new wr (.cells #[.int .i64 r.time, .int .u64 (r.seq : Int), .slice la nl lc, .string r.line] 47)
      have e0 := cell_own hx (j := 0) rfl
      have e1 := cell_own hx (j := 1) rfl
      have e2 := cell_own hx (j := 2) rfl
      have e3 := cell_own hx (j := 3) rfl
      clear hx g0 g1 g2 g3
      generalize wr.alloc (.cells #[.int .i64 r.time, .int .u64 (r.seq : Int), .slice la nl lc, .string r.line] 47) = wx at *
      have hbx := below_seq hbr hb1
      by_cases hc0 : c = 0
      · subst hc0
        go_wp2_with (go_at_call 22; refine (CK.out wx hbx).mono ?_; rintro e w2 ⟨rfl, hb2⟩)
        go_roundw
        case rel => exact ⟨k + 1, by omega, by go_num, HGO.out (by first | trivial | rfl), below_seq hbx hb2⟩
        case measure => simp [intOf]; omega
      · have hcb : (c != 0) = true := by simpa using hc0
        have hce : E = c := by
          have h := HE.out
          have h1 := HST.out hc0
          rw [h1, if_pos hc0] at h
          exact h
        subst hce
        have HN := Lib.hid hc0
        clear HE hc0
        go_wp2_with (go_at_call 22; refine (CK.out wx hbx).mono ?_; rintro e w2 ⟨rfl, hb2⟩)
        go_ret
        exact ⟨rfl, AddEnd.bad HN.out (below_seq hbx hb2)⟩
    · obtain rfl : k = Z.length := by omega
      have hpb : putBad (Z.map Prod.fst) = 0 := putBad_none fun j hj => HG.out j hj (by rw [HLL.out] at hj; exact hj)
      have hE2 : E = if rises so last (Z.map Prod.fst) = false then 6 else if 65536 < ZA.length + (Z.map Prod.fst).length then 3 else 0 := by
        rw [HE.out, if_neg (by simp [hpb])]
      have HE2 := Lib.hid hE2
      have HPB := Lib.hid hpb
      clear HE HG hE2 hpb hlz hk
      have c0 := cell_own (HP.out wr hbr) (j := 0) rfl
      have c2 := cell_own (HP.out wr hbr) (j := 2) rfl
      have c3 := cell_own (HP.out wr hbr) (j := 3) rfl
      go_upto_region 10 with fail
      go_quiet (fail)
      clear c0 c2 c3
      obtain ⟨wo, hwo⟩ : ∃ wo : World, wo = wr := ⟨_, rfl⟩
      subst hwo
      go_wp2_with fail
      go_loopw [8, 9, 37] (fun nx sm i wr => ∃ k lk : Nat, ∃ s : Bool, k ≤ Z.length ∧ i = .int .i64 k ∧ nx = .int .u64 (lk : Int) ∧ sm = .bool s ∧ lastS last ((Z.map Prod.fst).take k) = lk ∧ (so || decide (0 < k)) = s ∧ rises so last ((Z.map Prod.fst).take k) = true ∧ Below w.heap.size w wr) (fun _ _ i _ => Z.length - (intOf i).toNat)
      case atStart => exact ⟨0, last, so, by omega, rfl, rfl, rfl, rfl, by simp, rfl, below_dN hbr _⟩
      case round =>
        obtain ⟨k, lk, s, hk, rfl, rfl, rfl, hlk, hs, hri, hbr⟩ := hrel
        by_cases hlz : k < Z.length
        · obtain ⟨bz, off, rfl, hbz, g0, g1, g2, g3⟩ := (HR.out.below hbr).at hlz
          have hkl : k < (Z.map Prod.fst).length := by rw [HLL.out]; exact hlz
          have hzk : (Z.map Prod.fst)[k] = Z[k].1 := List.getElem_map ..
          have hstop := fun (h : s = true) (hn : ¬ lk < Z[k].1.seq) => rises_stop hkl (so := so) (last := last) (by rw [hs]; exact h) (by rw [hzk, hlk]; exact hn)
          have hmore := fun (h : s = true → lk < Z[k].1.seq) => rises_more hkl hri (by rw [hs, hzk, hlk]; exact h)
          have hlast : lastS last ((Z.map Prod.fst).take (k + 1)) = Z[k].1.seq := by rw [List.take_succ_eq_append_getElem hkl, lastS_snoc, hzk]
          have hat := (HR.out.2 _ (List.getElem_mem hlz)).1
          obtain ⟨⟨r, lv⟩, hzz⟩ : ∃ z, Z[k] = z := ⟨_, rfl⟩
          rw [hzz] at hstop hmore hlast hat g0 g1 g2 g3
          simp only at hstop hmore hlast hat g0 g1 g2 g3
          obtain ⟨la, lc, rfl, -, -⟩ := hat.shape
          have HSTOP := Lib.hid hstop
          have HMORE := Lib.hid hmore
          have HLAST := Lib.hid hlast
          clear hstop hmore hlast hat hzz hzk hlk hs hri
          generalize r.labs.length = nl at *
          generalize hsq : r.seq = sq at *
          go_upto_region 14 with fail
          have hb1 := belowA (o := .cells #[.int .i64 r.time, .int .u64 (sq : Int), .slice la nl lc, .string r.line] 47) (Below.refl wr.heap.size wr)
          have hx := heap_alloc_new wr (.cells #[.int .i64 r.time, .int .u64 (sq : Int), .slice la nl lc, .string r.line] 47)
          have e1 := cell_own hx (j := 1) rfl
          clear hx g0 g1 g2 g3 hsq
          generalize wr.alloc (.cells #[.int .i64 r.time, .int .u64 (sq : Int), .slice la nl lc, .string r.line] 47) = wx at *
          have hbx := below_seq hbr hb1
          cases s
          · go_wp2
            go_roundw
            case rel => exact ⟨k + 1, sq, true, by omega, by go_num, rfl, rfl, HLAST.out, by simp, HMORE.out (fun h => by cases h), hbx⟩
            case measure => simp [intOf]; omega
          · by_cases hq : lk < sq
            · have hq1 : ¬ (sq : Int) ≤ (lk : Int) := by omega
              have hq2 : decide ((sq : Int) ≤ (lk : Int)) = false := decide_eq_false hq1
              go_wp2
              go_roundw
              case rel => exact ⟨k + 1, sq, true, by omega, by go_num, rfl, rfl, HLAST.out, by simp, HMORE.out (fun _ => hq), hbx⟩
              case measure => simp [intOf]; omega
            · have hq1 : (sq : Int) ≤ (lk : Int) := by omega
              have hq2 : decide ((sq : Int) ≤ (lk : Int)) = true := decide_eq_true hq1
              have hE6 : E = 6 := by rw [HE2.out, if_pos (HSTOP.out rfl hq)]
              subst hE6
              clear HE2
              go_wp2
              go_ret
              exact ⟨rfl, AddEnd.bad (by decide) hbx⟩
        · obtain rfl : k = Z.length := by omega
          rw [List.take_of_length_le (by rw [HLL.out]; exact Nat.le_refl _)] at hlk hri
          have hE3 : E = if 65536 < ZA.length + (Z.map Prod.fst).length then 3 else 0 := by rw [HE2.out, if_neg (by simp [hri])]
          rw [HLL.out] at hE3
          have HE3 := Lib.hid hE3
          have HLK := Lib.hid hlk
          have HS := Lib.hid hs
          have HRI := Lib.hid hri
          clear hE3 hlk hs hri hlz hk
          obtain ⟨aa, ca, rfl, hca, hca2⟩ := HA.out.row.shape
          have c0 := cell_own (HP.out wr hbr) (j := 0) rfl
          by_cases h3 : 65536 < ZA.length + Z.length
          · obtain rfl : E = 3 := by rw [HE3.out, if_pos h3]
            have hq1 : (65536 : Int) - (ZA.length : Int) < (Z.length : Int) := by omega
            clear HE3 HE2
            go_wp2
            go_ret
            exact ⟨rfl, AddEnd.bad (by decide) hbr⟩
          · obtain rfl : E = 0 := by rw [HE3.out, if_neg h3]
            have hq1 : ¬ (65536 : Int) - (ZA.length : Int) < (Z.length : Int) := by omega
            clear HE3 HE2
            have c2 := cell_own (HP.out wr hbr) (j := 2) rfl
            have c3 := cell_own (HP.out wr hbr) (j := 3) rfl
            have f2 := Lib.frozen_of_heap (HP.out wr hbr) 2
            have f3 := Lib.frozen_of_heap (HP.out wr hbr) 3
            have hh := head_set2 (lk := lk) (s := s) (HP.out wr hbr)
            have hg1 : wr.grownBy ((wr.setCell ⟨p, 2, none⟩ (.int .u64 lk)).setCell ⟨p, 3, none⟩ (.bool s)) (some p) := grown_trans (grown_set _ _ _ _) (grown_set _ _ _ _)
            have HH := Lib.hid hh
            have HG1 := Lib.hid hg1
            clear hh hg1
            go_upto_region 21 with fail
            have hg := (grown_of_below hbr (some p)).trans HG1.out
            generalize (wr.setCell ⟨p, 2, none⟩ (.int .u64 lk)).setCell ⟨p, 3, none⟩ (.bool s) = w3 at *
            clear c0 c2 c3 f2 f3 HG1
            have d0 := cell_own HH.out (j := 0) rfl
            have hs3 := hg.size
            have hA3 := HA.out.off (HP.out w (Below.refl _ _)) hg
            have cC := fun W (hW : Below w3.heap.size w3 W) => head_copied _ Z W ((HV.out w3 hg).below hW) hZ
            have CC := Lib.hid cC
            have HA3 := Lib.hid hA3
            clear cC hA3
            have hbd : Below w3.heap.size w3 w3.drew := (Below.refl _ _).drew
            have hD0 := fun W (hW : Below w3.heap.size w3 W) => cell_own ((hW.block p (by omega)).trans HH.out) (j := 0) rfl
            have HD0 := Lib.hid hD0
            have hpl3 : p < w3.heap.size := by omega
            clear hD0
            go_region_law (first
              | (first
                 | (go_simp; go_at_call 24; refine (CC.out _ hbd).mono ?_; rintro e w4 ⟨v4, Z4, rfl, hZ4, ho4, hb4⟩; obtain ⟨a4, c4, rfl⟩ := owns_slice ho4.own; have hb34 := below_seq hbd hb4; have d4 := HD0.out w4 hb34; have HZ4 := Lib.hid hZ4; clear hZ4)
                 | fail)
              | (first
                 | (go_simp; go_at_call 23; refine (rec_concat (.slice aa ZA.length ca) (.slice a4 Z4.length c4) ZA Z4 w4.heap.size _ (by simp) (by exact cell_own (heap_alloc_new w4 _) (j := 0) rfl) (by exact cell_own (heap_alloc_new w4 _) (j := 1) rfl) (by exact (HA3.out.keptB hb34).row.below (belowA (Below.refl _ _))) (by exact ho4.row.below (belowA (Below.refl _ _))) (by omega) (by have := congrArg List.length HZ4.out; rw [List.length_map, List.length_map] at this; omega)).mono ?_; rintro e w5 ⟨v5, rfl, ho5, hb5⟩; obtain ⟨a5, c5, rfl⟩ := owns_slice ho5)
                 | fail))
            all_goals
              have hb35 := below_seq (belowA (o := .cells #[.slice aa ZA.length ca, .slice a4 Z4.length c4] 28) hb34) hb5
              have hAB : ∀ z ∈ ZA ++ Z4, w5.ownsRow 0 62 2 z.2 z.1.labs.length (labCells z.1.labs) ∧ RecAt w5 z.2 z.1 := fun z hz => by
                rcases List.mem_append.1 hz with hz | hz
                · exact (HA3.out.keptB hb35).labs z hz
                · exact ((ho4.base (Nat.zero_le _)).keptB (below_seq (belowA (Below.refl _ _)) hb5)).labs z hz
              have h1c : ∀ z ∈ ZA ++ Z4, z.2.oneCell' = true := fun z hz => by
                obtain ⟨a, c, e, -, -⟩ := (hAB z hz).2.1.shape
                rw [e]
                rfl
              have hnew : ∀ z ∈ ZA ++ Z4, (∃ y ∈ ZA, z.2 = y.2) ∨ ∀ k, z.2.ownBlock = some k → w.heap.size ≤ k := fun z hz => by
                rcases List.mem_append.1 hz with hz | hz
                · exact .inl ⟨z, hz, rfl⟩
                · exact .inr fun k hk => Nat.le_trans hs3 (((ho4.labs z hz).1.lt k hk).1)
              have h4l := congrArg List.length HZ4.out
              rw [List.length_map, List.length_map] at h4l
              have hsl := rec_sort ho5 h1c (by rw [List.length_append]; omega)
              rw [List.length_append] at hsl
              have hbase : w3.heap.size ≤ (w4.alloc (.cells #[.slice aa ZA.length ca, .slice a4 Z4.length c4] 28)).heap.size := (belowA hb34).size
              have HSL := Lib.hid hsl
              have H4L := Lib.hid h4l
              clear hsl h4l
              go_upto_region 23 with (go_at_call 25; refine HSL.out.mono ?_; rintro e w6 ⟨rfl, Z6, hp6, hs6, ho6, hg6⟩)
              have hlt6 : ∀ j, (Value.slice a5 (ZA.length + Z4.length) c5).ownBlock = some j → (w4.alloc (.cells #[.slice aa ZA.length ca, .slice a4 Z4.length c4] 28)).heap.size ≤ j := fun j hj => (ho6.lt j hj).1
              have hr6 := rown_sorted (v := .slice a5 (ZA.length + Z4.length) c5) (by have h := ho5; rw [List.length_append] at h ⊢; exact h) hAB hp6 ho6 hg6
              have hb36 : Below w3.heap.size w3 w6 := hb35.grown hg6 hb35.size (fun j hj => Nat.le_trans hbase (hlt6 j hj))
              have hh6 := (hb36.block p (by omega)).trans HH.out
              have f0 := cell_own hh6 (j := 0) rfl
              have ff := Lib.frozen_of_heap hh6 0
              have hh7 := head_set0 (v := .slice a5 (ZA.length + Z4.length) c5) hh6
              have hr7 := hr6.off hh6 (grown_set w6 p 0 (.slice a5 (ZA.length + Z4.length) c5))
              have HPM := Lib.hid hp6
              have HSO := Lib.hid hs6
              have hl6 : Z6.length ≤ 65536 := by rw [hp6.length_eq, List.length_append, H4L.out]; omega
              have hc6 : ∀ z ∈ Z6, chkRec z.1 = 0 := fun z hz => by
                rcases List.mem_append.1 (hp6.mem_iff.1 hz) with hz | hz
                · exact HCA.out z hz
                · refine putBad_zero HPB.out _ ?_
                  rw [← HZ4.out]
                  exact List.mem_map_of_mem hz
              have cI := head_index p _ _ _ _ Z6 _ hh7 hr7 hl6 hc6
              have CI := Lib.hid cI
              have HH7 := Lib.hid hh7
              have hsz7 : (w6.setCell ⟨p, 0, none⟩ (.slice a5 (ZA.length + Z4.length) c5)).heap.size = w6.heap.size := by simp
              have HSZ7 := Lib.hid hsz7
              clear cI hh7 hp6 hs6 hsz7 hh6
              go_wp2_with (go_at_call 27; refine CI.out.mono ?_; rintro e w8 ⟨rfl, b8, n8, hn8, hix⟩)
              go_ret
              refine ⟨rfl, fun h => absurd rfl h, fun _ => ⟨_, b8, n8, Z6, hn8, ?_, hr7.off HH7.out hix.gr, ?_, HSO.out, hix.ix, ?_, ?_, fun k hk => ?_, fun z hz => hnew z (HPM.out.mem_iff.1 hz)⟩⟩
              · rw [hix.hd, HLK.out, HS.out]
              · have := HPM.out.map Prod.fst
                rw [List.map_append, HZ4.out] at this
                exact this
              · have h1 := hix.b0
                rw [HSZ7.out] at h1
                have h2 := hb36.size
                omega
              · exact ((hg.trans (grown_of_below hb36 _)).trans (grown_set _ _ _ _)).trans hix.gr
              · exact Nat.le_trans (Nat.le_trans hs3 hbase) (hlt6 k hk)
end Go.Proofs.YtaimldndooijdaaGreatDoor
/-
  The other calls of a head; the reference's Same of numbers.
-/
namespace Go.Proofs.YtaimldndooijdaaGreatDoor
open Go.RowKit Go.WideMaps Go.Maps Go.WideElems Go.MapKept
open Go.ChangeShapes (lits)
theorem head_New (w : World) : Calls Tryz.prog 5 #[] w fun e w' => e = .returned (.pointer (some ⟨w.heap.size, 0, none⟩)) ∧ w' = w.alloc (headObj (.slice none 0 0) (.map none) 0 false) := by
  go_enter Tryz.func5, Tryz.ntmps5
  go_wp2
  go_ret
  exact ⟨rfl, rfl⟩
set_option maxRecDepth 100000 in
set_option maxHeartbeats 1000000 in
theorem head_Len (p : Nat) (av mv : Value) (last : Int) (so : Bool) (ZA : List RecL) (w : World) (hp : w.heap[p]? = some (headObj av mv last so)) (hA : ROwn w 0 av ZA) :
    Calls Tryz.prog 19 #[.pointer (some ⟨p, 0, none⟩)] w fun e w' => e = .returned (.int .i64 ZA.length) ∧ w = w' := by
  obtain ⟨a, c, rfl⟩ := owns_slice hA.own
  have c0 := cell_own hp (j := 0) rfl
  clear hp hA
  go_enter Tryz.func19, Tryz.ntmps19
  go_wp2
  go_ret
  exact ⟨rfl, rfl⟩
set_option maxRecDepth 100000 in
set_option maxHeartbeats 1000000 in
theorem head_All (p : Nat) (av mv : Value) (last : Int) (so : Bool) (ZA : List RecL) (w : World) (hp : w.heap[p]? = some (headObj av mv last so)) (hA : ROwn w 0 av ZA) (hl : ZA.length ≤ 65536) :
    Calls Tryz.prog 12 #[.pointer (some ⟨p, 0, none⟩)] w fun e w' => ∃ v' Z', e = .returned v' ∧ Z'.map Prod.fst = ZA.map Prod.fst ∧ ROwn w' w.heap.size v' Z' ∧ Below w.heap.size w w' := by
  have CC := Lib.hid (head_copied av ZA w hA.row (by omega))
  obtain ⟨a, c, rfl⟩ := owns_slice hA.own
  have c0 := cell_own hp (j := 0) rfl
  clear hp hA
  go_enter Tryz.func12, Tryz.ntmps12
  go_wp2_with (go_at_call 24; refine CC.out.mono ?_; rintro e w1 ⟨v1, Z1, rfl, hZ1, ho1, hb1⟩)
  go_ret
  exact ⟨_, _, rfl, hZ1, ho1, hb1⟩
set_option maxRecDepth 100000 in
set_option maxHeartbeats 1000000 in
theorem head_Take (p : Nat) (av mv : Value) (last : Int) (so : Bool) (ZA : List RecL) (w : World) (hp : w.heap[p]? = some (headObj av mv last so)) (hA : ROwn w 0 av ZA) (hl : ZA.length ≤ 65536) :
    Calls Tryz.prog 17 #[.pointer (some ⟨p, 0, none⟩)] w fun e w' => ∃ v' Z', e = .returned v' ∧ Z'.map Prod.fst = ZA.map Prod.fst ∧ ROwn w' w.heap.size v' Z' ∧ w'.heap[p]? = some (headObj (.slice none 0 0) (.map none) last so) ∧ w.grownBy w' (some p) := by
  have hlt : p < w.heap.size := (Array.getElem?_eq_some_iff.1 hp).1
  have CA := Lib.hid (head_All p av mv last so ZA w hp hA hl)
  have HP := Lib.hid hp
  clear hp hA
  go_enter Tryz.func17, Tryz.ntmps17
  go_upto_region 2 with (go_at_call 12; refine CA.out.mono ?_; rintro e w1 ⟨v1, Z1, rfl, hZ1, ho1, hb1⟩)
  have hh := (hb1.block p hlt).trans HP.out
  have c0 := cell_own hh (j := 0) rfl
  have c1 := cell_own hh (j := 1) rfl
  have f0 := Lib.frozen_of_heap hh 0
  have f1 := Lib.frozen_of_heap hh 1
  have hf : ((w1.setCell ⟨p, 0, none⟩ (.slice none 0 0)).setCell ⟨p, 1, none⟩ (.map none)).heap[p]? = some (headObj (.slice none 0 0) (.map none) last so) := by
    rw [heap_setCell_same _ _ _ _ _ _ (heap_setCell_same _ _ _ _ _ _ hh)]
    rfl
  have hg : w1.grownBy ((w1.setCell ⟨p, 0, none⟩ (.slice none 0 0)).setCell ⟨p, 1, none⟩ (.map none)) (some p) := grown_trans (grown_set _ _ _ _) (grown_set _ _ _ _)
  have hr := ho1.kept hg (fun k hk => by cases hk; exact hlt)
  have HF := Lib.hid hf
  have HG := Lib.hid ((grown_of_below hb1 (some p)).trans hg)
  have HRR := Lib.hid hr
  have HZ1 := Lib.hid hZ1
  obtain ⟨a1, k1, rfl⟩ := owns_slice ho1.own
  clear hf hg hr hh hZ1 ho1
  go_wp2
  go_ret
  exact ⟨_, _, rfl, HZ1.out, HRR.out, HF.out, HG.out⟩
theorem u64s_row {w : World} {B : Nat} {v : Value} {zs : List Int} (h : w.ownsInts B 44 .u64 v zs) : argRow w v zs.length 1 (u64s zs) := argRow_owns h.1
set_option maxRecDepth 100000 in
set_option maxHeartbeats 1000000 in
theorem head_Find (p b n : Nat) (f : Txt → List Int) (av : Value) (last : Int) (so : Bool) (t : Txt) (w : World) (hp : w.heap[p]? = some (headObj av (.map (some b)) last so)) (hI : Idx w b n f) (hn : n ≤ 1000000000) (ht : t.length ≤ 1000000000000) :
    Calls Tryz.prog 15 #[.pointer (some ⟨p, 0, none⟩), strV t] w fun e w' => ∃ v', e = .returned v' ∧ w'.ownsRow w.heap.size 44 1 v' (f t).length (u64s (f t)) ∧ Below w.heap.size w w' := by
  obtain ⟨D, hG, hM, hR⟩ := hI
  obtain ⟨v, zs, hlook, hat, hoi, hzl, -⟩ := groups_look hG t (by unfold maxLen; omega) (by unfold maxLen; omega)
  have hz := (hR t).eq hoi hat
  rw [← hz]
  have CC := Lib.hid (u64_clone v zs w (u64s_row hoi) (by omega))
  have c1 := cell_own hp (j := 1) rfl
  have hl := hlook w (Below.refl _ _)
  clear hlook hat hR hM hG hz hp hoi
  go_enter Tryz.func15, Tryz.ntmps15
  go_wp2_with (go_at_call 31; refine CC.out.mono ?_; rintro e w1 ⟨v1, rfl, ho1, hb1⟩)
  go_ret
  exact ⟨_, rfl, ho1, hb1⟩
set_option maxRecDepth 100000 in
set_option maxHeartbeats 1000000 in
theorem ref03_Same (va vb : Value) (xs ys : List Int) (w : World) (hx : argRow w va xs.length 1 (u64s xs)) (hy : argRow w vb ys.length 1 (u64s ys)) (hlx : xs.length ≤ 1000000000) (hly : ys.length ≤ 1000000000) :
    Calls Tryz.prog 14 #[va, vb] w fun e w' => e = .returned (.bool (decide (xs = ys))) ∧ Below w.heap.size w w' := by
  unfold u64s at hx hy
  obtain ⟨_, a, ca, rfl, hca, hcm, hxc⟩ := hx
  obtain ⟨_, b, cb, rfl, hcb, hcm2, hyc⟩ := hy
  clear hcm hcm2
  by_cases hl : xs.length = ys.length
  · have hb1 : ((xs.length : Int) != (ys.length : Int)) = false := by rw [hl]; simp
    have HX := Lib.hid hxc
    have HY := Lib.hid hyc
    have HL := Lib.hid hl
    clear hxc hyc hl
    go_enter Tryz.func14, Tryz.ntmps14
    go_wp2
    go_loopw [5] (fun i wr => ∃ k q : Nat, k ≤ xs.length ∧ i = .int .i64 k ∧ xs.take k = ys.take k ∧ wr = w.drewN q) (fun i _ => xs.length - (intOf i).toNat)
    case atStart => exact ⟨0, 0, by omega, rfl, rfl, rfl⟩
    case round =>
      obtain ⟨k, q, hk, rfl, ht, rfl⟩ := hrel
      have HT := Lib.hid ht
      clear ht
      by_cases hlt : k < xs.length
      · obtain ⟨ba, oa, rfl, hba, hca'⟩ := HX.out (by omega)
        obtain ⟨bb, ob, rfl, hbb, hcb'⟩ := HY.out (by have := HL.out; omega)
        have hlty : k < ys.length := by have := HL.out; omega
        have c1 := hca' k (by simpa using hlt)
        have c2 := hcb' k (by simpa using hlty)
        rw [List.getElem_map] at c1 c2
        have HK : Hid (xs.take (k + 1) = xs.take k ++ [xs[k]] ∧ ys.take (k + 1) = ys.take k ++ [ys[k]] ∧ (xs = ys → xs[k] = ys[k])) :=
          ⟨List.take_succ_eq_append_getElem hlt, List.take_succ_eq_append_getElem hlty, fun e => by subst e; rfl⟩
        clear hca' hcb' HX HY
        generalize xs[k] = x at *
        generalize ys[k] = y at *
        have i1 : (0 : Int) ≤ (k : Int) := by omega
        have i2 : (k : Int) < (xs.length : Int) := by omega
        have i3 : (k : Int) < (ys.length : Int) := by omega
        by_cases hxy : x = y
        · subst hxy
          have hbe : (x != x) = false := by simp
          go_wp2_with fail
          go_quiet (fail)
          go_wp2
          go_roundw
          case rel => exact ⟨k + 1, _, by omega, by go_num, by rw [HK.out.1, HK.out.2.1, HT.out], rfl⟩
          case measure => simp [intOf]; omega
        · have hbe : (x != y) = true := by simpa using hxy
          have hne : xs ≠ ys := fun e => hxy (HK.out.2.2 e)
          have HN := Lib.hid hne
          clear hxy hne
          go_wp2_with fail
          go_quiet (fail)
          go_wp2
          go_ret
          exact ⟨ret_boolE (decide_eq_false HN.out).symm, below_dN (below_dN (Below.refl _ _) _) _⟩
      · obtain rfl : k = xs.length := by omega
        have e : xs = ys := by
          have h := HT.out
          rw [List.take_length] at h
          rw [h, List.take_of_length_le (by have := HL.out; omega)]
        have HE := Lib.hid e
        clear e
        go_wp2
        go_ret
        exact ⟨ret_boolE (decide_eq_true HE.out).symm, below_dN (Below.refl _ _) _⟩
  · have hb1 : ((xs.length : Int) != (ys.length : Int)) = true := by simp; omega
    have hne : xs ≠ ys := fun e => hl (by rw [e])
    have HN := Lib.hid hne
    clear hl hne hxc hyc
    go_enter Tryz.func14, Tryz.ntmps14
    go_wp2
    go_ret
    exact ⟨ret_boolE (decide_eq_false HN.out).symm, Below.refl _ _⟩
end Go.Proofs.YtaimldndooijdaaGreatDoor
/-
  garnerlaw13's awake.
-/
namespace Go.Proofs.YtaimldndooijdaaGreatDoor
open Go.RowKit Go.WideMaps Go.Maps Go.WideElems Go.MapKept
open Go.ChangeShapes (lits)
theorem rrow_block {W : World} {g c : Nat} {Z : List RecL} {cs : Array Value} {T : TypeId} {fr : Nat × Nat} (hg : W.heap[g]? = some (.cells cs T fr)) (hcs : cs.toList.take (Z.length * 4) = recsCells Z) (hc : Z.length ≤ c) (hm : c ≤ maxLen) (hl : ∀ z ∈ Z, RecAt W z.2 z.1) : RRow W (.slice (some ⟨g, 0, none⟩) Z.length c) Z := by
  refine ⟨⟨recsCells_len Z, _, _, rfl, hc, hm, fun _ => ⟨g, 0, rfl, (Array.getElem?_eq_some_iff.1 hg).1, fun j hj => ?_⟩⟩, hl⟩
  have hlen := recsCells_len Z
  rw [Nat.zero_add, cell_of_row W g j cs T fr hg]
  have h1 : (cs.toList.take (Z.length * 4))[j]? = (recsCells Z)[j]? := by rw [hcs]
  rw [List.getElem?_take_of_lt (by omega), Array.getElem?_toList, List.getElem?_eq_getElem hj] at h1
  exact h1
theorem recAt_nil (W : World) (r : Rec) (hl : r.labs = []) (hs : r.line.size ≤ 1000000000) : RecAt W (.slice none 0 0) r := by
  refine ⟨?_, ?_, ?_, hs⟩
  · unfold LRow
    rw [hl]
    exact ⟨rfl, none, 0, rfl, Nat.le_refl _, Nat.zero_le _, fun h => absurd h (by decide)⟩
  · rw [hl]; intro x hx; cases hx
  · rw [hl]; exact Nat.zero_le _
theorem lit_recs {w1 : World} {p : Nat} (hp : p < w1.heap.size) {Z : List RecL} {cs : Array Value} {T : TypeId} (hcs : cs.toList = recsCells Z) (hl : ∀ z ∈ Z, z.2 = .slice none 0 0 ∧ z.1.labs = [] ∧ z.1.line.size ≤ 1000000000) (hm : Z.length ≤ maxLen) :
    ∀ W, (w1.alloc (.cells cs T)).grownBy W (some p) → RRow W (.slice (some ⟨w1.heap.size, 0, none⟩) Z.length Z.length) Z := fun W hW => by
  have h1 : W.heap[w1.heap.size]? = some (.cells cs T (0, 0)) := by
    rw [hW.block _ (by simp) (fun e => by have := Option.some.inj e; omega)]
    exact heap_alloc_new _ _
  refine rrow_block h1 ?_ (Nat.le_refl _) hm fun z hz => ?_
  · rw [hcs, ← recsCells_len, List.take_length]
  · obtain ⟨e1, e2, e3⟩ := hl z hz
    rw [e1]
    exact recAt_nil W z.1 e2 e3
def aw1 : Rec := ⟨5, 1, [], ⟨#[98]⟩⟩
def aw2 : Rec := ⟨3, 2, [], ⟨#[97, 32, 98]⟩⟩
def aw3 : Rec := ⟨0, 2, [], ⟨#[]⟩⟩
def aw4 : Rec := ⟨0, 0, [], ⟨#[71, 69, 84, 32, 103, 101, 116, 32, 120]⟩⟩
def awz (r : Rec) : RecL := (r, .slice none 0 0)
theorem aw_add : addE false 0 0 [aw1, aw2] = 0 := by decide +kernel
theorem aw_bad : addE true 2 2 [aw3] = 6 := by decide +kernel
theorem aw_terms : termsOf aw4 = [[103, 101, 116], [120]] := by decide +kernel
theorem aw_find : plI [98] [aw2, aw1] = [0, 1] := by decide +kernel
theorem aw_sorted {A : List Rec} (h : A.Perm [aw1, aw2]) (hs : Sorted A) : A = [aw2, aw1] := by
  refine sorted_unique hs ?_ ?_ (h.trans (List.Perm.swap _ _ _))
  · unfold Sorted; simp; decide
  · refine OneSeq.perm (L := [aw1, aw2]) ?_ h.symm
    unfold OneSeq; simp; decide
set_option maxRecDepth 100000 in
set_option maxHeartbeats 8000000 in
theorem law13_awake (w : World) (hT : Tabs w) : Calls Tryz.prog 4 #[] w fun e w' => e = .returned (.bool true) ∧ Below w.heap.size w w' := by
  have HT := Lib.hid hT
  clear hT
  go_enter Tryz.func4, Tryz.ntmps4
  go_upto_region 2 with (go_at_call 5; refine (head_New _).mono ?_; rintro e w1 ⟨rfl, rfl⟩)
  have hb1 := belowA (o := headObj (.slice none 0 0) (.map none) 0 false) (Below.refl w.heap.size w)
  have hp1 := heap_alloc_new w (headObj (.slice none 0 0) (.map none) 0 false)
  have hs1 : (w.alloc (headObj (.slice none 0 0) (.map none) 0 false)).heap.size = w.heap.size + 1 := by simp
  generalize hw1 : w.alloc (headObj (.slice none 0 0) (.map none) 0 false) = w1 at *
  generalize hpp : w.heap.size = p at *
  have HP1 := Lib.hid hp1
  have HS1 := Lib.hid hs1
  have HPP := Lib.hid hpp
  have hb1' : Below w.heap.size w w1 := by rw [HPP.out]; exact hb1
  clear hw1 hp1 hs1 hpp hb1
  have hp_lt : p < w1.heap.size := by have := HS1.out; omega
  have cA1 := fun hT2 => head_Add p 0 false (.slice none 0 0) (.map none) _ [] [awz aw1, awz aw2] (w1.alloc (.cells #[.int .i64 5, .int .u64 1, .slice none 0 0, .string ⟨#[98]⟩, .int .i64 3, .int .u64 2, .slice none 0 0, .string ⟨#[97, 32, 98]⟩] 47)) hT2
    (by rw [(belowA (Below.refl w1.heap.size w1)).block p hp_lt]; exact HP1.out) (ROwn.nil _ _) (by decide) (fun z hz => by cases hz)
    (lit_recs hp_lt (Z := [awz aw1, awz aw2]) rfl (fun z hz => by simp at hz; rcases hz with rfl | rfl <;> exact ⟨rfl, rfl, by decide⟩) (by decide)) (by decide)
  have hb2 := belowA (o := .cells #[.int .i64 5, .int .u64 1, .slice none 0 0, .string ⟨#[98]⟩, .int .i64 3, .int .u64 2, .slice none 0 0, .string ⟨#[97, 32, 98]⟩] 47) hb1'
  have CA1 := cA1 (Utf8Tabs_below HT.out hb2)
  rw [show addE false 0 ([] : List RecL).length ([awz aw1, awz aw2].map Prod.fst) = 0 from aw_add] at CA1
  have CA := Lib.hid CA1
  clear cA1 CA1
  go_upto_region 4 with (go_at_call 8; refine CA.out.mono ?_; rintro e w3 ⟨rfl, -, hok⟩)
  obtain ⟨av, b, n, ZB, hn, hh3, ho3, hpm, hso, hix, hbb, hg3, -, -⟩ := hok (by first | trivial | rfl)
  have hz := aw_sorted hpm hso
  have hzl : ZB.length = 2 := by simpa using congrArg List.length hz
  have hb3 : Below w.heap.size w w3 := hb2.grown hg3 hb2.size (fun k hk => by cases hk; rw [HPP.out]; exact Nat.le_refl _)
  have hlast : (lastS 0 ([awz aw1, awz aw2].map Prod.fst) : Nat) = 2 := rfl
  have hh3' : w3.heap[p]? = some (headObj av (.map (some b)) ((2 : Nat) : Int) true) := hh3
  have hch : ∀ z ∈ ZB, chkRec z.1 = 0 := fun z hzz => by
    have : z.1 ∈ ZB.map Prod.fst := List.mem_map_of_mem hzz
    rw [hz] at this
    simp at this
    rcases this with e | e <;> rw [e] <;> decide +kernel
  have hpl3 : p < w3.heap.size := (Array.getElem?_eq_some_iff.1 hh3').1
  have hL := head_All p av (.map (some b)) ((2 : Nat) : Int) true ZB w3 hh3' ho3 (by omega)
  rw [hz] at hL
  have hixf : Idx w3 b n (fun t => plI t [aw2, aw1]) := by rw [← hz]; exact hix
  have CL := Lib.hid hL
  have HIX := Lib.hid hixf
  have HH3 := Lib.hid hh3'
  have HO3 := Lib.hid ho3
  have HCH := Lib.hid hch
  have HZL := Lib.hid hzl
  have HB3 := Lib.hid hb3
  have HN := Lib.hid hn
  clear hL hixf hh3 hh3' ho3 hch hzl hb3 hix hz hpm hso hlast hok CA hb2 hg3 hn hbb
  go_upto_region 5 with (go_at_call 12; refine CL.out.mono ?_; rintro e w4 ⟨v4, Z4, rfl, hZ4, ho4, hb4⟩)
  have hl4 : Z4.length = 2 := by simpa using congrArg List.length hZ4
  obtain ⟨g4, c4, rfl⟩ : ∃ g c, v4 = .slice (some ⟨g, 0, none⟩) 2 c := by
    rcases ho4.own.2 with ⟨_, h0⟩ | ⟨g, c, cur, e, _⟩
    · omega
    · rw [hl4] at e
      exact ⟨g, c, e⟩
  have hq4 : ∀ W, Below w4.heap.size w4 W → W.cell? ⟨g4, 1, none⟩ = some (.int .u64 2) := fun W hW => by
    have ho := owns_below ho4.own hW
    rw [hl4] at ho
    have h1 := ho.cellAt (g := g4) 1 (by decide)
    rw [h1]
    have h2 := recsCells_get Z4 0 (by omega) 1 (by omega)
    rw [show (1 : Nat) = 0 * 4 + 1 from rfl, h2]
    have h3 : Z4[0].1 = aw2 := by
      have : (Z4.map Prod.fst)[0]? = some aw2 := by rw [hZ4]; rfl
      rw [List.getElem?_map, List.getElem?_eq_getElem (by omega)] at this
      exact Option.some.inj this
    show some (Value.int .u64 ((Z4[0].1.seq : Nat) : Int)) = _
    rw [h3]
    rfl
  have HQ4 := Lib.hid hq4
  clear hq4 hl4 ho4 hZ4 CL
  have hp_lt4 : p < w4.heap.size := Nat.lt_of_lt_of_le hpl3 hb4.size
  have hb5 := belowA (o := .cells #[.int .i64 0, .int .u64 2, .slice none 0 0, .string ⟨#[]⟩] 47) hb4
  have hb5' := below_seq HB3.out hb5
  have cA2 := head_Add p 2 true av (.map (some b)) _ ZB [awz aw3] (w4.alloc (.cells #[.int .i64 0, .int .u64 2, .slice none 0 0, .string ⟨#[]⟩] 47)) (Utf8Tabs_below HT.out hb5')
    (by rw [hb5.block p hpl3]; exact HH3.out) (HO3.out.keptB hb5) (by rw [HZL.out]; decide) HCH.out
    (lit_recs hp_lt4 (Z := [awz aw3]) rfl (fun z hz => by simp at hz; rcases hz with rfl; exact ⟨rfl, rfl, by decide⟩) (by decide)) (by decide)
  rw [HZL.out, show addE true 2 2 ([awz aw3].map Prod.fst) = 6 from aw_bad] at cA2
  have CA2 := Lib.hid cA2
  clear cA2
  have cF := Lib.hid (fun W (hW : Below w3.heap.size w3 W) => head_Find p b n _ av _ _ [98] W ((hW.block p hpl3).trans HH3.out) (HIX.out.blocks fun j _ hj => hW.block j hj) HN.out (by decide))
  rw [aw_find] at cF
  have cT := Lib.hid (fun W => head_Terms aw4 (.slice none 0 0) W (recAt_nil W aw4 rfl (by decide)))
  rw [aw_terms] at cT
  unfold recV aw4 at cT
  unfold strV at cF
  go_wp2_with (first
    | (go_at_call 8; refine CA2.out.mono ?_; rintro e w6 ⟨rfl, hbd, -⟩; have hb6 := hbd (by decide); have hq6 := HQ4.out w6 (below_seq (belowA (Below.refl _ _)) hb6); have hb36 := below_seq hb5 hb6)
    | (go_at_call 15; refine (cF.out w6 hb36).mono ?_; rintro e w7 ⟨v7, rfl, ho7, hb7⟩)
    | (go_at_call 21; refine (cT.out _).mono ?_; rintro e w9 ⟨v9, rfl, ho9, hb9⟩))
  have hr7 : argRow w7 v7 ([0, 1] : List Int).length 1 (u64s [0, 1]) := argRow_owns ho7
  have hs3 := fun W (hr : argRow W v7 ([0, 1] : List Int).length 1 (u64s [0, 1])) => ref03_Same v7 (.slice (some ⟨w7.heap.size, 0, none⟩) 2 2) [0, 1] [0, 1] W hr
  have cS3 := hs3 (w7.alloc (.cells #[.int .u64 0, .int .u64 1] 44)) (argRow_below hr7 (belowA (Below.refl _ _))) (argRow_owns (owns_new w7 #[.int .u64 0, .int .u64 1] 44 2 rfl (by decide))) (by decide) (by decide)
  rw [decide_eq_true rfl] at cS3
  have CS3 := Lib.hid cS3
  clear cS3 hs3 hr7 ho7
  go_wp2_with (first
    | (go_at_call 14; refine CS3.out.mono ?_; rintro e w8 ⟨rfl, hb8⟩)
    | (go_at_call 21; refine (cT.out _).mono ?_; rintro e w9 ⟨v9, rfl, ho9, hb9⟩))
  have hr9 := argRow_owns ho9
  have cS7 := ref07_Same v9 (.slice (some ⟨w9.heap.size, 0, none⟩) 2 2) [⟨#[103, 101, 116]⟩, ⟨#[120]⟩] [⟨#[103, 101, 116]⟩, ⟨#[120]⟩] (w9.alloc (.cells #[.string ⟨#[103, 101, 116]⟩, .string ⟨#[120]⟩] 9)) (argRow_below hr9 (belowA (Below.refl _ _))) (argRow_owns (owns_new w9 #[.string ⟨#[103, 101, 116]⟩, .string ⟨#[120]⟩] 9 2 rfl (by decide))) (by decide) (by decide)
  rw [decide_eq_true rfl] at cS7
  have CS7 := Lib.hid cS7
  clear cS7 hr9 ho9
  go_wp2_with (go_at_call 20; refine CS7.out.mono ?_; rintro e w10 ⟨rfl, hb10⟩)
  go_ret
  refine ⟨by first | rfl | (simp; done), ?_⟩
  exact below_seq (below_seq (below_seq (below_seq (below_seq hb5' hb6) hb7) (below_seq (belowA (Below.refl _ _)) hb8)) hb9) (below_seq (belowA (Below.refl _ _)) hb10)
end Go.Proofs.YtaimldndooijdaaGreatDoor
