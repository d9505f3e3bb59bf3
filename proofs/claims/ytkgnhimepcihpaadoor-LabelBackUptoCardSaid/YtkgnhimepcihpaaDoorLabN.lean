/-
  LabelFinds's walk.
-/
import Derived.Test.YtkgnhimepcihpaaDoorLabO
import Derived.Deep.Cut
import Derived.Deep.CutRange
import Derived.Lib.QuietBelow
namespace Go.Proofs.YtkgnhimepcihpaaDoor
open Go.RowKit
theorem find_end_some {r : ByteArray} {e : Ending} (h : FindEnd (some r) e) : e = .returned (.tuple #[.string r, .bool true]) := h
/-- What label.Find answers, as one pair. -/
def foundV (r : Option ByteArray) : ByteArray := r.getD ⟨#[]⟩
theorem find_calls (va : Value) (L : List Lab) (n : ByteArray) (w : World) (hA : LRow w va L) :
    Calls Tryd.prog 30 #[va, .string n] w fun e w' => e = .returned (.tuple #[.string (foundV (findOf L n)), .bool (findOf L n).isSome]) ∧ Below w.heap.size w w' := by
  refine (label_Find va L n w hA).mono fun e w' h => ⟨?_, h.2⟩
  have := h.1
  cases hf : findOf L n with
  | none => rw [hf] at this; exact this
  | some v => rw [hf] at this; exact this
theorem LRow.take {W : World} {a : Option Addr} {n c k : Nat} {L : List Lab} (h : LRow W (.slice a n c) L) (hk : k ≤ L.length) : LRow W (.slice a k c) (L.take k) := by
  obtain ⟨a', c', e, h1, h2⟩ := h.shape
  cases e
  have := argRow_take h hk
  unfold LRow
  rw [List.length_take, Nat.min_eq_left hk]
  rw [show labCells (L.take k) = (labCells L).take (k * 2) from ?_]
  · exact this
  · have e2 := labCells_append (L.take k) (L.drop k)
    rw [List.take_append_drop] at e2
    rw [e2, List.take_left' (by rw [labCells_len, List.length_take, Nat.min_eq_left hk])]
theorem LRow.drop {W : World} {a : Option Addr} {n c k : Nat} {L : List Lab} (h : LRow W (.slice a n c) L) (hk : k ≤ L.length) {a' : Option Addr} {c' m : Nat} (hm : m = n - k) (hc' : n - k ≤ c' ∧ c' ≤ c)
    (ha : ∀ b off, a = some ⟨b, off, none⟩ → k < n → a' = some ⟨b, off + k * 2, none⟩) : LRow W (.slice a' m c') (L.drop k) := by
  subst hm
  obtain ⟨a2, c2, e, h1, h2⟩ := h.shape
  cases e
  have := argRow_drop h hk hc' ha
  unfold LRow
  rw [List.length_drop]
  rw [show labCells (L.drop k) = (labCells L).drop (k * 2) from ?_]
  · exact this
  · have e2 := labCells_append (L.take k) (L.drop k)
    rw [List.take_append_drop] at e2
    rw [e2, List.drop_left' (by rw [labCells_len, List.length_take, Nat.min_eq_left hk])]
theorem LRow.nil (W : World) (a : Option Addr) (c : Nat) (hc : c ≤ maxLen) : LRow W (.slice a 0 c) [] := ⟨rfl, a, c, rfl, Nat.zero_le _, hc, fun h => by simp [labCells] at h⟩
theorem two_EM (w : World) (E M : Obj) : ((w.alloc E).alloc M).drew.heap[w.heap.size + 1]? = some M := by
  have h := heap_alloc_new (w.alloc E) M
  have hs : (w.alloc E).heap.size = w.heap.size + 1 := by simp
  rw [hs] at h
  exact h
theorem two_ME (w : World) (E M : Obj) : ((w.alloc M).alloc E).drew.heap[w.heap.size]? = some M :=
  ((belowA (Below.refl (w.alloc M).heap.size (w.alloc M))).block w.heap.size (by simp)).trans (heap_alloc_new w M)
theorem row_snoc {W : World} {B : Nat} {v : Value} {L : List Lab} {m1 m2 : ByteArray} (h : W.ownsRow B 47 2 v (0 + L.length + 1) ([] ++ labCells L ++ [.string m1, .string m2])) : LRow W v (L ++ [(m1, m2)]) := by
  have h := argRow_owns h
  unfold LRow
  have e : labCells [((m1, m2) : Lab)] = [.string m1, .string m2] := rfl
  rw [labCells_append, List.length_append, e]
  rw [Nat.zero_add, List.nil_append] at h
  exact h
set_option maxRecDepth 100000 in
set_option maxHeartbeats 4000000 in
theorem finds_walk (v : Value) (L : List Lab) (m1 m2 : ByteArray) (w : World) (hsh : w.ShapedOpen Tryd.prog) (hT : Tabs w) (hA : LRow w v L)
    (hs : ∀ x ∈ L, x.1.size ≤ 1000000000 ∧ x.2.size ≤ 1000000000) (hLn : L.length ≤ 1048576) (hm : m1.size ≤ 1000000000 ∧ m2.size ≤ 1000000000) :
    Calls Tryd.prog 11 #[v, .agg #[.string m1, .string m2]] w fun e w' => e = .returned (.bool true) ∧ Below w.heap.size w w' := by
  have EL : ElemT Tryd.prog 25 47 (.agg #[.string ⟨#[]⟩, .string ⟨#[]⟩]) 2 32 := ⟨Tryd.underlying25, by kernel_rfl, rfl, by decide⟩
  obtain ⟨aa, ca, rfl, hca, hca2⟩ := hA.shape
  have hsg := lab_guard
  have hseq := Lib.hid lab_eq
  have hb0 : Below w.heap.size w (w.alloc (.cells #[.string m1, .string m2] 47)) := belowA (Below.refl _ _)
  have hg0 : (w.alloc (.cells #[.string m1, .string m2] 47)).cell? ⟨w.heap.size, 0, none⟩ = some (.string m1) ∧ (w.alloc (.cells #[.string m1, .string m2] 47)).cell? ⟨w.heap.size, 1, none⟩ = some (.string m2) := ⟨by simp, by simp⟩
  have hsz0 : w.heap.size < (w.alloc (.cells #[.string m1, .string m2] 47)).heap.size := by simp
  have hst := canonL_strict L
  have hcl := canonL_le L
  have HE := Lib.hid (fun h => canonL_len (L := L) h)
  have HP := Lib.hid (fun h => canonL_perm (L := L) h)
  have HBAD := Lib.hid (fun h => canonL_bad (L := L) h)
  have HS := Lib.hid hs
  have HA := Lib.hid hA
  clear hs hA
  have cN := Lib.hid (fun W (hW : Below w.heap.size w W) => canon_calls _ L W (HA.out.below hW) (Utf8Tabs_below hT hW) HS.out hLn)
  have HSM : canonE L = 0 → ∀ x ∈ canonL L, x.1.size ≤ 1000000000 ∧ x.2.size ≤ 1000000000 := fun h x hx => HS.out x ((HP.out h).mem_iff.1 hx)
  have HSMH := Lib.hid HSM
  clear HSM
  generalize canonE L = E at *
  generalize canonL L = S at *
  have HST := Lib.hid hst
  clear hst
  go_enter Tryd.func11, Tryd.ntmps11
  go_upto_region 1 with fail
  generalize w.alloc (.cells #[.string m1, .string m2] 47) = w0 at *
  have cA := law08_awake w0 (shaped_below hsh hb0) (Utf8Tabs_below hT hb0)
  have HG := Lib.hid (fun W (hW : Below w0.heap.size w0 W) => (⟨by rw [hW.cell (p := ⟨w.heap.size, 0, none⟩) hsz0]; exact hg0.1, by rw [hW.cell (p := ⟨w.heap.size, 1, none⟩) hsz0]; exact hg0.2⟩ : W.cell? ⟨w.heap.size, 0, none⟩ = some (.string m1) ∧ W.cell? ⟨w.heap.size, 1, none⟩ = some (.string m2)))
  clear hg0
  go_upto_region 3 with (go_at_call 27; refine cA.mono ?_; rintro e w1 ⟨rfl, hb1⟩)
  clear cA
  have hb01 := below_seq hb0 hb1
  go_upto_region 4 with (go_at_call 28; refine (cN.out _ hb01).mono ?_; rintro e w2 ⟨⟨v2, rfl, ho2⟩, hb2⟩)
  have hb12 := below_seq hb1 hb2
  have hb02 := below_seq hb0 hb12
  obtain ⟨a2, c2, rfl⟩ := owns_slice ho2
  have HA2 : (a2 = none ∧ c2 = 0) ∨ ∃ g, a2 = some ⟨g, 0, none⟩ := by
    rcases ho2.2 with ⟨e, _⟩ | ⟨g, c, cur, e, _⟩
    · exact .inl ⟨(Value.slice.inj e).1, (Value.slice.inj e).2.2⟩
    · exact .inr ⟨g, (Value.slice.inj e).1⟩
  have HC := Lib.hid (show LRow w2 (.slice a2 S.length c2) S from argRow_owns ho2)
  clear ho2
  by_cases hE : E = 0
  · have hSL := HE.out hE
    have hperm := HP.out hE
    have HSM := Lib.hid (HSMH.out hE)
    subst hE
    have HFM := Lib.hid (fun k (hk : k < L.length) => find_mem (x := L[k]) (strict_distinct HST.out) ((hperm.mem_iff).2 (List.getElem_mem hk)))
    clear HE HP HBAD HSMH hperm hSL
    go_wp2
    go_loopw [7] (fun iv wr => ∃ k : Nat, iv = .int .i64 k ∧ k ≤ L.length ∧ Below w2.heap.size w2 wr) (fun iv _ => L.length - (intOf iv).toNat)
    case atStart => exact ⟨0, rfl, Nat.zero_le _, Below.refl _ _⟩
    case round =>
      obtain ⟨k, rfl, hk, hbr⟩ := hrel
      by_cases hlt : k < L.length
      · obtain ⟨b8, o8, rfl, hb88, g1, g2⟩ := HA.out.at hlt
        have hf := HFM.out k hlt
        have cF := fun W (hW : Below w2.heap.size w2 W) => find_calls _ S L[k].1 W (HC.out.below hW)
        rw [hf] at cF
        unfold foundV at cF
        simp only [Option.getD_some, Option.isSome_some] at cF
        clear hf
        generalize L[k] = x at *
        obtain ⟨x1, x2⟩ := x
        simp only at *
        have hb8w := below_seq hb02 hbr
        have f1 : ∀ W, Below wr.heap.size wr W → W.cell? ⟨b8, o8 + k * 2, none⟩ = some (.string x1) := fun W hW => by rw [(below_seq hb8w hW).cell (p := ⟨b8, _, none⟩) hb88]; exact g1
        have f2 : ∀ W, Below wr.heap.size wr W → W.cell? ⟨b8, o8 + k * 2 + 1, none⟩ = some (.string x2) := fun W hW => by rw [(below_seq hb8w hW).cell (p := ⟨b8, _, none⟩) hb88]; exact g2
        have f0 := f1 _ (Below.refl _ _)
        have F2 := Lib.hid f2
        have i0 : (0 : Int) ≤ (k : Int) := by omega
        have i1 : (k : Int) < (L.length : Int) := by omega
        have CF := Lib.hid cF
        clear g1 g2 f1 f2 cF
        go_wp2_with (go_at_call 30; refine (CF.out _ hbr).mono ?_; rintro e w3 ⟨rfl, hb3⟩; have g2 := F2.out _ hb3)
        go_roundw
        case rel => exact ⟨k + 1, by go_num, by omega, below_seq hbr hb3⟩
        case measure => simp [intOf]; omega
      · have i1 : ¬ (k : Int) < (L.length : Int) := by omega
        have hb0r := below_seq hb02 hbr
        obtain ⟨gm1, gm2⟩ := HG.out _ (below_seq hb12 hbr)
        have cF := Lib.hid (fun W (hW : Below w2.heap.size w2 W) => find_calls _ S m1 W (HC.out.below hW))
        go_upto_region 13 with (go_at_call 30; refine (cF.out _ hbr).mono ?_; rintro e w3 ⟨rfl, hb3⟩)
        have hb03 := below_seq hb0r hb3
        have hb23 := below_seq hbr hb3
        obtain ⟨ga1, ga2⟩ := HG.out _ (below_seq hb12 hb23)
        have hg1 : ∀ W, Below w3.heap.size w3 W → W.cell? ⟨w.heap.size, 0, none⟩ = some (.string m1) ∧ W.cell? ⟨w.heap.size, 1, none⟩ = some (.string m2) := fun W hW => HG.out _ (below_seq (below_seq hb12 hb23) hW)
        have HG3 := Lib.hid hg1
        clear hg1 gm1 gm2
        have hdr := (Below.refl w3.heap.size w3).drew
        have HSRC := Lib.hid (fun W (hW : Below w3.heap.size w3 W) => src_arg (P := Tryd.prog) Tryd.underlying25 (argRow_below HC.out (below_seq hb23 hW)) (labCells_one S))
        have hmm : ∀ x ∈ S ++ [(m1, m2)], x.1.size ≤ 1000000000 ∧ x.2.size ≤ 1000000000 := fun x hx => by
          rcases List.mem_append.1 hx with h | h
          · exact HSM.out x h
          · obtain rfl : x = (m1, m2) := by simpa using h
            exact hm
        have cN2 := Lib.hid (fun v W (hW : Below w.heap.size w W) (hr : LRow W v (S ++ [(m1, m2)])) => canon_calls v _ W hr (Utf8Tabs_below hT hW) hmm (by simp; omega))
        have HMORE := Lib.hid (fun h => canon_more (S := S) (m := (m1, m2)) HST.out h : ∀ _ : canonE (S ++ [(m1, m2)]) = 0, canonL (S ++ [(m1, m2)]) = insN (m1, m2) S ∧ findOf S m1 = none ∧ findOf (insN (m1, m2) S) m1 = some m2)
        have hcl2 := canonL_le (S ++ [(m1, m2)])
        clear hmm
        generalize canonE (S ++ [(m1, m2)]) = E2 at *
        generalize canonL (S ++ [(m1, m2)]) = S2 at *
        have hF0 : findOf S m1 = none → foundV (findOf S m1) = ⟨#[]⟩ ∧ (findOf S m1).isSome = false := fun h => by rw [h]; exact ⟨rfl, rfl⟩
        generalize findOf S m1 = F0 at *
        generalize foundV F0 = FV at *
        generalize F0.isSome = FB at *
        have OWN0 := Lib.hid (fun (W : World) (v : Value) (hv : v = .slice (some ⟨W.heap.size, 0, none⟩) 0 0) (hW : w3.heap.size ≤ W.heap.size) => (hv ▸ World.ownsRow_lit W #[] 0 hW (by decide) rfl : (W.alloc (.cells #[] 47)).ownsRow w3.heap.size 47 2 v 0 []))
        obtain ⟨gd1, gd2⟩ := HG3.out _ hdr
        obtain ⟨ge1, ge2⟩ := HG3.out (w3.alloc (.cells #[] 47)).drew (Below.drew (belowA (Below.refl _ _)))
        have HEM := Lib.hid (two_EM w3 (.cells #[] 47) (.cells #[.string m1, .string m2] 47))
        have HME := Lib.hid (two_ME w3 (.cells #[] 47) (.cells #[.string m1, .string m2] 47))
        go_cut [12, 13] from 63 to 72 (fun d e wx => e = .int .i64 E2 ∧ wx.ownsRow w3.heap.size 47 2 d S2.length (labCells S2) ∧ Below w3.heap.size w3 wx)
        case first =>
          go_region_law (first
            | (go_simp; go_at_call 28; refine (cN2.out _ _ hb010 hrow10).mono ?_; rintro e w11 ⟨⟨v11, rfl, ho11⟩, hb11⟩)
            | (first
               | (refine step_append_src rfl (.tmp 64) (.tmp 65) _ _ (by rfl) w3.heap.size EL _ 0 [] rfl (by (repeat (first | ((with_reducible refine OWN0.out _ _ ?_ ?_); (first | rfl | (show Value.slice (some ⟨w3.heap.size + 1, 0, none⟩) 0 0 = _; simp)); simp) | with_reducible refine World.ownsRow.alloc ?_ _ | with_reducible refine World.ownsRow.drew ?_)); done) _ S.length (labCells S) rfl (by exact HSRC.out _ (by (repeat (first | assumption | with_reducible exact Below.refl _ _ | with_reducible refine belowA ?_ | with_reducible refine Below.drew ?_)); done)) (by unfold maxLen; omega) (by omega) (by first | (simp; done) | (simp; omega)) ?_
                  intro v9 w9 hown9 hgr9 _ _
                  have b9 : Below w3.heap.size w3 w9 := (by (repeat (first | assumption | with_reducible exact Below.refl _ _ | with_reducible refine belowA ?_ | with_reducible refine Below.drew ?_)); done : Below w3.heap.size w3 _).grown hgr9 (by first | (simp; done) | (simp; omega)) (fun k hk => by cases hk; simp)
                  obtain ⟨gb1, gb2⟩ := HG3.out _ b9
                  have HO9 := Lib.hid (fun (v : Value) (hv : v = v9) => (hv ▸ hown9 : w9.ownsRow w3.heap.size 47 2 v (0 + S.length) ([] ++ labCells S)))
                  have hs9 : w3.heap.size < w9.heap.size := by
                    have := hgr9.size
                    simp at this
                    omega)
               | fail)
            | (first
               | (refine step_append_src rfl (.tmp 66) (.tmp 68) _ _ (by rfl) w3.heap.size EL _ (0 + S.length) ([] ++ labCells S) rfl (by (repeat (first | ((with_reducible refine HO9.out _ ?_); rfl) | with_reducible refine World.ownsRow.alloc ?_ _ | with_reducible refine World.ownsRow.drew ?_)); done) _ 1 [.string m1, .string m2] rfl (by first | exact src_last (cs := #[.string m1, .string m2]) Tryd.underlying25 1 1 2 rfl rfl (by simp [Value.oneCell']) | exact src_new (cs := #[.string m1, .string m2]) (t := 47) (fr := (0, 0)) Tryd.underlying25 1 1 2 (by first | (simp; done) | (rw [hgr9.block _ (by first | (simp; done) | (simp; omega)) (by intro e; have h := Option.some.inj e; first | (simp at h; done) | omega)]; first | exact HEM.out | exact HME.out)) rfl (by simp [Value.oneCell'])) (by unfold maxLen; omega) (by omega) (by first | omega | (simp; omega)) ?_
                  intro v10 w10 hown10 hgr10 _ _
                  have b10 : Below w3.heap.size w3 w10 := (by (repeat (first | assumption | with_reducible exact Below.refl _ _ | with_reducible refine belowA ?_ | with_reducible refine Below.drew ?_)); done : Below w3.heap.size w3 _).grown hgr10 (by first | omega | (simp; omega)) (fun k hk => (hown9.lt k hk).1)
                  have hrow10 : LRow w10 v10 (S ++ [(m1, m2)]) := row_snoc hown10
                  have hb010 := below_seq hb03 b10)
               | fail))
          all_goals
            go_wp2_with fail
            go_meet
            exact ⟨rfl, owns_base ho11 b10.size, below_seq b10 hb11⟩
        case rest =>
          obtain ⟨rfl, hox, hbx⟩ := hcut
          by_cases hE2 : E2 = 0
          · obtain ⟨rfl, rfl, hfm⟩ := HMORE.out hE2
            obtain ⟨rfl, rfl⟩ := hF0 rfl
            subst hE2
            obtain ⟨ad, cd, rfl⟩ := owns_slice hox
            have hb0x := below_seq hb03 hbx
            have hlen2 : (insN (m1, m2) S).length = S.length + 1 := by rw [(insN_perm _ _).length_eq]; rfl
            have HD := Lib.hid (show LRow wc (.slice ad (S.length + 1) cd) (insN (m1, m2) S) from by rw [← hlen2]; exact argRow_owns hox)
            rw [hlen2] at *
            clear hlen2 hox
            have hg2 := HG3.out _ hbx
            have cF2 := Lib.hid (fun W (hW : Below wc.heap.size wc W) => find_calls _ (insN (m1, m2) S) m1 W (HD.out.below hW))
            rw [hfm] at cF2
            clear hfm
            unfold foundV at cF2
            simp only [Option.getD_some, Option.isSome_some] at cF2
            obtain ⟨gx1, gx2⟩ := hg2
            clear HMORE hF0 cF HSRC cN cN2
            go_upto_region 17 with (go_at_call 30; refine (cF2.out _ (Below.refl _ _)).mono ?_; rintro e w12 ⟨rfl, hb12'⟩)
            have HG12 := Lib.hid (fun W (hW : Below w12.heap.size w12 W) => HG3.out W (below_seq (below_seq hbx hb12') hW))
            have HC12 := Lib.hid (fun W (hW : Below w12.heap.size w12 W) => HC.out.below (below_seq (below_seq hb23 (below_seq hbx hb12')) hW))
            have HD12 := Lib.hid (fun W (hW : Below w12.heap.size w12 W) => HD.out.below (below_seq hb12' hW))
            have hB12 := below_seq hb0x hb12'
            clear HG HG3 HC HD cF2 gx1 gx2 hdr ga1 ga2
            go_wp2
            go_loopw [16] (fun iv wr => ∃ k : Nat, iv = .int .i64 k ∧ k ≤ S.length ∧ (∀ i (h : i < S.length), i < k → lessN S[i] (m1, m2) = true) ∧ Below w12.heap.size w12 wr) (fun iv _ => S.length - (intOf iv).toNat)
            case atStart => exact ⟨0, rfl, Nat.zero_le _, fun i h hi => absurd hi (by omega), Below.refl _ _⟩
            case round =>
              obtain ⟨k', rfl, hk', hless, hbr'⟩ := hrel
              have hdn : ∀ n, Below wr.heap.size wr (wr.drewN n) := fun n => ⟨rfl, rfl, rfl, Nat.le_refl _, fun _ _ => rfl⟩
              have fm : ∀ n, (wr.drewN n).cell? ⟨w.heap.size, 0, none⟩ = some (.string m1) := fun n => (HG12.out _ (below_seq hbr' (hdn n))).1
              have i0 : (0 : Int) ≤ (k' : Int) := by omega
              by_cases hlt : k' < S.length
              · have i1 : (k' : Int) < (S.length : Int) := by omega
                obtain ⟨b8, o8, e8, hb88, g1, _⟩ := (HC12.out _ hbr').at hlt
                subst e8
                have f1 : ∀ n, (wr.drewN n).cell? ⟨b8, o8 + k' * 2, none⟩ = some (.string S[k'].1) := fun n => by rw [(hdn n).cell (p := ⟨b8, o8 + k' * 2, none⟩) hb88]; exact g1
                obtain ⟨q, hq⟩ : ∃ q, lessN S[k'] (m1, m2) = q := ⟨_, rfl⟩
                have hq' : Op.bytesLess S[k'].1.toList m1.toList = q := hq
                clear g1
                have HQ := Lib.hid hq
                clear hq
                have HLESS := Lib.hid hless
                clear hless
                obtain ⟨y1, hy1⟩ : ∃ y, S[k'].1 = y := ⟨_, rfl⟩
                rw [hy1] at f1 hq'
                clear hy1
                cases q
                · have hins := Lib.hid (insN_at (m1, m2) S k' hk' HLESS.out (fun _ => HQ.out))
                  go_wp2_with fail
                  go_quiet (fail)
                  go_upto_region 20 with fail
                  have hbq := below_seq hbr' (hdn nq)
                  clear fm f1 hdn
                  generalize wr.drewN nq = wz at *
                  have HDG := Lib.hid (fun W (hW : Below wz.heap.size wz W) => (hins.out ▸ HD12.out W (below_seq hbq hW) : LRow W (.slice ad (S.length + 1) cd) (S.take k' ++ (m1, m2) :: S.drop k')))
                  have hlt1 : (S.take k').length = k' := by rw [List.length_take]; omega
                  have hLN : (S.take k' ++ (m1, m2) :: S.drop k').length = S.length + 1 := by rw [List.length_append, List.length_cons, List.length_drop]; omega
                  have hcd : S.length + 1 ≤ cd ∧ cd ≤ maxLen := by
                    obtain ⟨_, _, ead, h, h2⟩ := (HDG.out _ (Below.refl _ _)).shape
                    have e := (Value.slice.inj ead).2.2
                    exact ⟨by omega, by rw [e]; exact h2⟩
                  have hc2 : S.length ≤ c2 ∧ c2 ≤ maxLen := by
                    obtain ⟨_, _, ea, h, h2⟩ := (HC12.out _ hbq).shape
                    have e := (Value.slice.inj ea).2.2
                    exact ⟨by omega, by rw [e]; exact h2⟩
                  obtain ⟨b9, o9, e9, hb99, e1, e2⟩ := (HDG.out _ (Below.refl _ _)).at (k := k') (by omega)
                  subst e9
                  have hx : (S.take k' ++ (m1, m2) :: S.drop k')[k']'(by omega) = (m1, m2) := by rw [List.getElem_append_right (by omega)]; simp [hlt1]
                  rw [hx] at e1 e2
                  have c1 := cell_regrown e1
                  have c2' := cell_regrown e2
                  have c3 := cell_regrown (HG12.out _ hbq).1
                  have c4 := cell_regrown (HG12.out _ hbq).2
                  have r1 := fun d os => (HDG.out _ (below_regrown wz d os)).take (k := k') (by omega)
                  have r2 := fun d os => (HC12.out _ (below_seq hbq (below_regrown wz d os))).take (k := k') (by omega)
                  have e3 : (S.take k' ++ (m1, m2) :: S.drop k').take k' = S.take k' := List.take_left' hlt1
                  have e4 : (S.take k' ++ (m1, m2) :: S.drop k').drop (k' + 1) = S.drop k' := by rw [show S.take k' ++ (m1, m2) :: S.drop k' = (S.take k' ++ [(m1, m2)]) ++ S.drop k' by simp, List.drop_left' (by rw [List.length_append, hlt1]; rfl)]
                  rw [e3] at r1
                  have dC1 : ∀ d os, Calls Tryd.prog 33 #[.slice (some ⟨b9, o9, none⟩) k' cd, .slice (some ⟨b8, o8, none⟩) k' c2] (Sort.grow (redrawn wz d) os) fun e w'' => e = .returned (.int .i64 0) ∧ ∃ p : Regrown, w'' = Sort.grow (redrawn wz p.d) p.os := fun d os => Calls.regrown_of (by have h := label_Compare _ _ _ _ _ (r1 d os) (r2 d os); rwa [cmpLabs_self] at h)
                  have r3 := fun d os => (HDG.out _ (below_regrown wz d os)).drop (k := k' + 1) (by omega) (a' := some ⟨b9, o9 + (k' + 1) * 2, none⟩) (c' := cd - (k' + 1)) (m := S.length - k') (by omega) (by omega) (fun b off e _ => by cases e; rfl)
                  have r4 := fun d os => (HC12.out _ (below_seq hbq (below_regrown wz d os))).drop (k := k') (by omega) (a' := some ⟨b8, o8 + k' * 2, none⟩) (c' := c2 - k') (m := S.length - k') (by omega) (by omega) (fun b off e _ => by cases e; rfl)
                  rw [e4] at r3
                  have dC2 : ∀ d os, Calls Tryd.prog 33 #[.slice (some ⟨b9, o9 + (k' + 1) * 2, none⟩) (S.length - k') (cd - (k' + 1)), .slice (some ⟨b8, o8 + k' * 2, none⟩) (S.length - k') (c2 - k')] (Sort.grow (redrawn wz d) os) fun e w'' => e = .returned (.int .i64 0) ∧ ∃ p : Regrown, w'' = Sort.grow (redrawn wz p.d) p.os := fun d os => Calls.regrown_of (by have h := label_Compare _ _ _ _ _ (r3 d os) (r4 d os); rwa [cmpLabs_self] at h)
                  clear r3 r4
                  have j1 : (k' : Int) ≤ (S.length : Int) := by omega
                  have j2 : (k' : Int) ≤ (c2 : Int) := by omega
                  have j3 : (k' : Int) ≤ ((S.length + 1 : Nat) : Int) := by omega
                  have j4 : (k' : Int) ≤ (cd : Int) := by omega
                  have j5 : (k' : Int) < ((S.length + 1 : Nat) : Int) := by omega
                  have j6 : IntKind.i64.wrap ((k' : Int) + 1) = ((k' + 1 : Nat) : Int) := by rw [IntWalk.i64_in _ (by omega)]; omega
                  have j7 : ((k' + 1 : Nat) : Int) ≤ ((S.length + 1 : Nat) : Int) := by omega
                  have j8 : ((k' + 1 : Nat) : Int) ≤ (cd : Int) := by omega
                  have j9 : (0 : Int) ≤ ((k' + 1 : Nat) : Int) := by omega
                  have j10 : IntKind.i64.wrap ((S.length : Int) + 1) = ((S.length + 1 : Nat) : Int) := by rw [IntWalk.i64_in _ (by omega)]; omega
                  have hsq := fun x1 x2 y1 y2 W => hseq.out x1 x2 y1 y2 W
                  clear e1 e2 r1 r2 e3 e4 hlt1 hLN hx
                  go_wp2_with fail
                  refine wp_region_quiet_below (by kernel_rfl) (by kernel_rfl) ?_
                  repeat (go_big_quiet_step (first | with_reducible exact dC1 _ _ | with_reducible exact dC2 _ _))
                  refine wpQuiet_nil ?_
                  intro _ hw'
                  obtain ⟨⟨dq, osq⟩, hw''⟩ := hw'
                  subst hw''
                  go_wp2
                  go_ret
                  exact ⟨rfl, below_seq (below_seq hB12 hbq) (below_regrown wz dq osq)⟩
                · go_wp2_with fail
                  go_quiet (fail)
                  go_wp2_with fail
                  go_roundw
                  case rel => exact ⟨k' + 1, by go_num, by omega, fun i h hi => Decidable.byCases (fun e : i = k' => by subst e; exact HQ.out) (fun e => HLESS.out i h (by omega)), below_seq hbr' (hdn _)⟩
                  case measure => simp [intOf]; omega
              · have i1 : ¬ (k' : Int) < (S.length : Int) := by omega
                have hins := Lib.hid (insN_at (m1, m2) S k' hk' hless (fun h => absurd h hlt))
                clear hless
                go_wp2_with fail
                go_quiet (fail)
                go_upto_region 20 with fail
                have hkS : k' = S.length := by omega
                subst hkS
                have hbq := below_seq hbr' (hdn nq)
                clear fm hdn
                generalize wr.drewN nq = wz at *
                have HDG := Lib.hid (fun W (hW : Below wz.heap.size wz W) => (hins.out ▸ HD12.out W (below_seq hbq hW) : LRow W (.slice ad (S.length + 1) cd) (S.take S.length ++ (m1, m2) :: S.drop S.length)))
                have hlt1 : (S.take S.length).length = S.length := by rw [List.length_take]; omega
                have hLN : (S.take S.length ++ (m1, m2) :: S.drop S.length).length = S.length + 1 := by rw [List.length_append, List.length_cons, List.length_drop]; omega
                have hcd : S.length + 1 ≤ cd ∧ cd ≤ maxLen := by
                  obtain ⟨_, _, ead, h, h2⟩ := (HDG.out _ (Below.refl _ _)).shape
                  have e := (Value.slice.inj ead).2.2
                  exact ⟨by omega, by rw [e]; exact h2⟩
                have hc2 : S.length ≤ c2 ∧ c2 ≤ maxLen := by
                  obtain ⟨_, _, ea, h, h2⟩ := (HC12.out _ hbq).shape
                  have e := (Value.slice.inj ea).2.2
                  exact ⟨by omega, by rw [e]; exact h2⟩
                obtain ⟨b9, o9, e9, hb99, e1, e2⟩ := (HDG.out _ (Below.refl _ _)).at (k := S.length) (by omega)
                subst e9
                have hx : (S.take S.length ++ (m1, m2) :: S.drop S.length)[S.length]'(by omega) = (m1, m2) := by rw [List.getElem_append_right (by omega)]; simp [hlt1]
                rw [hx] at e1 e2
                have c1 := cell_regrown e1
                have c2' := cell_regrown e2
                have c3 := cell_regrown (HG12.out _ hbq).1
                have c4 := cell_regrown (HG12.out _ hbq).2
                have r1 := fun d os => (HDG.out _ (below_regrown wz d os)).take (k := S.length) (by omega)
                have r2 := fun d os => (HC12.out _ (below_seq hbq (below_regrown wz d os))).take (k := S.length) (by omega)
                have e3 : (S.take S.length ++ (m1, m2) :: S.drop S.length).take S.length = S.take S.length := List.take_left' hlt1
                have e4 : (S.take S.length ++ (m1, m2) :: S.drop S.length).drop (S.length + 1) = S.drop S.length := by rw [show S.take S.length ++ (m1, m2) :: S.drop S.length = (S.take S.length ++ [(m1, m2)]) ++ S.drop S.length by simp, List.drop_left' (by rw [List.length_append, hlt1]; rfl)]
                rw [e3] at r1
                have dC1 : ∀ d os, Calls Tryd.prog 33 #[.slice (some ⟨b9, o9, none⟩) S.length cd, .slice a2 S.length c2] (Sort.grow (redrawn wz d) os) fun e w'' => e = .returned (.int .i64 0) ∧ ∃ p : Regrown, w'' = Sort.grow (redrawn wz p.d) p.os := fun d os => Calls.regrown_of (by have h := label_Compare _ _ _ _ _ (r1 d os) (r2 d os); rwa [cmpLabs_self] at h)
                have j1 : (S.length : Int) ≤ (S.length : Int) := by omega
                have j2 : (S.length : Int) ≤ (c2 : Int) := by omega
                have j3 : (S.length : Int) ≤ ((S.length + 1 : Nat) : Int) := by omega
                have j4 : (S.length : Int) ≤ (cd : Int) := by omega
                have j5 : (S.length : Int) < ((S.length + 1 : Nat) : Int) := by omega
                have j6 : IntKind.i64.wrap ((S.length : Int) + 1) = ((S.length + 1 : Nat) : Int) := by rw [IntWalk.i64_in _ (by omega)]; omega
                have j7 : ((S.length + 1 : Nat) : Int) ≤ ((S.length + 1 : Nat) : Int) := by omega
                have j8 : ((S.length + 1 : Nat) : Int) ≤ (cd : Int) := by omega
                have j9 : (0 : Int) ≤ ((S.length + 1 : Nat) : Int) := by omega
                have j10 : IntKind.i64.wrap ((S.length : Int) + 1) = ((S.length + 1 : Nat) : Int) := by rw [IntWalk.i64_in _ (by omega)]; omega
                have hsq := fun x1 x2 y1 y2 W => hseq.out x1 x2 y1 y2 W
                clear e1 e2 r1 r2 e3 e4 hlt1 hLN hx
                have dC2 : ∀ a b x y, x ≤ maxLen → y ≤ maxLen → ∀ d os, Calls Tryd.prog 33 #[.slice a 0 x, .slice b 0 y] (Sort.grow (redrawn wz d) os) fun e w'' => e = .returned (.int .i64 0) ∧ ∃ p : Regrown, w'' = Sort.grow (redrawn wz p.d) p.os := fun a b x y hx hy d os => Calls.regrown_of (by have h := label_Compare _ _ [] [] (Sort.grow (redrawn wz d) os) (LRow.nil _ a x hx) (LRow.nil _ b y hy); rwa [cmpLabs_self] at h)
                have hM0 : 0 ≤ maxLen := Nat.zero_le _
                have hM1 : cd - (S.length + 1) ≤ maxLen := by omega
                have hM2 : c2 - S.length ≤ maxLen := by omega
                by_cases q1 : S.length + 1 = cd
                case' pos => subst q1
                case' neg => have q1b : ¬ cd = S.length + 1 := fun e => q1 e.symm
                all_goals
                  rcases HA2 with ⟨rfl, rfl⟩ | ⟨g2, rfl⟩
                  case' inl =>
                    obtain rfl : S = [] := List.eq_nil_of_length_eq_zero (by omega)
                    simp only [List.length_nil, Nat.zero_mul, Nat.add_zero, Nat.zero_add] at c1 c2' dC1 hM1
                  case' inr =>
                    by_cases q2 : S.length = c2
                    case' pos => subst q2
                    case' neg => have q2b : ¬ c2 = S.length := fun e => q2 e.symm
                  all_goals
                    go_wp2_with fail
                    refine wp_region_quiet_below (by kernel_rfl) (by kernel_rfl) ?_
                    repeat (go_big_quiet_step (first | with_reducible exact dC1 _ _ | with_reducible exact dC2 _ _ _ _ (by assumption) (by assumption) _ _))
                    refine wpQuiet_nil ?_
                    intro _ hw'
                    obtain ⟨⟨dq, osq⟩, hw''⟩ := hw'
                    subst hw''
                    go_wp2
                    go_ret
                    exact ⟨rfl, below_seq (below_seq hB12 hbq) (below_regrown wz dq osq)⟩
                    skip
          · have hb : (E2 == 0) = false := by simpa using hE2
            go_wp2
            go_ret
            exact ⟨by first | rfl | simp, below_seq hb03 hbx⟩
  · have hSL := HBAD.out hE
    have hb : (E == 0) = false := by simpa using hE
    subst hSL
    go_wp2
    go_ret
    exact ⟨by first | rfl | simp, hb02⟩
end Go.Proofs.YtkgnhimepcihpaaDoor
