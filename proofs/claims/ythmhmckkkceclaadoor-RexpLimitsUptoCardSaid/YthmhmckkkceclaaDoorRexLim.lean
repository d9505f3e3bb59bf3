/-
  RexpLimits, plainly; what a tree that is written over leaves.
-/
import Derived.Test.YthmhmckkkceclaaDoorRexLaw
namespace Go.Proofs.YthmhmckkkceclaaDoor
open Go.RowKit
theorem rep_snoc {α : Type} (a : α) (k : Nat) : List.replicate k a ++ [a] = a :: List.replicate k a := by
  induction k with
  | zero => rfl
  | succ k ih => rw [List.replicate_succ, List.cons_append, ih]
def parsZ : Nat → List Int
  | 0 => [97]
  | k + 1 => 40 :: (parsZ k ++ [41])
theorem parsZ_rep : ∀ k, parsZ k = List.replicate k 40 ++ [97] ++ List.replicate k 41
  | 0 => rfl
  | k + 1 => by
    unfold parsZ
    rw [parsZ_rep k, List.replicate_succ, List.append_assoc, rep_snoc]
    simp [List.replicate_succ]
theorem pat_a : ∃ f, patP [97] = some f ∧ f.nodes = (leaf 2 [97, 97]).nodes ∧ f.deep = 0 := ⟨leaf 2 [97, 97], by rfl, rfl, rfl⟩
theorem pat_pars : ∀ k, ∃ f, patP (parsZ k) = some f ∧ f.nodes = (leaf 2 [97, 97]).nodes ∧ f.deep = k
  | 0 => pat_a
  | k + 1 => by
    obtain ⟨f, h1, h2, h3⟩ := pat_pars k
    exact ⟨upF f, pat_par h1, h2, by show f.deep + 1 = k + 1; omega⟩
theorem runesZ_asc (s : ByteArray) (h : ∀ b ∈ s.data.toList, b.toNat < 128) : Lib.validD s.data.toList = true ∧ runesZ s = s.data.toList.map fun b => (b.toNat : Int) := by
  have h1 := runes_ascii s.data.toList h []
  have h2 := valid_ascii s.data.toList h []
  rw [List.append_nil] at h1 h2
  refine ⟨by rw [h2]; rfl, ?_⟩
  unfold runesZ
  rw [h1, runes_nil, List.append_nil, List.map_map]
  rfl
def txtA : ByteArray := ⟨#[97]⟩
theorem parse_deep (T U : ByteArray) (k : Nat) (hT : T.data.toList = List.replicate k 40) (hU : U.data.toList = List.replicate k 41) (hk : k ≤ 60) :
    parseE (T ++ txtA ++ U) = (if 16 < k then 9 else 0) ∧ (k ≤ 16 → (parseL (T ++ txtA ++ U)).length = 1) := by
  have hl : (T ++ txtA ++ U).data.toList = List.replicate k 40 ++ [97] ++ List.replicate k 41 := by
    rw [app_listR, app_listR, hT, hU]
    rfl
  have hasc : ∀ b ∈ (T ++ txtA ++ U).data.toList, b.toNat < 128 := by
    rw [hl]
    intro b hb
    rcases List.mem_append.1 hb with hb | hb
    · rcases List.mem_append.1 hb with hb | hb
      · rw [(List.mem_replicate.1 hb).2]
        decide
      · rw [List.mem_singleton.1 hb]
        decide
    · rw [(List.mem_replicate.1 hb).2]
      decide
  obtain ⟨hv, hr⟩ := runesZ_asc _ hasc
  rw [hl] at hr
  have hr2 : runesZ (T ++ txtA ++ U) = parsZ k := by
    rw [hr, parsZ_rep]
    simp only [List.map_append, List.map_replicate, List.map_cons, List.map_nil]
    rfl
  obtain ⟨f, h1, h2, h3⟩ := pat_pars k
  rw [← hr2] at h1
  have hsz : (T ++ txtA ++ U).size ≤ 128 := by
    have h := congrArg List.length hl
    have h0 : (T ++ txtA ++ U).data.toList.length = (T ++ txtA ++ U).size := Array.length_toList
    rw [h0, List.length_append, List.length_append, List.length_replicate, List.length_replicate] at h
    show (T ++ txtA ++ U).size ≤ 128
    rw [h]
    show k + 1 + k ≤ 128
    omega
  obtain ⟨e1, e2⟩ := parse_of hsz hv h1
  have hz : ¬ 1000 < sizeP (leaf 2 [97, 97]).nodes := by decide
  rw [h2, h3, if_neg hz] at e1
  refine ⟨e1, fun hk16 => ?_⟩
  have e3 : parseE (T ++ txtA ++ U) = 0 := by rw [e1, if_neg (by omega)]
  rw [e2 e3, h2]
  rfl
def longT : ByteArray := ⟨(List.replicate 128 97).toArray⟩
theorem long_is (T : ByteArray) (h : T.data.toList = List.replicate 128 97) : T = longT := by
  have h1 : T.data = (List.replicate 128 97).toArray := by
    rw [← h]
  cases T
  simp only at h1
  rw [h1]
  rfl
theorem long_e : parseE longT = 0 ∧ (parseL longT).length = 129 := by decide +kernel
end Go.Proofs.YthmhmckkkceclaaDoor
/-
  RexpLimits' walk.
-/
namespace Go.Proofs.YthmhmckkkceclaaDoor
open Go.RowKit
def AnyRow (w : World) (B : Nat) (e : TypeId) (v : Value) (n : Nat) : Prop := ∃ xs, w.ownsRow B e 1 v n xs
theorem AnyRow.set {w : World} {B : Nat} {e : TypeId} {v : Value} {n : Nat} (h : AnyRow w B e v n) (g j : Nat) (x : Value) : AnyRow (w.setCell ⟨g, j, none⟩ x) B e v n := by
  obtain ⟨xs, hx, h2⟩ := h
  rcases h2 with h2 | ⟨b, cap, cur, e1, h3, h4, h5, h6, h7, h8⟩
  · exact ⟨xs, hx, .inl h2⟩
  · by_cases hb : b = g
    · subst hb
      refine ⟨(cur.setIfInBounds j x).toList.take (n * 1), ?_, .inr ⟨b, cap, cur.setIfInBounds j x, e1, h3, heap_setCell_same _ _ _ _ _ _ h4, h5, h6, by rw [Array.size_setIfInBounds]; exact h7, rfl⟩⟩
      rw [List.length_take, Array.length_toList, Array.size_setIfInBounds, h7]
      omega
    · exact ⟨xs, hx, .inr ⟨b, cap, cur, e1, h3, by rw [heap_setCell_other _ _ _ _ hb]; exact h4, h5, h6, h7, h8⟩⟩
theorem AnyRow.at {w : World} {B : Nat} {e : TypeId} {v : Value} {n j : Nat} (h : AnyRow w B e v n) (hj : j < n) : ∃ g cap x, v = .slice (some ⟨g, 0, none⟩) n cap ∧ w.cell? ⟨g, j, none⟩ = some x ∧ w.frozen? ⟨g, j, none⟩ = false := by
  obtain ⟨xs, h⟩ := h
  have h0 := h
  rcases h.2 with ⟨_, h2⟩ | ⟨b, cap, cur, e1, h3, h4, h5, h6, h7, h8⟩
  · omega
  · subst e1
    have hl := h0.1
    have hc := h0.cellAt j (by omega)
    rw [List.getElem?_eq_getElem (by omega)] at hc
    exact ⟨b, cap, _, rfl, hc, h0.frozenAt j⟩
theorem AnyRow.shape {w : World} {B : Nat} {e : TypeId} {v : Value} {n : Nat} (h : AnyRow w B e v n) : ∃ a c, v = .slice a n c := by
  obtain ⟨xs, h⟩ := h
  exact owns_slice h
theorem AnyRow.le {w : World} {B : Nat} {e : TypeId} {v : Value} {n : Nat} (h : AnyRow w B e v n) : n ≤ maxLen := by
  obtain ⟨xs, h⟩ := h
  rcases h.2 with ⟨_, h2⟩ | ⟨b, cap, cur, e1, h3, h4, h5, h6, _⟩
  · omega
  · exact Nat.le_trans h5 h6
/-- A tree that is written over, and one beside it. -/
structure WK (B T : Nat) (v : Value) (Z : List NdL) (vd : Value) (Zd : List NdL) (w0 w : World) : Prop where
  own : w.ownsRow B 33 5 v Z.length (ndsCells Z)
  kids : ∀ z ∈ Z, AnyRow w B 3 z.2.1 z.1.kids.length
  sets : ∀ z ∈ Z, AnyRow w B 21 z.2.2 z.1.set.length
  lim : ∀ z ∈ Z, ∀ g, z.2.1.ownBlock = some g ∨ z.2.2.ownBlock = some g → B ≤ g ∧ g < T
  oth : NOwn w T vd Zd
  low : Below B w0 w
theorem WK.set {B T : Nat} {v vd : Value} {Z Zd : List NdL} {w0 w : World} (h : WK B T v Z vd Zd w0 w) {z : NdL} (hz : z ∈ Z) {g : Nat} (hg : z.2.1.ownBlock = some g ∨ z.2.2.ownBlock = some g) (j : Nat) (x : Value) : WK B T v Z vd Zd w0 (w.setCell ⟨g, j, none⟩ x) := by
  obtain ⟨l1, l2⟩ := h.lim z hz g hg
  refine ⟨?_, fun y hy => (h.kids y hy).set g j x, fun y hy => (h.sets y hy).set g j x, h.lim, h.oth.kept (gset w g j x) (fun k hk => by cases hk; omega), h.low.setCell (p := ⟨g, j, none⟩) l1 _⟩
  refine h.own.kept (gset w g j x) ?_
  cases hv : v.ownBlock with
  | none => exact .inl rfl
  | some k =>
    refine .inr fun e => ?_
    have e' : g = k := (Option.some.inj e).symm
    subst e'
    rcases hg with hg | hg
    · obtain ⟨xs, hx⟩ := h.kids z hz
      exact own_apartX hx h.own (by decide) hg hv
    · obtain ⟨xs, hx⟩ := h.sets z hz
      exact own_apartX hx h.own (by decide) hg hv
theorem WK.at {B T : Nat} {v vd : Value} {Z Zd : List NdL} {w0 w : World} (h : WK B T v Z vd Zd w0 w) {k : Nat} (hk : k < Z.length) : ∃ g c, v = .slice (some ⟨g, 0, none⟩) Z.length c ∧ w.cell? ⟨g, k * 5 + 1, none⟩ = some Z[k].2.1 ∧ w.cell? ⟨g, k * 5 + 4, none⟩ = some Z[k].2.2 := by
  rcases h.own.2 with ⟨_, h0⟩ | ⟨g, cap, cur, rfl, _⟩
  · omega
  · refine ⟨g, cap, rfl, ?_, ?_⟩
    · rw [h.own.cellAt _ (by omega), ndsCells_get Z k hk 1 (by omega)]
      rfl
    · rw [h.own.cellAt _ (by omega), ndsCells_get Z k hk 4 (by omega)]
      rfl
set_option maxRecDepth 100000 in
set_option maxHeartbeats 40000000 in
theorem limits_walk (n : Int) (s : ByteArray) (w : World) (hT : Tabs w) (hs : s.size ≤ 1048576) (hn : 0 ≤ n ∧ n < 256) : Calls Tryd.prog 6 #[.int .u8 n, .string s] w fun e w' => e = .returned (.bool true) ∧ Below w.heap.size w w' := by
  have cA := law18_awake w hT
  obtain ⟨n0, n1⟩ := hn
  have HT := Lib.hid hT
  clear hT
  obtain ⟨lo, hlo⟩ : ∃ lo : Nat, n % 20 = (lo : Int) := ⟨(n % 20).toNat, by omega⟩
  have t1 : Int.tmod n 20 = (lo : Int) := by rw [Int.tmod_eq_emod_of_nonneg n0]; exact hlo
  have hlo9 : lo < 20 := by omega
  clear hlo
  go_enter Tryd.func6, Tryd.ntmps6
  go_upto_region 4 with (go_at_call 8; refine cA.mono ?_; rintro e w1 ⟨rfl, hb1⟩)
  clear cA t1 n0 n1
  have HB1 := Lib.hid hb1
  clear hb1
  go_upto_region 6 with fail
  go_wp2_with fail
  go_loopw [6, 7, 8] (fun tv uv iv wr => Below w1.heap.size w1 wr ∧ ∃ (i : Nat) (T U : ByteArray), iv = .int .i64 (i : Int) ∧ i ≤ lo ∧ tv = .string T ∧ uv = .string U ∧ T.data.toList = List.replicate i 40 ∧ U.data.toList = List.replicate i 41) (fun _ _ iv _ => lo - (intOf iv).toNat)
  case atStart => exact ⟨Below.refl _ _, 0, ⟨#[]⟩, ⟨#[]⟩, rfl, by omega, rfl, rfl, rfl, rfl⟩
  case round =>
    obtain ⟨hbr, i, T, U, rfl, hi, rfl, rfl, hT, hU⟩ := hrel
    have HBR := Lib.hid (HB1.out.trans (hbr.mono HB1.out.size))
    have hTs : T.size = i := by
      have h0 : T.data.toList.length = T.size := Array.length_toList
      rw [← h0, hT, List.length_replicate]
    have hUs : U.size = i := by
      have h0 : U.data.toList.length = U.size := Array.length_toList
      rw [← h0, hU, List.length_replicate]
    have hTl : T.size ≤ 20 := by omega
    have hUl : U.size ≤ 20 := by omega
    have HTT := Lib.hid (And.intro hT hU)
    clear hT hU hTs hUs
    by_cases hlt : i < lo
    · go_wp2_with fail
      go_roundw
      case rel =>
        refine ⟨hbr, i + 1, T ++ ⟨#[40]⟩, U ++ ⟨#[41]⟩, by go_num, by omega, rfl, rfl, ?_, ?_⟩
        · rw [app_listR, HTT.out.1]
          exact rep_snoc 40 i
        · rw [app_listR, HTT.out.2]
          exact rep_snoc 41 i
      case measure => simp [intOf]; omega
    · have hie : i = lo := by omega
      have hdp := parse_deep T U lo (by rw [← hie]; exact HTT.out.1) (by rw [← hie]; exact HTT.out.2) (by omega)
      subst hie
      have HDP := Lib.hid hdp
      obtain ⟨E1, hE1⟩ : ∃ E, parseE (T ++ txtA ++ U) = E := ⟨_, rfl⟩
      obtain ⟨L1, hL1⟩ : ∃ E, parseL (T ++ txtA ++ U) = E := ⟨_, rfl⟩
      have zs : (T ++ txtA ++ U).size ≤ maxLen := by
        rw [ByteArray.size_append, ByteArray.size_append]
        show T.size + 1 + U.size ≤ _
        unfold maxLen
        omega
      have C1 := par_at _ E1 L1 wr hE1 hL1 (Utf8Tabs_below HT.out HBR.out) zs
      rw [hE1, hL1] at HDP
      unfold txtA at C1
      clear hdp hE1 hL1 zs
      clear hlt hi
      go_upto_region 12 with (go_at_call 9; refine C1.mono ?_; rintro e w2 ⟨v1, Z1, rfl, hnx, hlx, hbx⟩; obtain ⟨a1, c1, rfl⟩ := owns_slice hnx.own; have H2 := Lib.hid (And.intro hnx (And.intro hlx hbx)); clear hnx hlx hbx)
      have HB2 := Lib.hid (HBR.out.trans (H2.out.2.2.mono HBR.out.size))
      clear C1 hbr HB1
      go_cut [65] from 47 to 65 (fun vv wx => vv = .bool false ∧ Below w2.heap.size w2 wx)
      case first =>
        by_cases hk : i ≤ 16
        · have hE : E1 = 0 := by rw [HDP.out.1, if_neg (by omega)]
          have hZ : Z1.length = 1 := by rw [← HDP.out.2 hk, ← H2.out.2.1, List.length_map]
          have g1 : decide ((i : Int) ≤ 16) = true := decide_eq_true (by omega)
          have g2 : decide ((16 : Int) < (i : Int)) = false := decide_eq_false (by omega)
          have g3 : (E1 != 0) = false := by rw [hE]; rfl
          have g4 : ((Z1.length : Int) != 1) = false := by rw [hZ]; rfl
          clear hE hZ hk
          go_wp2_with fail
          go_meet
          exact ⟨rfl, Below.refl _ _⟩
        · have hE : E1 = 9 := by rw [HDP.out.1, if_pos (by omega)]
          have g1 : decide ((i : Int) ≤ 16) = false := decide_eq_false (by omega)
          have g2 : decide ((16 : Int) < (i : Int)) = true := decide_eq_true (by omega)
          have g3 : (E1 != 9) = false := by rw [hE]; rfl
          clear hE hk
          go_wp2_with fail
          go_meet
          exact ⟨rfl, Below.refl _ _⟩
      case rest =>
        obtain ⟨rfl, hbc⟩ := hcut
        obtain ⟨w3, hw3⟩ : ∃ x : World, x = wc := ⟨_, rfl⟩
        subst hw3
        have HB3 := Lib.hid (HB2.out.trans (hbc.mono HB2.out.size))
        clear hbc HB2 HBR HTT HDP hTl hUl
        go_upto_region 16 with fail
        go_loopw [11, 12] (fun tv iv wr => Below w3.heap.size w3 wr ∧ ∃ (j : Nat) (T : ByteArray), iv = .int .i64 (j : Int) ∧ j ≤ 128 ∧ tv = .string T ∧ T.data.toList = List.replicate j 97) (fun _ iv _ => 128 - (intOf iv).toNat)
        case atStart => exact ⟨Below.refl _ _, 0, ⟨#[]⟩, rfl, by omega, rfl, rfl⟩
        case round =>
          obtain ⟨hbr, j, T2, rfl, hj, rfl, hT⟩ := hrel
          have hTs : T2.size ≤ 128 := by
            have h0 : T2.data.toList.length = T2.size := Array.length_toList
            rw [← h0, hT, List.length_replicate]
            exact hj
          have HBR := Lib.hid (HB3.out.trans (hbr.mono HB3.out.size))
          have HTT := Lib.hid hT
          clear hT
          by_cases hlt2 : j < 128
          · go_wp2_with fail
            go_roundw
            case rel =>
              refine ⟨hbr, j + 1, T2 ++ ⟨#[97]⟩, by go_num, by omega, rfl, ?_⟩
              rw [app_listR, HTT.out]
              exact rep_snoc 97 j
            case measure => simp [intOf]; omega
          · have hje : j = 128 := by omega
            have hTL : T2 = longT := long_is T2 (by rw [HTT.out, hje])
            obtain ⟨le1, le2⟩ := long_e
            obtain ⟨LL, hLL⟩ : ∃ L, parseL longT = L := ⟨_, rfl⟩
            rw [hLL] at le2
            have C2 := par_at T2 0 LL wr (by rw [hTL]; exact le1) (by rw [hTL]; exact hLL) (Utf8Tabs_below HT.out HBR.out) (by unfold maxLen; omega)
            have hsz2 : 128 < (T2 ++ txtA).size := by
              have h0 : T2.data.toList.length = T2.size := Array.length_toList
              rw [HTT.out, List.length_replicate] at h0
              rw [ByteArray.size_append, ← h0, hje]
              decide
            have C3 := Lib.hid (fun W (hW : Below w.heap.size w W) => par_at (T2 ++ txtA) 4 _ W (parse_long hsz2) rfl (Utf8Tabs_below HT.out hW) (by rw [ByteArray.size_append]; show T2.size + 1 ≤ _; unfold maxLen; omega))
            generalize parseL (T2 ++ txtA) = L3 at *
            unfold txtA at C3
            have C4 := Lib.hid (fun W (hW : Below w.heap.size w W) => par_at s _ _ W rfl rfl (Utf8Tabs_below HT.out hW) (by unfold maxLen; omega))
            have hL4 := sizes_of s
            generalize parseE s = E4 at *
            generalize parseL s = L4 at *
            have hge : decide ((j : Int) < 128) = false := decide_eq_false (by omega)
            clear hje hTL le1 hLL hsz2 hlt2 hbr
            have HLL := Lib.hid le2
            clear le2
            go_upto_region 20 with (go_at_call 9; refine C2.mono ?_; rintro e w4 ⟨v4, Z4, rfl, hnx, hlx, hbx⟩; obtain ⟨a4, c4, rfl⟩ := owns_slice hnx.own; have H4 := Lib.hid (And.intro hnx (And.intro hlx hbx)); clear hnx hlx hbx)
            have HB4 := Lib.hid (HBR.out.trans (H4.out.2.2.mono HBR.out.size))
            have D3 := C3.out w4 HB4.out
            clear C2 C3
            go_upto_region 21 with (go_at_call 9; refine D3.mono ?_; rintro e w5 ⟨v5, Z5, rfl, hnx, hlx, hbx⟩; obtain ⟨a5, c5, rfl⟩ := owns_slice hnx.own; have H5 := Lib.hid (And.intro hnx (And.intro hlx hbx)); clear hnx hlx hbx)
            have HB5 := Lib.hid (HB4.out.trans (H5.out.2.2.mono HB4.out.size))
            have D4 := C4.out w5 HB5.out
            clear D3
            go_upto_region 22 with (go_at_call 9; refine D4.mono ?_; rintro e w6 ⟨v6, Z6, rfl, hnx, hlx, hbx⟩; obtain ⟨a6, c6, rfl⟩ := owns_slice hnx.own; have H6 := Lib.hid (And.intro hnx (And.intro hlx hbx)); clear hnx hlx hbx)
            have HB6 := Lib.hid (HB5.out.trans (H6.out.2.2.mono HB5.out.size))
            have D5 := C4.out w6 HB6.out
            clear D4
            go_upto_region 24 with (go_at_call 9; refine D5.mono ?_; rintro e w7 ⟨v7, Z7, rfl, hnx, hlx, hbx⟩; obtain ⟨a7, c7, rfl⟩ := owns_slice hnx.own; have H7 := Lib.hid (And.intro hnx (And.intro hlx hbx)); clear hnx hlx hbx)
            have HB7 := Lib.hid (HB6.out.trans (H7.out.2.2.mono HB6.out.size))
            clear D5
            have hWK : WK w5.heap.size w6.heap.size (.slice a6 Z6.length c6) Z6 (.slice a7 Z7.length c7) Z7 w7 w7 := by
              have h6 := H6.out.1.keptB H7.out.2.2
              refine ⟨h6.own, fun z hz => ⟨_, (h6.parts z hz).1⟩, fun z hz => ⟨_, (h6.parts z hz).2⟩, fun z hz g hg => ?_, H7.out.1, Below.refl _ _⟩
              rcases hg with hg | hg
              · exact (H6.out.1.parts z hz).1.lt g hg
              · exact (H6.out.1.parts z hz).2.lt g hg
            have HWK := Lib.hid hWK
            have hZ6 : Z6.length ≤ 1000 := by
              have h := congrArg List.length H6.out.2.1
              rw [List.length_map] at h
              omega
            obtain ⟨m, hm⟩ : ∃ m, Z6.length = m := ⟨_, rfl⟩
            have HM := Lib.hid hm
            rw [hm] at hZ6 HWK ⊢
            clear hWK hm
            go_loopw [20, 21, 22] (fun iv _ _ wr => ∃ i : Nat, iv = .int .i64 (i : Int) ∧ i ≤ m ∧ WK w5.heap.size w6.heap.size (.slice a6 m c6) Z6 (.slice a7 Z7.length c7) Z7 w7 wr) (fun iv _ _ _ => m - (intOf iv).toNat)
            case atStart => exact ⟨0, rfl, by omega, HWK.out⟩
            case round =>
              obtain ⟨i2, rfl, hi2, hwk⟩ := hrel
              by_cases hlt3 : i2 < m
              · have hiz : i2 < Z6.length := by rw [HM.out]; exact hlt3
                obtain ⟨g6, c', e6, x1, x2⟩ := hwk.at hiz
                rw [HM.out] at e6
                cases e6
                have hz := List.getElem_mem hiz
                obtain ⟨z, hzz⟩ : ∃ z, Z6[i2] = z := ⟨_, rfl⟩
                rw [hzz] at hz x1 x2
                obtain ⟨ta, tc, et⟩ := (hwk.sets z hz).shape
                obtain ⟨ka, kc, ek⟩ := (hwk.kids z hz).shape
                have hsl := (hwk.sets z hz).le
                have hkl := (hwk.kids z hz).le
                unfold maxLen at hsl hkl
                have hat : ∀ W, WK w5.heap.size w6.heap.size (.slice (some ⟨g6, 0, none⟩) m c6) Z6 (.slice a7 Z7.length c7) Z7 w7 W → W.cell? ⟨g6, i2 * 5 + 1, none⟩ = some (.slice ka z.1.kids.length kc) ∧ W.cell? ⟨g6, i2 * 5 + 4, none⟩ = some (.slice ta z.1.set.length tc) := fun W hW => by
                  obtain ⟨g, c'', e', y1, y2⟩ := hW.at hiz
                  rw [HM.out] at e'
                  cases e'
                  rw [hzz, ek] at y1
                  rw [hzz, et] at y2
                  exact ⟨y1, y2⟩
                have hss : ∀ W (j : Nat), WK w5.heap.size w6.heap.size (.slice (some ⟨g6, 0, none⟩) m c6) Z6 (.slice a7 Z7.length c7) Z7 w7 W → j < z.1.set.length → ∃ g x, ta = some ⟨g, 0, none⟩ ∧ W.cell? ⟨g, j, none⟩ = some x ∧ W.frozen? ⟨g, j, none⟩ = false ∧ ∀ u, WK w5.heap.size w6.heap.size (.slice (some ⟨g6, 0, none⟩) m c6) Z6 (.slice a7 Z7.length c7) Z7 w7 (W.setCell ⟨g, j, none⟩ u) := fun W j hW hj => by
                  obtain ⟨g, cap, x, e', y1, y2⟩ := (hW.sets z hz).at hj
                  rw [et] at e'
                  cases e'
                  exact ⟨g, x, rfl, y1, y2, fun u => hW.set hz (.inr (by rw [et]; rfl)) j u⟩
                have hkk : ∀ W (j : Nat), WK w5.heap.size w6.heap.size (.slice (some ⟨g6, 0, none⟩) m c6) Z6 (.slice a7 Z7.length c7) Z7 w7 W → j < z.1.kids.length → ∃ g x, ka = some ⟨g, 0, none⟩ ∧ W.cell? ⟨g, j, none⟩ = some x ∧ W.frozen? ⟨g, j, none⟩ = false ∧ ∀ u, WK w5.heap.size w6.heap.size (.slice (some ⟨g6, 0, none⟩) m c6) Z6 (.slice a7 Z7.length c7) Z7 w7 (W.setCell ⟨g, j, none⟩ u) := fun W j hW hj => by
                  obtain ⟨g, cap, x, e', y1, y2⟩ := (hW.kids z hz).at hj
                  rw [ek] at e'
                  cases e'
                  exact ⟨g, x, rfl, y1, y2, fun u => hW.set hz (.inl (by rw [ek]; rfl)) j u⟩
                have HAT := Lib.hid hat
                have HSS := Lib.hid hss
                have HKK := Lib.hid hkk
                obtain ⟨sn, hsn⟩ : ∃ k, z.1.set.length = k := ⟨_, rfl⟩
                obtain ⟨kn, hkn⟩ : ∃ k, z.1.kids.length = k := ⟨_, rfl⟩
                rw [hsn, hkn] at HAT
                rw [hsn] at hsl
                rw [hkn] at hkl
                rw [hsn] at HSS
                rw [hkn] at HKK
                have HWKr := Lib.hid hwk
                have i20 : (0 : Int) ≤ (i2 : Int) := by omega
                have i2m : (i2 : Int) < (m : Int) := by omega
                clear hat hss hkk hsn hkn x1 x2 hz hzz et ek hwk hiz
                go_wp2_with fail
                obtain ⟨wo, hwo⟩ : ∃ wo : World, wo = wr := ⟨_, rfl⟩
                subst hwo
                go_loopw [21] (fun jv wr => ∃ j : Nat, jv = .int .i64 (j : Int) ∧ j ≤ sn ∧ WK w5.heap.size w6.heap.size (.slice (some ⟨g6, 0, none⟩) m c6) Z6 (.slice a7 Z7.length c7) Z7 w7 wr) (fun jv _ => sn - (intOf jv).toNat)
                case atStart => exact ⟨0, rfl, by omega, HWKr.out⟩
                case round =>
                  obtain ⟨j2, rfl, hj2, hwk⟩ := hrel
                  obtain ⟨q1, q2⟩ := HAT.out wr hwk
                  by_cases hjs : j2 < sn
                  · obtain ⟨gs, x, rfl, p1, p2, p3⟩ := HSS.out wr j2 hwk hjs
                    have HP3 := Lib.hid p3
                    have j20 : (0 : Int) ≤ (j2 : Int) := by omega
                    have j2m : (j2 : Int) < (sn : Int) := by omega
                    clear p3 hwk
                    go_wp2_with fail
                    go_roundw
                    case rel => exact ⟨j2 + 1, by go_num, by omega, HP3.out _⟩
                    case measure => simp [intOf]; omega
                  · have hje : j2 = sn := by omega
                    subst hje
                    have HW9 := Lib.hid hwk
                    clear hwk hjs
                    go_wp2_with fail
                    obtain ⟨wp, hwp⟩ : ∃ wo : World, wo = wr := ⟨_, rfl⟩
                    subst hwp
                    go_loopw [22] (fun jv wr => ∃ j : Nat, jv = .int .i64 (j : Int) ∧ j ≤ kn ∧ WK w5.heap.size w6.heap.size (.slice (some ⟨g6, 0, none⟩) m c6) Z6 (.slice a7 Z7.length c7) Z7 w7 wr) (fun jv _ => kn - (intOf jv).toNat)
                    case atStart => exact ⟨0, rfl, by omega, HW9.out⟩
                    case round =>
                      obtain ⟨j3, rfl, hj3, hwk⟩ := hrel
                      obtain ⟨q1, q2⟩ := HAT.out wr hwk
                      by_cases hjs : j3 < kn
                      · obtain ⟨gs, x, rfl, p1, p2, p3⟩ := HKK.out wr j3 hwk hjs
                        have HP3 := Lib.hid p3
                        have j20 : (0 : Int) ≤ (j3 : Int) := by omega
                        have j2m : (j3 : Int) < (kn : Int) := by omega
                        clear p3 hwk
                        go_wp2_with fail
                        go_roundw
                        case rel => exact ⟨j3 + 1, by go_num, by omega, HP3.out _⟩
                        case measure => simp [intOf]; omega
                      · have hje : j3 = kn := by omega
                        subst hje
                        have HW9 := Lib.hid hwk
                        clear hwk hjs
                        go_wp2_with fail
                        go_roundw
                        case rel => exact ⟨i2 + 1, by go_num, by omega, HW9.out⟩
                        case measure => simp [intOf]; omega
              · have hie2 : i2 = m := by omega
                subst hie2
                have HWF := Lib.hid hwk
                have HB8 := Lib.hid (HB7.out.trans (hwk.low.mono (by have := HB5.out.size; exact this)))
                have D6 := C4.out wr HB8.out
                have hlz4 : Z4.length = 129 := by rw [← HLL.out, ← H4.out.2.1, List.length_map]
                have HLZ4 := Lib.hid hlz4
                have e0 : ((Z4.length : Int) == 129) = true := by rw [hlz4]; rfl
                clear hwk hlz4
                go_upto_region 35 with (go_at_call 9; refine D6.mono ?_; rintro e w9 ⟨v9, Z9, rfl, hnx, hlx, hbx⟩; obtain ⟨a9, c9, rfl⟩ := owns_slice hnx.own; have H9 := Lib.hid (And.intro hnx (And.intro hlx hbx)); clear hnx hlx hbx)
                have CS := ref_Same _ _ _ _ Z7 Z9 w9 (HWF.out.oth.keptB H9.out.2.2) H9.out.1 (by rw [H7.out.2.1, H9.out.2.1]) (by
                  have h := congrArg List.length H7.out.2.1
                  rw [List.length_map] at h
                  omega)
                have HB9 := Lib.hid (HB8.out.trans (H9.out.2.2.mono HB8.out.size))
                clear D6
                go_wp2_with (go_at_call 11; refine CS.mono ?_; rintro e w15 ⟨rfl, hb15⟩)
                go_ret
                exact ⟨rfl, HB9.out.trans (hb15.mono HB9.out.size)⟩
end Go.Proofs.YthmhmckkkceclaaDoor
