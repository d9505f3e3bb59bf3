/-
  The contracts of text.Words, text.Set, text.Inner.
-/
import Derived.Test.YtgopmhfehobooaaDoorTextW
import Derived.Test.YtgopmhfehobooaaDoorTextQ
import Derived.Sort.OwnSorted
import Derived.Test.YtgopmhfehobooaaDoorKitC
import Derived.Test.YtgopmhfehobooaaDoorShelf
namespace Go.Proofs.YtgopmhfehobooaaDoor
open Go.RowKit

/-- A list of texts of the call's own. -/
def Texts (w : World) (B : Nat) (v : Value) (L : List Txt) : Prop := w.ownsRow B 9 1 v L.length (L.map strV)
theorem runsRow_of {w : World} {B : Nat} {v : Value} {L : List Run} (h : RunsMem w B v L) : RunsRow w v (L.map fun x => (wr32 x.1, x.2)) := by
  obtain ⟨E, hE, hown, hd⟩ := runsMem_owns h
  obtain ⟨_, a, cap, rfl, h1, h2, hc⟩ := argRow_owns hown
  rw [← List.length_map (f := fun x : Run => (wr32 x.1, x.2))] at h1 hc ⊢
  refine ⟨a, cap, rfl, h1, h2, fun h0 => ?_⟩
  obtain ⟨b, off, e, hb, hcs⟩ := hc h0
  refine ⟨b, off, e, hb, fun j hj => ?_⟩
  have hj' : j < L.length := by simpa using hj
  have hz : (E.zip (L.map (·.2))).length = L.length := by rw [List.length_zip, List.length_map, hE, Nat.min_self]
  have hg := flat3_get (E.zip (L.map (·.2))) j (by omega)
  have hfl := flat3_len (E.zip (L.map (·.2)))
  have hget : ∀ k u, (flat3 (E.zip (L.map (·.2))))[k]? = some u → w.cell? ⟨b, off + k, none⟩ = some u := by
    intro k u hu
    obtain ⟨hk, e⟩ := List.getElem?_eq_some_iff.1 hu
    rw [hcs k hk, e]
  have e1 : (E.zip (L.map (·.2)))[j]'(by omega) = (E[j], L[j].2) := by simp
  rw [e1] at hg
  refine ⟨E[j], hget _ _ hg.1, ?_, ?_, ?_⟩
  · have := hget _ _ hg.2.1
    simp only [List.getElem_map]
    rw [Nat.add_assoc]; exact this
  · have := hget _ _ hg.2.2
    simp only [List.getElem_map]
    rw [Nat.add_assoc]; exact this
  · have := argRow_owns (hd j hj' (by omega)).1
    simpa using this
theorem wr32_scalars {run : List Nat} (h : scalars run) : scalars (wr32 run) := scalars_small (fun r hr => h r (List.mem_of_mem_take hr))
theorem runs_row (s : ByteArray) (w : World) (hs : s.size ≤ 1000000000) :
    Calls Tryd.prog 14 #[.string s] w fun e w' => ∃ v, e = .returned v ∧ RunsRow w' v ((runsOfText s.data.toList).map fun x => (wr32 x.1, x.2)) ∧ Below w.heap.size w w' :=
  (text_runs s w hs).mono fun _ _ ⟨v, he, hm, hb⟩ => ⟨v, he, runsRow_of hm, hb⟩
theorem size_list (s : ByteArray) : s.data.toList.length = s.size := by simp [ByteArray.size_data]
theorem text_Words' (s : ByteArray) (w : World) (hs : s.size ≤ 1000000000) :
    Calls Tryd.prog 11 #[.string s] w fun e w' => ∃ v, e = .returned v ∧ Texts w' w.heap.size v (words s.data.toList) ∧ Below w.heap.size w w' := by
  have hl := runsOfText_len s.data.toList
  rw [size_list] at hl
  refine (text_Words s _ w (by rw [List.length_map]; omega) (fun x hx => ?_) (runs_row s w hs)).mono fun e w' ⟨v, he, ho, hb⟩ => ⟨v, he, ?_, hb⟩
  · obtain ⟨y, hy, rfl⟩ := List.mem_map.1 hx
    exact wr32_scalars (runsOfText_le _ y hy).2
  · have e1 : ((runsOfText s.data.toList).map fun x => (wr32 x.1, x.2)).map (fun x => strV (enc x.1)) = (words s.data.toList).map strV := by
      rw [← runsOfText_words, List.map_map, List.map_map]; rfl
    rw [e1] at ho
    have e2 : ((runsOfText s.data.toList).map fun x => (wr32 x.1, x.2)).length = (words s.data.toList).length := by
      rw [← runsOfText_words, List.length_map, List.length_map]
    rw [e2] at ho
    exact ho

theorem owns_take {w : World} {B : Nat} {e : TypeId} {sz g n cap k : Nat} {xs : List Value} (h : w.ownsRow B e sz (.slice (some ⟨g, 0, none⟩) n cap) n xs) (hk : k ≤ n) : w.ownsRow B e sz (.slice (some ⟨g, 0, none⟩) k cap) k (xs.take (k * sz)) := by
  have hkn : k * sz ≤ n * sz := Nat.mul_le_mul_right _ hk
  refine ⟨by rw [List.length_take, h.1]; omega, ?_⟩
  rcases h.2 with ⟨e, _⟩ | ⟨g', cap', cur, e, h1, h2, h3, h4, h5, h6⟩
  · cases e
  · cases e
    exact .inr ⟨g, cap, cur, rfl, h1, h2, by omega, h4, h5, by rw [← h6, List.take_take, Nat.min_eq_left hkn]⟩
theorem sort_own {w : World} {B : Nat} {v : Value} {L : List Txt} (h : Texts w B v L) (hL : L.length ≤ 1000000000000) :
    Calls Tryd.prog 15 #[v] w fun e w' => e = .returned (.tuple #[]) ∧ Texts w' B v (L.mergeSort fun x y => decide (x ≤ y)) ∧ w.grownBy w' v.ownBlock := by
  rcases h.2 with ⟨rfl, h0⟩ | ⟨g, cap, cur, rfl, hbase, hb, h1, h2, h3, h4⟩
  · have : L = [] := List.eq_nil_of_length_eq_zero h0
    subst this
    refine (Tryd.slices_Sort_string_none none 0 w).mono ?_
    rintro e w' ⟨rfl, rfl⟩
    exact ⟨rfl, by simpa [Texts] using h, World.grownBy.refl _ _⟩
  · refine (Tryd.slices_Sort_string g 0 cap L w (holds_of_block hb (by rw [Nat.mul_one] at h4; exact h4)) (Array.getElem?_eq_some_iff.1 hb).1 (by omega)).mono ?_
    rintro e w' ⟨rfl, n, os, rfl⟩
    refine ⟨rfl, ?_, grownBy_sorted _⟩
    unfold Texts
    rw [List.length_mergeSort]
    exact ownsRow_sorted (List.length_mergeSort _) hbase hb h1 h2 h3
theorem compact_own {w : World} {B : Nat} {v : Value} {L : List Txt} (h : Texts w B v L) (hL : L.length ≤ 1000000000000) :
    Calls Tryd.prog 16 #[v] w fun e w' => ∃ v', e = .returned v' ∧ Texts w' B v' (Lib.compact L) ∧ w.grownBy w' v.ownBlock := by
  rcases h.2 with ⟨rfl, h0⟩ | ⟨g, cap, cur, rfl, hbase, hb, h1, h2, h3, h4⟩
  · have : L = [] := List.eq_nil_of_length_eq_zero h0
    subst this
    refine (Tryd.slices_Compact_string_empty none 0 w).mono ?_
    rintro e w' ⟨rfl, rfl⟩
    exact ⟨_, rfl, h, World.grownBy.refl _ _⟩
  · refine (Tryd.slices_Compact_string g 0 cap L w (holds_of_block hb (by rw [Nat.mul_one] at h4; exact h4)) (by omega) h1).mono ?_
    rintro e w' ⟨rfl, q, rfl⟩
    have hcl : (Lib.compact L).length ≤ L.length := by
      unfold Lib.compact Lib.compactUpTo
      rw [List.length_map]
      exact Nat.le_trans (List.length_filter_le _ _) (by simp)
    have hgr := grownBy_sorted (w := w) (g := g) (n := q) (os := #[]) (Lib.compact L ++ List.replicate (L.length - (Lib.compact L).length) []).toArray
    have how := ownsRow_sorted (w := w) (n := q) (os := #[]) (ss := L) (ts := Lib.compact L ++ List.replicate (L.length - (Lib.compact L).length) []) (by simp; omega) hbase hb h1 h2 h3
    rw [Sort.grow_empty] at hgr how
    have hx := owns_take how hcl
    rw [Nat.mul_one, List.map_append, List.take_left' (by simp)] at hx
    exact ⟨_, rfl, hx, hgr⟩

set_option maxRecDepth 100000 in
set_option maxHeartbeats 1000000 in
theorem text_Set (s : ByteArray) (w : World) (hs : s.size ≤ 1000000000) :
    Calls Tryd.prog 9 #[.string s] w fun e w' => ∃ v, e = .returned v ∧ Texts w' w.heap.size v (onceL (words s.data.toList)) ∧ Below w.heap.size w w' := by
  have hl : (words s.data.toList).length ≤ 1000000000 := by
    have := runsOfText_len s.data.toList
    rw [size_list] at this
    rw [← runsOfText_words, List.length_map]; omega
  have HO := Lib.hid (once_sorted (words s.data.toList))
  have cW := text_Words' s w hs
  generalize words s.data.toList = L at *
  go_enter Tryd.func9, Tryd.ntmps9
  go_wp2_with fail
  refine cW.mono ?_
  rintro e w1 ⟨v, rfl, hT, hb⟩
  obtain ⟨a, c, rfl⟩ := owns_slice hT
  go_wp2_with fail
  refine (sort_own hT (by omega)).mono ?_
  rintro e w2 ⟨rfl, hT2, hg2⟩
  go_wp2_with fail
  refine (compact_own hT2 (by rw [List.length_mergeSort]; omega)).mono ?_
  rintro e w3 ⟨v3, rfl, hT3, hg3⟩
  go_wp2_with fail
  go_ret
  rw [HO.out] at hT3
  have s1 := hb.size
  have s2 := hg2.size
  exact ⟨_, rfl, hT3, (hb.grown hg2 (by omega) (fun k hk => (hT.lt k hk).1)).grown hg3 (by omega) (fun k hk => (hT.lt k hk).1)⟩

/-- Which runs stand between other runes. -/
def innerRun (n : Nat) (x : List Nat × Nat × Nat) : Bool := decide (0 < x.2.1 ∧ x.2.2 < n)
theorem filter_take_succ {α : Type} (p : α → Bool) (L : List α) (k : Nat) (h : k < L.length) : (L.take (k + 1)).filter p = (L.take k).filter p ++ if p L[k] then [L[k]] else [] := by
  rw [List.take_succ_eq_append_getElem h, List.filter_append]
  congr 1
  cases hp : p L[k] <;> simp [hp]

set_option maxRecDepth 100000 in
set_option maxHeartbeats 4000000 in
theorem text_Inner' (s : ByteArray) (L : List (List Nat × Nat × Nat)) (w : World) (hs : s.size ≤ 1000000000) (hL : L.length ≤ 1000000000) (hsc : ∀ x ∈ L, scalars x.1) (hto : ∀ x ∈ L, x.2.2 ≤ s.size)
    (cR : Calls Tryd.prog 14 #[.string s] w fun e w' => ∃ v, e = .returned v ∧ RunsRow w' v L ∧ Below w.heap.size w w') :
    Calls Tryd.prog 8 #[.string s] w fun e w' => ∃ v, e = .returned v ∧ Texts w' w.heap.size v (onceL ((L.filter (innerRun s.size)).map fun x => enc x.1)) ∧ Below w.heap.size w w' := by
  obtain ⟨R, hR⟩ : ∃ R, onceL ((L.filter (innerRun s.size)).map fun x => enc x.1) = R := ⟨_, rfl⟩
  rw [hR]
  have HR := Lib.hid hR
  clear hR
  go_enter Tryd.func8, Tryd.ntmps8
  go_wp2_with (go_at_call 14; refine cR.mono ?_; rintro e w1 ⟨v, rfl, ⟨a, cap, rfl, hlc, hcm, hcell⟩, hb⟩; have HC := Lib.hid hcell; clear hcell)
  clear cR hcm
  have hb1 := hb.size
  have EL : ElemT Tryd.prog 26 9 (.string ⟨#[]⟩) 1 16 := ⟨Tryd.underlying26, info_str, rfl, by decide⟩
  have HSC := Lib.hid hsc
  have HTO := Lib.hid hto
  clear hsc hto
  go_loopw [3, 9] (fun l i wr => ∃ k : Nat, k ≤ L.length ∧ i = .int .i64 k ∧ Texts wr w1.heap.size l (((L.take k).filter (innerRun s.size)).map fun x => enc x.1) ∧ Below w1.heap.size w1 wr) (fun _ i _ => L.length - (intOf i).toNat)
  case atStart => exact ⟨0, by omega, rfl, World.ownsRow_nil _ _ _ _, Below.refl _ _⟩
  case round =>
    obtain ⟨k, hk, rfl, hown, hbr⟩ := hrel
    by_cases hlt : k < L.length
    · obtain ⟨b, off, rfl, hbl, hcs⟩ := HC.out (by omega)
      obtain ⟨wv, h0, h1, h2, hrow⟩ := hcs k hlt
      have g0 : wr.cell? ⟨b, off + k * 3, none⟩ = some wv := by rw [hbr.cell (p := ⟨b, _, none⟩) hbl]; exact h0
      have g1 : wr.cell? ⟨b, off + k * 3 + 1, none⟩ = some (.int .i64 (L[k].2.1 : Int)) := by rw [hbr.cell (p := ⟨b, _, none⟩) hbl]; exact h1
      have g2 : wr.cell? ⟨b, off + k * 3 + 2, none⟩ = some (.int .i64 (L[k].2.2 : Int)) := by rw [hbr.cell (p := ⟨b, _, none⟩) hbl]; exact h2
      clear h0 h1 h2 hcs
      obtain ⟨_, ra, rc, rfl, _, _, hrc⟩ := hrow
      have HRC := Lib.hid hrc
      clear hrc
      have hcv : ∀ o, (convert 33 9 (.slice ra L[k].1.length rc)).run Tryd.prog (wr.alloc o) = .ok (.string ⟨(enc L[k].1).toArray⟩) (wr.alloc o) := fun o =>
        conv_runes Tryd.underlying33 Tryd.underlying21 Tryd.underlying9 (argRow_below (w := w1) ⟨by simp, _, _, rfl, by omega, by assumption, HRC.out⟩ ((hbr).alloc (hbr.size) o)) (HSC.out _ (List.getElem_mem _))
      have hto := HTO.out L[k] (List.getElem_mem _)
      have hft := filter_take_succ (innerRun s.size) L k hlt
      have hfl : ((L.take k).filter (innerRun s.size)).length ≤ k := Nat.le_trans (List.length_filter_le _ _) (List.length_take_le _ _)
      have hszr := hbr.size
      have hdef : innerRun s.size L[k] = decide (0 < L[k].2.1 ∧ L[k].2.2 < s.size) := rfl
      generalize L[k] = x at *
      obtain ⟨rs, fx, tx⟩ := x
      simp only at *
      by_cases hin : 0 < fx ∧ tx < s.size
      · rw [hdef, decide_eq_true hin, if_pos rfl] at hft
        have HFT := Lib.hid hft
        clear hft hdef
        obtain ⟨i1, i2⟩ := hin
        have d1 : decide ((0 : Int) < (fx : Int)) = true := by simp; omega
        have d2 : decide ((tx : Int) < (s.size : Int)) = true := by simp; omega
        generalize hLf : (L.take k).filter (innerRun s.size) = LF at *
        have HLF := Lib.hid hLf
        clear hLf
        go_wp2_with (at_builtin; go_loud (refine wpList_append_src rfl _ _ _ _ rfl w1.heap.size EL _ _ _ rfl ((hown.alloc _).alloc _) _ 1 [strV (enc rs)] rfl (by exact src_last (cs := #[strV (enc rs)]) Tryd.underlying26 1 1 1 (by simp) rfl (by simp [strV, Value.oneCell'])) (by simp; unfold maxLen; omega) (by simp; omega) (by simp; omega) ?_); intro v' w3 hown3 hgr _ _)
        go_roundw
        case rel =>
          refine ⟨k + 1, by omega, by go_num, ?_, ((hbr.alloc hszr _).alloc (by simp; omega) _).grown hgr (by simp; omega) (fun j hj => (hown.lt j hj).1)⟩
          rw [HFT.out]
          unfold Texts
          simp only [List.map_append, List.map_cons, List.map_nil, List.length_append, List.length_map, List.length_cons, List.length_nil] at hown3 ⊢
          exact hown3
        case measure => simp [intOf]; omega
      · rw [hdef, decide_eq_false hin, if_neg (by decide), List.append_nil] at hft
        have HFT := Lib.hid hft
        clear hft hdef
        by_cases i1 : 0 < fx
        · have i2 : s.size ≤ tx := by omega
          have d1 : decide ((0 : Int) < (fx : Int)) = true := by simp; omega
          have d2 : decide ((tx : Int) < (s.size : Int)) = false := by simp; omega
          clear hin
          go_wp2
          go_roundw
          case rel => exact ⟨k + 1, by omega, by go_num, by rw [HFT.out]; exact hown.alloc _, hbr.alloc hszr _⟩
          case measure => simp [intOf]; omega
        · obtain rfl : fx = 0 := by omega
          clear hin i1
          go_wp2
          go_roundw
          case rel => exact ⟨k + 1, by omega, by go_num, by rw [HFT.out]; exact hown.alloc _, hbr.alloc hszr _⟩
          case measure => simp [intOf]; omega
    · obtain rfl : k = L.length := by omega
      rw [List.take_length] at hown
      have hLl : ((L.filter (innerRun s.size)).map fun x => enc x.1).length ≤ L.length := by rw [List.length_map]; exact List.length_filter_le _ _
      have HO := Lib.hid ((once_sorted ((L.filter (innerRun s.size)).map fun x => enc x.1)).trans HR.out)
      clear HR
      generalize (L.filter (innerRun s.size)).map (fun x => enc x.1) = LF at *
      obtain ⟨la, lc, rfl⟩ := owns_slice hown
      have hsz := hbr.size
      go_wp2_with fail
      refine (sort_own hown (by omega)).mono ?_
      rintro e w2 ⟨rfl, hT2, hg2⟩
      go_wp2_with fail
      refine (compact_own hT2 (by rw [List.length_mergeSort]; omega)).mono ?_
      rintro e w3 ⟨v3, rfl, hT3, hg3⟩
      go_wp2_with fail
      go_ret
      rw [HO.out] at hT3
      have s2 := hg2.size
      have hfin : Texts w3 w.heap.size v3 R := owns_base hT3 hb1
      exact ⟨_, rfl, hfin, hb.trans (((hbr.grown hg2 (by omega) (fun k hk => (hown.lt k hk).1)).grown hg3 (by omega) (fun k hk => (hown.lt k hk).1)).mono hb1)⟩

theorem text_Inner (s : ByteArray) (w : World) (hs : s.size ≤ 1000000000) :
    Calls Tryd.prog 8 #[.string s] w fun e w' => ∃ v, e = .returned v ∧ Texts w' w.heap.size v (onceL (inners s.data.toList)) ∧ Below w.heap.size w w' := by
  have hl := runsOfText_len s.data.toList
  have hsl := size_list s
  rw [hsl] at hl
  have h := text_Inner' s ((runsOfText s.data.toList).map fun x => (wr32 x.1, x.2)) w hs (by rw [List.length_map]; omega)
    (fun x hx => by obtain ⟨y, hy, rfl⟩ := List.mem_map.1 hx; exact wr32_scalars (runsOfText_le _ y hy).2)
    (fun x hx => by obtain ⟨y, hy, rfl⟩ := List.mem_map.1 hx; have := (runsOfText_le _ y hy).1; rw [hsl] at this; exact this) (runs_row s w hs)
  have e : ((((runsOfText s.data.toList).map fun x => (wr32 x.1, x.2)).filter (innerRun s.size)).map fun x => enc x.1) = inners s.data.toList := by
    rw [← runsOfText_inner, hsl, List.filter_map, List.map_map]
    rfl
  rw [e] at h
  exact h
end Go.Proofs.YtgopmhfehobooaaDoor
