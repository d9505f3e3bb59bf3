/-
  slices.Clone and slices.SortFunc at labels.
-/
import Derived.Test.YtaimldndooijdaaGreatDoorLabC
import Derived.Test.YtaimldndooijdaaGreatDoorShelf
namespace Go.Proofs.YtaimldndooijdaaGreatDoor
open Go.RowKit Go.Sort Go.Lib Go.Shelf

theorem holds_id {w : World} {g : Nat} {cur : Array Value} {e : TypeId} {xs : List Value} (hb : w.heap[g]? = some (.cells cur e (0, 0))) (ht : cur.toList.take xs.length = xs) : Holds id w g 0 xs.toArray := by
  intro j hj
  have hj' : j < xs.length := by simpa using hj
  refine ⟨?_, by simp [World.frozen?, hb]⟩
  have h1 : (cur.toList.take xs.length)[j]? = xs[j]? := by rw [ht]
  rw [List.getElem?_take_of_lt hj'] at h1
  simp only [World.cell?, hb, Nat.zero_add]
  simp only [Option.isSome_none, Bool.false_eq_true, if_false]
  rw [← Array.getElem?_toList, h1]
  simp [hj']
theorem heap_id {w : World} {g n : Nat} {os : Array Obj} {cur : Array Value} {e : TypeId} {fr : Nat × Nat} (F : Array Value) (hb : w.heap[g]? = some (.cells cur e fr)) :
    (grow (putRow id (Sort.ahead w n) g 0 F) os).heap[g]? = some (.cells (putCells id 0 F cur) e fr) := by
  have hg : g < w.heap.size := (Array.getElem?_eq_some_iff.1 hb).1
  rw [heap_grow_old _ _ (by simpa using hg)]
  simp [putRow, mapBlock, Sort.ahead, Array.getElem?_modify, hb, onCells]
theorem grownBy_id {w : World} {g n : Nat} {os : Array Obj} (F : Array Value) : w.grownBy (grow (putRow id (Sort.ahead w n) g 0 F) os) (some g) := by
  refine ⟨rfl, rfl, rfl, by simp, fun k hk hne => ?_⟩
  rw [heap_grow_old _ _ (by simpa using hk)]
  have : g ≠ k := fun e => hne (by rw [e])
  simp [putRow, mapBlock, Sort.ahead, Array.getElem?_modify, this]
theorem take_id (cur : Array Value) (xs : List Value) (h : xs.length ≤ cur.size) : (putCells id 0 xs.toArray cur).toList.take xs.length = xs := by
  apply List.ext_getElem?
  intro j
  by_cases hj : j < xs.length
  · rw [List.getElem?_take_of_lt hj, Array.getElem?_toList]
    simp [putCells, hj, show j < cur.size by omega]
  · rw [List.getElem?_take_eq_none (by omega), List.getElem?_eq_none (by omega)]
theorem flat_lab (L : List Lab) : flatK encLab 2 L.toArray = (labCells L).toArray := by
  refine ext_get! (by simp [labCells_len]) fun t ht => ?_
  have ht' : t < L.length * 2 := by simpa using ht
  rw [get_flatK _ _ _ t (by simpa using ht')]
  have hk : t / 2 < L.length := by omega
  obtain ⟨h1, h2⟩ := labCells_get L (t / 2) hk
  have e0 : L.toArray[t / 2]! = L[t / 2] := by simp [hk]
  rw [e0]
  have hl := labCells_len L
  have e1 : (labCells L).toArray[t]! = (labCells L)[t]'(by omega) := by
    rw [getElem!_pos _ t (by simp; omega)]
    simp
  rw [e1]
  rcases Nat.mod_two_eq_zero_or_one t with hm | hm
  · have et : t / 2 * 2 = t := by omega
    rw [et, List.getElem?_eq_getElem (by omega)] at h1
    rw [hm, Option.some.inj h1]
    rfl
  · have et : t / 2 * 2 + 1 = t := by omega
    rw [et, List.getElem?_eq_getElem (by omega)] at h2
    rw [hm, Option.some.inj h2]
    rfl

def lessN (x y : Lab) : Bool := Op.bytesLess x.1.toList y.1.toList
theorem lt_cmp (x y : Lab) : ltOf (fun x y : Lab => cmpB x.1.toList y.1.toList) x y = lessN x y := by
  show decide (cmpB x.1.toList y.1.toList < 0) = _
  unfold cmpB lessN
  by_cases h : Op.bytesLess x.1.toList y.1.toList = true
  · simp [h]
  · rw [if_neg h]
    split <;> simp [h]
theorem swoN : SWO (ltOf fun x y : Lab => cmpB x.1.toList y.1.toList) where
  irrefl x := by rw [lt_cmp]; exact less_irrefl _
  trans x y z h1 h2 := by
    rw [lt_cmp] at *
    unfold lessN at *
    rw [bytesLess_eq] at *
    simp only [decide_eq_true_eq] at *
    exact List.lt_trans h1 h2
  ntrans x y z h1 h2 := by
    rw [lt_cmp] at *
    unfold lessN at *
    rw [bytesLess_eq] at *
    simp only [decide_eq_false_iff_not, List.not_lt] at *
    exact List.le_trans h2 h1
/-- Names do not fall. -/
def Rising (L : List Lab) : Prop := ∀ i j (h : i < j) (hj : j < L.length), lessN L[j] (L[i]'(by omega)) = false
theorem label_sort {w : World} {B : Nat} {v : Value} {L : List Lab} (h : w.ownsRow B 62 2 v L.length (labCells L)) (hL : L.length ≤ 1000000) :
    Calls Tryz.prog 54 #[v, .func (.func 55) #[] #[]] w fun e w' => e = .returned (.tuple #[]) ∧
      ∃ L', L'.Perm L ∧ Rising L' ∧ w'.ownsRow B 62 2 v L'.length (labCells L') ∧ w.grownBy w' v.ownBlock := by
  rcases h.2 with ⟨rfl, h0⟩ | ⟨g, cap, cur, rfl, hbase, hb, h1, h2, h3, h4⟩
  · have : L = [] := List.eq_nil_of_length_eq_zero h0
    subst this
    refine (AnyF.slices_SortFunc_none Tryz.sortLab none 0 _ w).mono ?_
    rintro e w' ⟨rfl, rfl⟩
    exact ⟨rfl, [], List.Perm.refl _, fun i j _ hj => by simp at hj, h, World.grownBy.refl _ _⟩
  · have eg : ∀ args w, (callFunc 55 args).run Tryz.prog w = .ok (.enter 55 args) w := enters_of Tryz.func55 (by kernel_rfl) rfl
    have hlen := labCells_len L
    have hH : HoldsK encLab 2 w g 0 L.toArray := by
      unfold HoldsK
      rw [flat_lab]
      exact holds_id hb (by rw [hlen]; exact h4)
    have hcmp : CmpLays Tryz.prog 55 #[] encLab 2 (fun x y => cmpB x.1.toList y.1.toList) g 0 L.toArray.size w := fun m os dk _ x y => canon_cmp x y _
    have hcon := AnyQ.slices_SortFunc Tryz.sortLab 2 Tryz.isAgg62 Tryz.sizeOf62 encLab (fun _ => rfl) (fun x v hv => by simp [encLab] at hv; rcases hv with rfl | rfl <;> rfl) (fun x y => cmpB x.1.toList y.1.toList) swoN 55 #[] g 0 cap L.toArray w eg hcmp hH (Array.getElem?_eq_some_iff.1 hb).1 (by simp; omega)
    have e1 : (L.toArray).size = L.length := by simp
    rw [e1] at hcon
    refine (show Calls Tryz.prog 54 _ _ _ from hcon).mono ?_
    rintro e w' ⟨rfl, d', n, os, hp, hs, rfl⟩
    have hd : d' = d'.toList.toArray := by simp
    have hsz : d'.toList.length = L.length := by have := hp.1; simpa using this
    refine ⟨rfl, d'.toList, ?_, ?_, ?_, ?_⟩
    · have := hp.2.2
      have ex : d'.extract 0 L.length = d' := by rw [← hsz]; simp
      rw [ex] at this
      simpa using this
    · intro i j hij hj
      have := hs i j (Nat.zero_le _) hij (by omega)
      rw [lt_cmp] at this
      have g1 : d'[j]! = d'.toList[j] := by rw [getElem!_pos d' j (by simpa using hj)]; simp
      have g2 : d'[i]! = d'.toList[i] := by rw [getElem!_pos d' i (by have : i < d'.toList.length := by omega
                                                                      simpa using this)]; simp
      rw [g1, g2] at this
      exact this
    · have hfl : flatK encLab 2 d' = (labCells d'.toList).toArray := by
        conv => lhs; rw [hd]
        exact flat_lab _
      have hl2 := labCells_len d'.toList
      unfold sortWorldK putRowK
      rw [hfl]
      refine ⟨by rw [hl2], .inr ⟨g, cap, _, by rw [hsz], hbase, heap_id _ hb, by omega, h2, by simp [putCells, h3], ?_⟩⟩
      rw [← hl2]
      exact take_id cur _ (by rw [h3]; omega)
    · exact grownBy_id _
end Go.Proofs.YtaimldndooijdaaGreatDoor
