/-
  record.Check, the reference's Check.
-/
import Derived.Test.YtaimldndooijdaaGreatDoorVarAll
import Derived.Test.YtaimldndooijdaaGreatDoorLabI
import Derived.Test.YtaimldndooijdaaGreatDoorLabJ
namespace Go.Proofs.YtaimldndooijdaaGreatDoor
open Go.RowKit
def chkOf (E : Int) (D : Bool) (n : Nat) (V : Bool) : Int := if E ≠ 0 then E else if D = false then 6 else if 1024 < n then 4 else if V = false then 8 else 0
theorem chkRec_eq (r : Rec) : chkRec r = chkOf (canonE r.labs) (decide (canonL r.labs = r.labs)) r.line.size (Lib.validD r.line.data.toList) := by
  unfold chkRec chkOf
  simp
/-- A record that can be read. -/
def RecAt (w : World) (lv : Value) (r : Rec) : Prop := LRow w lv r.labs ∧ (∀ x ∈ r.labs, x.1.size ≤ 1000000000 ∧ x.2.size ≤ 1000000000) ∧ r.labs.length ≤ 1048576 ∧ r.line.size ≤ 1000000000
theorem RecAt.below {w w' : World} {lv : Value} {r : Rec} (h : RecAt w lv r) (hb : Below w.heap.size w w') : RecAt w' lv r := ⟨h.1.below hb, h.2⟩
theorem LRow_own {w : World} {B : Nat} {t : TypeId} {v : Value} {L : List Lab} (h : w.ownsRow B t 2 v L.length (labCells L)) : LRow w v L := argRow_owns h
set_option maxRecDepth 100000 in
set_option maxHeartbeats 4000000 in
theorem rec_Check (r : Rec) (lv : Value) (w : World) (h : RecAt w lv r) (hT : Tabs w) :
    Calls Tryz.prog 22 #[recV r lv] w fun e w' => e = .returned (.int .i64 (chkRec r)) ∧ Below w.heap.size w w' := by
  obtain ⟨hL, hs, hLn, hl⟩ := h
  rw [chkRec_eq]
  have cC := fun W (hW : Below w.heap.size w W) => (label_Canon lv r.labs W (hL.below hW) (Utf8Tabs_below hT hW) hs hLn).mono (fun e w' h => (⟨canon_end h.1, h.2⟩ : (∃ v, e = .returned (.tuple #[v, .int .i64 (canonE r.labs)]) ∧ w'.ownsRow W.heap.size 62 2 v (canonL r.labs).length (labCells (canonL r.labs))) ∧ Below W.heap.size W w'))
  have cE := fun va W (hA : LRow W va (canonL r.labs)) (hW : Below w.heap.size w W) => slices_Equal va lv (canonL r.labs) r.labs W hA (hL.below hW)
  have cV := fun W (hW : Below w.heap.size w W) => utf_Valid r.line W (by unfold maxLen; omega) (Utf8Tabs_below hT hW)
  have hone := one_new w #[.int .i64 r.time, .int .u64 (r.seq : Int), lv, .string r.line] 47
  have hb1 : Below w.heap.size w (w.alloc (.cells #[.int .i64 r.time, .int .u64 (r.seq : Int), lv, .string r.line] 47)) := belowA (Below.refl _ _)
  have CC := Lib.hid cC
  have CE := Lib.hid cE
  have CV := Lib.hid cV
  clear cC cE cV hs
  unfold recV
  generalize r.time = ta at *
  generalize (r.seq : Int) = sa at *
  have e1 : ∃ E, canonE r.labs = E := ⟨_, rfl⟩
  obtain ⟨E, hE⟩ := e1
  obtain ⟨D, hD⟩ : ∃ D, decide (canonL r.labs = r.labs) = D := ⟨_, rfl⟩
  obtain ⟨V, hV⟩ : ∃ V, Lib.validD r.line.data.toList = V := ⟨_, rfl⟩
  rw [hE, hD, hV]
  rw [hE] at CC
  rw [hD] at CE
  rw [hV] at CV
  clear hE hD hV
  generalize canonL r.labs = K at *
  generalize r.line = na at *
  obtain ⟨R, hR⟩ : ∃ R, chkOf E D na.size V = R := ⟨_, rfl⟩
  rw [hR]
  unfold chkOf at hR
  have HR := Lib.hid hR
  clear hR
  go_enter Tryz.func22, Tryz.ntmps22
  go_upto_region 1 with fail
  generalize w.alloc (.cells #[.int .i64 ta, .int .u64 sa, lv, .string na] 47) = w1 at *
  have hone' : ∀ w', Below w1.heap.size w1 w' → w'.cell? ⟨w.heap.size, 2, none⟩ = some lv ∧ w'.cell? ⟨w.heap.size, 3, none⟩ = some (.string na) := fun w' h => ⟨hone w' h 2, hone w' h 3⟩
  have HONE := Lib.hid hone'
  clear hone hone'
  have g0 := (HONE.out w1 (Below.refl _ _)).1
  by_cases hE : E = 0
  · have HR2 := Lib.hid (show (if D = false then (6 : Int) else if 1024 < na.size then 4 else if V = false then 8 else 0) = R by have h := HR.out; rw [if_neg (by simp [hE])] at h; exact h)
    subst hE
    clear HR
    cases D
    · obtain rfl : R = 6 := by rw [← HR2.out]; rfl
      clear HR2
      go_wp2_with (first | (go_at_call 36; refine (CC.out _ hb1).mono ?_; rintro e w2 ⟨⟨v2, rfl, ho2⟩, hb2⟩; have g2 := HONE.out w2 hb2) | (go_at_call 37; refine (CE.out _ _ (LRow_own ho2) (below_seq hb1 hb2)).mono ?_; rintro e w3 ⟨rfl, hb3'⟩; have hb3 := below_seq hb2 hb3'; have g3 := HONE.out w3 hb3))
      go_ret
      exact ⟨rfl, below_seq hb1 hb3⟩
    · have HR3 := Lib.hid (show (if 1024 < na.size then (4 : Int) else if V = false then 8 else 0) = R by rw [← HR2.out]; rfl)
      clear HR2
      by_cases hn : 1024 < na.size
      · obtain rfl : R = 4 := by rw [← HR3.out, if_pos hn]
        have hn' : (1024 : Int) < (na.size : Int) := by omega
        clear HR3
        go_wp2_with (first | (go_at_call 36; refine (CC.out _ hb1).mono ?_; rintro e w2 ⟨⟨v2, rfl, ho2⟩, hb2⟩; have g2 := HONE.out w2 hb2) | (go_at_call 37; refine (CE.out _ _ (LRow_own ho2) (below_seq hb1 hb2)).mono ?_; rintro e w3 ⟨rfl, hb3'⟩; have hb3 := below_seq hb2 hb3'; have g3 := HONE.out w3 hb3))
        go_ret
        exact ⟨rfl, below_seq hb1 hb3⟩
      · have HR4 := Lib.hid (show (if V = false then (8 : Int) else 0) = R by have h := HR3.out; rw [if_neg hn] at h; exact h)
        have hn' : ¬ (1024 : Int) < (na.size : Int) := by omega
        clear HR3
        cases V
        · obtain rfl : R = 8 := by rw [← HR4.out]; rfl
          clear HR4
          go_wp2_with (first | (go_at_call 36; refine (CC.out _ hb1).mono ?_; rintro e w2 ⟨⟨v2, rfl, ho2⟩, hb2⟩; have g2 := HONE.out w2 hb2) | (go_at_call 37; refine (CE.out _ _ (LRow_own ho2) (below_seq hb1 hb2)).mono ?_; rintro e w3 ⟨rfl, hb3'⟩; have hb3 := below_seq hb2 hb3'; have g3 := HONE.out w3 hb3) | (go_at_call 38; refine (CV.out _ (below_seq hb1 hb3)).mono ?_; rintro e w4 ⟨rfl, hb4'⟩; have hb4 := below_seq hb3 hb4'))
          go_ret
          exact ⟨rfl, below_seq hb1 hb4⟩
        · obtain rfl : R = 0 := by rw [← HR4.out]; rfl
          clear HR4
          go_wp2_with (first | (go_at_call 36; refine (CC.out _ hb1).mono ?_; rintro e w2 ⟨⟨v2, rfl, ho2⟩, hb2⟩; have g2 := HONE.out w2 hb2) | (go_at_call 37; refine (CE.out _ _ (LRow_own ho2) (below_seq hb1 hb2)).mono ?_; rintro e w3 ⟨rfl, hb3'⟩; have hb3 := below_seq hb2 hb3'; have g3 := HONE.out w3 hb3) | (go_at_call 38; refine (CV.out _ (below_seq hb1 hb3)).mono ?_; rintro e w4 ⟨rfl, hb4'⟩; have hb4 := below_seq hb3 hb4'))
          go_ret
          exact ⟨rfl, below_seq hb1 hb4⟩
  · obtain rfl : R = E := by rw [← HR.out, if_pos hE]
    have hE' : (R != 0) = true := by simpa using hE
    clear HR hE
    go_wp2_with (first | (go_at_call 36; refine (CC.out _ hb1).mono ?_; rintro e w2 ⟨⟨v2, rfl, ho2⟩, hb2⟩; have g2 := HONE.out w2 hb2))
    go_ret
    exact ⟨rfl, below_seq hb1 hb2⟩
set_option maxRecDepth 100000 in
set_option maxHeartbeats 4000000 in
theorem rrec_Check (r : Rec) (lv : Value) (w : World) (h : RecAt w lv r) :
    Calls Tryz.prog 28 #[recV r lv] w fun e w' => e = .returned (.int .i64 (chkRec r)) ∧ Below w.heap.size w w' := by
  obtain ⟨hL, hs, hLn, hl⟩ := h
  rw [chkRec_eq]
  have cC := fun W (hW : Below w.heap.size w W) => (ref_Canon lv r.labs W (hL.below hW) hs hLn).mono (fun e w' h => (⟨h.1, h.2⟩ : (∃ v, e = .returned (.tuple #[v, .int .i64 (canonE r.labs)]) ∧ w'.ownsRow W.heap.size 62 2 v (canonL r.labs).length (labCells (canonL r.labs))) ∧ Below W.heap.size W w'))
  have cE := fun va W (hA : LRow W va (canonL r.labs)) (hW : Below w.heap.size w W) => ref_Same va lv (canonL r.labs) r.labs W hA (hL.below hW)
  have cV := fun W (_ : Below w.heap.size w W) => ref_Runes r.line W (by omega)
  have hone := one_new w #[.int .i64 r.time, .int .u64 (r.seq : Int), lv, .string r.line] 47
  have hb1 : Below w.heap.size w (w.alloc (.cells #[.int .i64 r.time, .int .u64 (r.seq : Int), lv, .string r.line] 47)) := belowA (Below.refl _ _)
  have CC := Lib.hid cC
  have CE := Lib.hid cE
  have CV := Lib.hid cV
  clear cC cE cV hs
  unfold recV
  generalize r.time = ta at *
  generalize (r.seq : Int) = sa at *
  have e1 : ∃ E, canonE r.labs = E := ⟨_, rfl⟩
  obtain ⟨E, hE⟩ := e1
  obtain ⟨D, hD⟩ : ∃ D, decide (canonL r.labs = r.labs) = D := ⟨_, rfl⟩
  obtain ⟨V, hV⟩ : ∃ V, Lib.validD r.line.data.toList = V := ⟨_, rfl⟩
  rw [hE, hD, hV]
  rw [hE] at CC
  rw [hD] at CE
  rw [hV] at CV
  clear hE hD hV
  generalize canonL r.labs = K at *
  generalize r.line = na at *
  obtain ⟨R, hR⟩ : ∃ R, chkOf E D na.size V = R := ⟨_, rfl⟩
  rw [hR]
  unfold chkOf at hR
  have HR := Lib.hid hR
  clear hR
  go_enter Tryz.func28, Tryz.ntmps28
  go_upto_region 1 with fail
  generalize w.alloc (.cells #[.int .i64 ta, .int .u64 sa, lv, .string na] 47) = w1 at *
  have hone' : ∀ w', Below w1.heap.size w1 w' → w'.cell? ⟨w.heap.size, 2, none⟩ = some lv ∧ w'.cell? ⟨w.heap.size, 3, none⟩ = some (.string na) := fun w' h => ⟨hone w' h 2, hone w' h 3⟩
  have HONE := Lib.hid hone'
  clear hone hone'
  have g0 := (HONE.out w1 (Below.refl _ _)).1
  by_cases hE : E = 0
  · have HR2 := Lib.hid (show (if D = false then (6 : Int) else if 1024 < na.size then 4 else if V = false then 8 else 0) = R by have h := HR.out; rw [if_neg (by simp [hE])] at h; exact h)
    subst hE
    clear HR
    cases D
    · obtain rfl : R = 6 := by rw [← HR2.out]; rfl
      clear HR2
      go_wp2_with (first | (go_at_call 46; refine (CC.out _ hb1).mono ?_; rintro e w2 ⟨⟨v2, rfl, ho2⟩, hb2⟩; have g2 := HONE.out w2 hb2) | (go_at_call 47; refine (CE.out _ _ (LRow_own ho2) (below_seq hb1 hb2)).mono ?_; rintro e w3 ⟨rfl, hb3'⟩; have hb3 := below_seq hb2 hb3'; have g3 := HONE.out w3 hb3))
      go_ret
      exact ⟨rfl, below_seq hb1 hb3⟩
    · have HR3 := Lib.hid (show (if 1024 < na.size then (4 : Int) else if V = false then 8 else 0) = R by rw [← HR2.out]; rfl)
      clear HR2
      by_cases hn : 1024 < na.size
      · obtain rfl : R = 4 := by rw [← HR3.out, if_pos hn]
        have hn' : (1024 : Int) < (na.size : Int) := by omega
        clear HR3
        go_wp2_with (first | (go_at_call 46; refine (CC.out _ hb1).mono ?_; rintro e w2 ⟨⟨v2, rfl, ho2⟩, hb2⟩; have g2 := HONE.out w2 hb2) | (go_at_call 47; refine (CE.out _ _ (LRow_own ho2) (below_seq hb1 hb2)).mono ?_; rintro e w3 ⟨rfl, hb3'⟩; have hb3 := below_seq hb2 hb3'; have g3 := HONE.out w3 hb3))
        go_ret
        exact ⟨rfl, below_seq hb1 hb3⟩
      · have HR4 := Lib.hid (show (if V = false then (8 : Int) else 0) = R by have h := HR3.out; rw [if_neg hn] at h; exact h)
        have hn' : ¬ (1024 : Int) < (na.size : Int) := by omega
        clear HR3
        cases V
        · obtain rfl : R = 8 := by rw [← HR4.out]; rfl
          clear HR4
          go_wp2_with (first | (go_at_call 46; refine (CC.out _ hb1).mono ?_; rintro e w2 ⟨⟨v2, rfl, ho2⟩, hb2⟩; have g2 := HONE.out w2 hb2) | (go_at_call 47; refine (CE.out _ _ (LRow_own ho2) (below_seq hb1 hb2)).mono ?_; rintro e w3 ⟨rfl, hb3'⟩; have hb3 := below_seq hb2 hb3'; have g3 := HONE.out w3 hb3) | (go_at_call 48; refine (CV.out _ (below_seq hb1 hb3)).mono ?_; rintro e w4 ⟨v4, rfl, ho4, hb4'⟩; have hb4 := below_seq hb3 hb4'))
          go_ret
          exact ⟨rfl, below_seq hb1 hb4⟩
        · obtain rfl : R = 0 := by rw [← HR4.out]; rfl
          clear HR4
          go_wp2_with (first | (go_at_call 46; refine (CC.out _ hb1).mono ?_; rintro e w2 ⟨⟨v2, rfl, ho2⟩, hb2⟩; have g2 := HONE.out w2 hb2) | (go_at_call 47; refine (CE.out _ _ (LRow_own ho2) (below_seq hb1 hb2)).mono ?_; rintro e w3 ⟨rfl, hb3'⟩; have hb3 := below_seq hb2 hb3'; have g3 := HONE.out w3 hb3) | (go_at_call 48; refine (CV.out _ (below_seq hb1 hb3)).mono ?_; rintro e w4 ⟨v4, rfl, ho4, hb4'⟩; have hb4 := below_seq hb3 hb4'))
          go_ret
          exact ⟨rfl, below_seq hb1 hb4⟩
  · obtain rfl : R = E := by rw [← HR.out, if_pos hE]
    have hE' : (R != 0) = true := by simpa using hE
    clear HR hE
    go_wp2_with (first | (go_at_call 46; refine (CC.out _ hb1).mono ?_; rintro e w2 ⟨⟨v2, rfl, ho2⟩, hb2⟩; have g2 := HONE.out w2 hb2))
    go_ret
    exact ⟨rfl, below_seq hb1 hb2⟩
end Go.Proofs.YtaimldndooijdaaGreatDoor
/-
  record.Put.
-/
namespace Go.Proofs.YtaimldndooijdaaGreatDoor
open Go.RowKit
theorem OB.alloc {w : World} {B : Nat} {v : Value} {l : List UInt8} (h : OB w B v l) (o : Obj) : OB (w.alloc o) B v l := World.ownsRow.alloc h o
theorem OB.drew {w : World} {B : Nat} {v : Value} {l : List UInt8} (h : OB w B v l) : OB w.drew B v l := World.ownsRow.drew h
end Go.Proofs.YtaimldndooijdaaGreatDoor
/-
  The reference's Put of a record.
-/
namespace Go.Proofs.YtaimldndooijdaaGreatDoor
open Go.RowKit
end Go.Proofs.YtaimldndooijdaaGreatDoor
/-
  Lists of records: how they lie; record.PutAll.
-/
namespace Go.Proofs.YtaimldndooijdaaGreatDoor
open Go.RowKit
theorem chk_parts {r : Rec} (h : chkRec r = 0) : canonE r.labs = 0 ∧ canonL r.labs = r.labs ∧ r.line.size ≤ 1024 ∧ Lib.validD r.line.data.toList = true := by
  unfold chkRec at h
  split at h
  · rename_i h1
    exact absurd h h1
  · rename_i h1
    split at h
    · omega
    · rename_i h2
      split at h
      · omega
      · split at h
        · omega
        · rename_i h4
          exact ⟨Classical.byContradiction h1, Classical.byContradiction h2, by omega, by simpa using h4⟩
theorem lab_small {x : Lab} (h : labBad x = 0) : x.1.size ≤ 32 ∧ x.2.size ≤ 256 := by
  unfold labBad at h
  split at h
  · omega
  · rename_i h1
    split at h
    · omega
    · have h2 : nameOk x.1 = true := by simpa using h1
      unfold nameOk at h2
      simp only [Bool.and_eq_true, decide_eq_true_eq] at h2
      exact ⟨h2.1.2, by omega⟩
/-! ### How lists of records lie -/
abbrev RecL := Rec × Value
def recCells (z : RecL) : List Value := [.int .i64 z.1.time, .int .u64 (z.1.seq : Int), z.2, .string z.1.line]
def recsCells (Z : List RecL) : List Value := Z.flatMap recCells
theorem recsCells_len (Z : List RecL) : (recsCells Z).length = Z.length * 4 := by
  induction Z with
  | nil => rfl
  | cons x Z ih =>
    show (recCells x ++ recsCells Z).length = _
    rw [List.length_append, ih, List.length_cons]
    show 4 + _ = _
    omega
theorem recsCells_append (A B : List RecL) : recsCells (A ++ B) = recsCells A ++ recsCells B := List.flatMap_append
theorem recsCells_get : ∀ (Z : List RecL) (k : Nat) (h : k < Z.length) (j : Nat), j < 4 → (recsCells Z)[k * 4 + j]? = (recCells Z[k])[j]?
  | x :: Z, 0, _, j, hj => by
    show (recCells x ++ recsCells Z)[0 * 4 + j]? = (recCells x)[j]?
    rw [Nat.zero_mul, Nat.zero_add, List.getElem?_append_left (by exact hj)]
  | x :: Z, k + 1, h, j, hj => by
    have ih := recsCells_get Z k (by simpa using h) j hj
    have e : ∀ j, (recsCells (x :: Z))[j + 4]? = (recsCells Z)[j]? := fun j => rfl
    rw [show (k + 1) * 4 + j = (k * 4 + j) + 4 from by omega, e]
    exact ih
def RRow (w : World) (v : Value) (Z : List RecL) : Prop := argRow w v Z.length 4 (recsCells Z) ∧ ∀ z ∈ Z, RecAt w z.2 z.1
theorem RRow.below {w w' : World} {v : Value} {Z : List RecL} (h : RRow w v Z) (hb : Below w.heap.size w w') : RRow w' v Z := ⟨argRow_below h.1 hb, fun z hz => (h.2 z hz).below hb⟩
theorem RRow.shape {w : World} {v : Value} {Z : List RecL} (h : RRow w v Z) : ∃ a c, v = .slice a Z.length c ∧ Z.length ≤ c ∧ c ≤ maxLen := by
  obtain ⟨⟨_, a, c, rfl, h1, h2, _⟩, _⟩ := h
  exact ⟨a, c, rfl, h1, h2⟩
theorem RRow.at {w : World} {a : Option Addr} {n c : Nat} {Z : List RecL} (h : RRow w (.slice a n c) Z) {k : Nat} (hk : k < Z.length) :
    ∃ b off, a = some ⟨b, off, none⟩ ∧ b < w.heap.size ∧ w.cell? ⟨b, off + k * 4, none⟩ = some (.int .i64 Z[k].1.time) ∧ w.cell? ⟨b, off + k * 4 + 1, none⟩ = some (.int .u64 (Z[k].1.seq : Int)) ∧
      w.cell? ⟨b, off + k * 4 + 2, none⟩ = some Z[k].2 ∧ w.cell? ⟨b, off + k * 4 + 3, none⟩ = some (.string Z[k].1.line) := by
  obtain ⟨⟨hl, a', c', e, _, _, hc⟩, _⟩ := h
  cases e
  obtain ⟨b, off, rfl, hb, hcs⟩ := hc (by omega)
  have hlen := recsCells_len Z
  have hg := fun j hj => recsCells_get Z k hk j hj
  have key : ∀ j (hj : j < 4) u, (recCells Z[k])[j]? = some u → w.cell? ⟨b, off + k * 4 + j, none⟩ = some u := fun j hj u hu => by
    have h1 := hcs (k * 4 + j) (by omega)
    have h2 := hg j hj
    rw [hu, List.getElem?_eq_getElem (by omega)] at h2
    rw [Nat.add_assoc, h1, Option.some.inj h2]
  exact ⟨b, off, rfl, hb, key 0 (by omega) _ rfl, key 1 (by omega) _ rfl, key 2 (by omega) _ rfl, key 3 (by omega) _ rfl⟩
end Go.Proofs.YtaimldndooijdaaGreatDoor
/-
  record.PutAll.
-/
namespace Go.Proofs.YtaimldndooijdaaGreatDoor
open Go.RowKit
end Go.Proofs.YtaimldndooijdaaGreatDoor
/-
  The reference's PutAll.
-/
namespace Go.Proofs.YtaimldndooijdaaGreatDoor
open Go.RowKit
end Go.Proofs.YtaimldndooijdaaGreatDoor
/-
  The reference's Same and SameAll of records.
-/
namespace Go.Proofs.YtaimldndooijdaaGreatDoor
open Go.RowKit
theorem rec_ext {a b : Rec} : a = b ↔ a.time = b.time ∧ a.seq = b.seq ∧ a.line = b.line ∧ a.labs = b.labs := by
  constructor
  · rintro rfl
    exact ⟨rfl, rfl, rfl, rfl⟩
  · cases a
    cases b
    rintro ⟨h1, h2, h3, h4⟩
    simp only at h1 h2 h3 h4
    rw [h1, h2, h3, h4]
instance recDec (a b : Rec) : Decidable (a = b) := decidable_of_iff _ rec_ext.symm
set_option maxRecDepth 100000 in
set_option maxHeartbeats 4000000 in
theorem rrec_Same (a b : Rec) (la lb : Value) (w : World) (hA : LRow w la a.labs) (hB : LRow w lb b.labs) :
    Calls Tryz.prog 29 #[recV a la, recV b lb] w fun e w' => e = .returned (.bool (decide (a = b))) ∧ Below w.heap.size w w' := by
  have CS := Lib.hid (fun W (hW : Below w.heap.size w W) => ref_Same la lb a.labs b.labs W (hA.below hW) (hB.below hW))
  obtain ⟨R, hR⟩ : ∃ R, decide (a = b) = R := ⟨_, rfl⟩
  rw [hR]
  have h1 : (a.time == b.time) = false → R = false := fun h => by rw [← hR]; refine decide_eq_false fun e => ?_; rw [e] at h; simp at h
  have h2 : ((a.seq : Int) == (b.seq : Int)) = false → R = false := fun h => by rw [← hR]; refine decide_eq_false fun e => ?_; rw [e] at h; simp at h
  have h3 : (a.line.toList == b.line.toList) = false → R = false := fun h => by rw [← hR]; refine decide_eq_false fun e => ?_; rw [e] at h; simp at h
  have h4 : (a.time == b.time) = true → ((a.seq : Int) == (b.seq : Int)) = true → (a.line.toList == b.line.toList) = true → R = decide (a.labs = b.labs) := fun h1 h2 h3 => by
    rw [← hR]
    have e1 : a.time = b.time := by simpa using h1
    have e2 : a.seq = b.seq := by have : (a.seq : Int) = (b.seq : Int) := by simpa using h2
                                  omega
    have e3 : a.line = b.line := bytes_inj (by simpa using h3)
    exact decide_eq_decide.2 ⟨fun h => (rec_ext.1 h).2.2.2, fun h => rec_ext.2 ⟨e1, e2, e3, h⟩⟩
  have H1 := Lib.hid h1
  have H2 := Lib.hid h2
  have H3 := Lib.hid h3
  have H4 := Lib.hid h4
  clear h1 h2 h3 h4 hR
  obtain ⟨al, cl, rfl, -, -⟩ := hA.shape
  obtain ⟨bl, dl, rfl, -, -⟩ := hB.shape
  generalize decide (a.labs = b.labs) = D at *
  clear hA hB
  unfold recV
  generalize a.labs.length = n1 at *
  generalize b.labs.length = n2 at *
  generalize a.time = ta at *
  generalize b.time = tb at *
  generalize (a.seq : Int) = sa at *
  generalize (b.seq : Int) = sb at *
  generalize a.line = na at *
  generalize b.line = nb at *
  have hB := two_new w #[.int .i64 ta, .int .u64 sa, .slice al n1 cl, .string na] #[.int .i64 tb, .int .u64 sb, .slice bl n2 dl, .string nb] 47 47 _ (Below.refl _ _)
  have hbw : Below w.heap.size w ((w.alloc (.cells #[.int .i64 ta, .int .u64 sa, .slice al n1 cl, .string na] 47)).alloc (.cells #[.int .i64 tb, .int .u64 sb, .slice bl n2 dl, .string nb] 47)) := belowA (belowA (Below.refl _ _))
  go_enter Tryz.func29, Tryz.ntmps29
  go_upto_region 1 with fail
  generalize (w.alloc (.cells #[.int .i64 ta, .int .u64 sa, .slice al n1 cl, .string na] 47)).alloc (.cells #[.int .i64 tb, .int .u64 sb, .slice bl n2 dl, .string nb] 47) = w1 at *
  have a0 : w1.cell? ⟨w.heap.size, 0, none⟩ = some (.int .i64 ta) := (hB 0).1
  have a1 : w1.cell? ⟨w.heap.size, 1, none⟩ = some (.int .u64 sa) := (hB 1).1
  have a2 : w1.cell? ⟨w.heap.size, 2, none⟩ = some (.slice al n1 cl) := (hB 2).1
  have a3 : w1.cell? ⟨w.heap.size, 3, none⟩ = some (.string na) := (hB 3).1
  have b0 : w1.cell? ⟨w.heap.size + 1, 0, none⟩ = some (.int .i64 tb) := (hB 0).2
  have b1 : w1.cell? ⟨w.heap.size + 1, 1, none⟩ = some (.int .u64 sb) := (hB 1).2
  have b2 : w1.cell? ⟨w.heap.size + 1, 2, none⟩ = some (.slice bl n2 dl) := (hB 2).2
  have b3 : w1.cell? ⟨w.heap.size + 1, 3, none⟩ = some (.string nb) := (hB 3).2
  clear hB
  obtain ⟨c1, k1⟩ : ∃ c, (ta == tb) = c := ⟨_, rfl⟩
  cases c1
  · obtain rfl := H1.out k1
    clear H1 H2 H3 H4
    go_wp2
    go_ret
    exact ⟨rfl, hbw⟩
  · obtain ⟨c2, k2⟩ : ∃ c, (sa == sb) = c := ⟨_, rfl⟩
    cases c2
    · obtain rfl := H2.out k2
      clear H1 H2 H3 H4
      go_wp2
      go_ret
      exact ⟨rfl, hbw⟩
    · obtain ⟨c3, k3⟩ : ∃ c, (na.toList == nb.toList) = c := ⟨_, rfl⟩
      cases c3
      · obtain rfl := H3.out k3
        clear H1 H2 H3 H4
        go_wp2
        go_ret
        exact ⟨rfl, hbw⟩
      · obtain rfl := H4.out k1 k2 k3
        clear H1 H2 H3 H4
        go_wp2_with (go_at_call 47; refine (CS.out _ hbw).mono ?_; rintro e w3 ⟨rfl, hb3⟩)
        go_ret
        exact ⟨rfl, below_seq hbw hb3⟩
set_option maxRecDepth 100000 in
set_option maxHeartbeats 4000000 in
theorem rrec_SameAll (va vb : Value) (A B : List RecL) (w : World) (hA : RRow w va A) (hB : RRow w vb B) (hsA : A.length ≤ 1000000000) :
    Calls Tryz.prog 10 #[va, vb] w fun e w' => e = .returned (.bool (decide (A.map Prod.fst = B.map Prod.fst))) ∧ Below w.heap.size w w' := by
  obtain ⟨R, hR⟩ : ∃ R, decide (A.map Prod.fst = B.map Prod.fst) = R := ⟨_, rfl⟩
  rw [hR]
  have HR := Lib.hid hR
  clear hR
  obtain ⟨aa, ca, rfl, hca, hca2⟩ := hA.shape
  obtain ⟨ab, cb, rfl, hcb, hcb2⟩ := hB.shape
  unfold maxLen at hca2 hcb2
  have HA := Lib.hid hA
  have HB := Lib.hid hB
  clear hA hB
  by_cases hlen : A.length = B.length
  · have hne : ((A.length : Int) != (B.length : Int)) = false := by simp; omega
    have HLEN := Lib.hid hlen
    have hle := Nat.le_of_eq hlen
    have hle2 := Nat.le_of_eq hlen.symm
    clear hlen
    go_enter Tryz.func10, Tryz.ntmps10
    go_wp2
    go_loopw [5] (fun iv wr => ∃ k : Nat, iv = .int .i64 k ∧ k ≤ A.length ∧ (∀ j (h1 : j < A.length) (h2 : j < B.length), j < k → A[j].1 = B[j].1) ∧ Below w.heap.size w wr) (fun iv _ => A.length - (intOf iv).toNat)
    case atStart => exact ⟨0, rfl, Nat.zero_le _, fun j _ _ h => by omega, Below.refl _ _⟩
    case round =>
      obtain ⟨k, rfl, hk, hsame, hb⟩ := hrel
      have HS := Lib.hid hsame
      clear hsame
      by_cases hlt : k < A.length
      · have hltB : k < B.length := by omega
        obtain ⟨ba, oa, rfl, hba, ga0, ga1, ga2, ga3⟩ := HA.out.at hlt
        obtain ⟨bb, ob, rfl, hbb, gb0, gb1, gb2, gb3⟩ := HB.out.at hltB
        have hS := fun W (hW : Below w.heap.size w W) => rrec_Same A[k].1 B[k].1 A[k].2 B[k].2 W ((HA.out.2 _ (List.getElem_mem hlt)).1.below hW) ((HB.out.2 _ (List.getElem_mem hltB)).1.below hW)
        obtain ⟨al2, cl2, hlv, -, -⟩ := (HA.out.2 _ (List.getElem_mem hlt)).1.shape
        obtain ⟨bl2, dl2, hlw, -, -⟩ := (HB.out.2 _ (List.getElem_mem hltB)).1.shape
        rw [hlv] at ga2 hS
        rw [hlw] at gb2 hS
        clear hlv hlw
        obtain ⟨D, hD⟩ : ∃ D, decide (A[k].1 = B[k].1) = D := ⟨_, rfl⟩
        rw [hD] at hS
        unfold recV at hS
        have CS := Lib.hid hS
        have HD := Lib.hid hD
        have i0 : (0 : Int) ≤ (k : Int) := by omega
        have i1 : (k : Int) < (A.length : Int) := by omega
        have i2 : (k : Int) < (B.length : Int) := by omega
        have hcell : ∀ W, Below wr.heap.size wr W → W.cell? ⟨ba, oa + k * 4, none⟩ = some (.int .i64 A[k].1.time) ∧ W.cell? ⟨ba, oa + k * 4 + 1, none⟩ = some (.int .u64 (A[k].1.seq : Int)) ∧ W.cell? ⟨ba, oa + k * 4 + 2, none⟩ = some (.slice al2 A[k].1.labs.length cl2) ∧ W.cell? ⟨ba, oa + k * 4 + 3, none⟩ = some (.string A[k].1.line) ∧
            W.cell? ⟨bb, ob + k * 4, none⟩ = some (.int .i64 B[k].1.time) ∧ W.cell? ⟨bb, ob + k * 4 + 1, none⟩ = some (.int .u64 (B[k].1.seq : Int)) ∧ W.cell? ⟨bb, ob + k * 4 + 2, none⟩ = some (.slice bl2 B[k].1.labs.length dl2) ∧ W.cell? ⟨bb, ob + k * 4 + 3, none⟩ = some (.string B[k].1.line) ∧ Below w.heap.size w W := fun W hW => by
          have h := below_seq hb hW
          refine ⟨?_, ?_, ?_, ?_, ?_, ?_, ?_, ?_, h⟩
          · rw [h.cell (p := ⟨ba, _, none⟩) hba]; exact ga0
          · rw [h.cell (p := ⟨ba, _, none⟩) hba]; exact ga1
          · rw [h.cell (p := ⟨ba, _, none⟩) hba]; exact ga2
          · rw [h.cell (p := ⟨ba, _, none⟩) hba]; exact ga3
          · rw [h.cell (p := ⟨bb, _, none⟩) hbb]; exact gb0
          · rw [h.cell (p := ⟨bb, _, none⟩) hbb]; exact gb1
          · rw [h.cell (p := ⟨bb, _, none⟩) hbb]; exact gb2
          · rw [h.cell (p := ⟨bb, _, none⟩) hbb]; exact gb3
        have HC := Lib.hid hcell
        clear hcell ga0 ga1 ga2 ga3 gb0 gb1 gb2 gb3 hS hD
        generalize A[k].1.time = ta at *
        generalize (A[k].1.seq : Int) = sa at *
        generalize A[k].1.line = na at *
        generalize A[k].1.labs.length = la at *
        generalize B[k].1.time = tb at *
        generalize (B[k].1.seq : Int) = sb at *
        generalize B[k].1.line = nb at *
        generalize B[k].1.labs.length = lb at *
        go_upto_region 6 with fail
        have hbd : Below wr.heap.size wr wr.drew := (Below.refl _ _).drew
        have hbw : Below w.heap.size w wr.drew := hb.drew
        go_region_held3 (fun W => W.cell? ⟨ba, oa + k * 4, none⟩ = some (.int .i64 ta) ∧ W.cell? ⟨ba, oa + k * 4 + 1, none⟩ = some (.int .u64 sa) ∧ W.cell? ⟨ba, oa + k * 4 + 2, none⟩ = some (.slice al2 la cl2) ∧ W.cell? ⟨ba, oa + k * 4 + 3, none⟩ = some (.string na) ∧
            W.cell? ⟨bb, ob + k * 4, none⟩ = some (.int .i64 tb) ∧ W.cell? ⟨bb, ob + k * 4 + 1, none⟩ = some (.int .u64 sb) ∧ W.cell? ⟨bb, ob + k * 4 + 2, none⟩ = some (.slice bl2 lb dl2) ∧ W.cell? ⟨bb, ob + k * 4 + 3, none⟩ = some (.string nb) ∧ Below w.heap.size w W)
          (first | exact HC.out _ (by assumption))
          (first | (go_at_call 29; refine (CS.out _ hbw).mono ?_; rintro e wn ⟨rfl, hbn⟩; have hbn2 := below_seq hbd hbn))
        all_goals
          cases D
          · have hno : A[k].1 ≠ B[k].1 := of_decide_eq_false HD.out
            obtain rfl : R = false := by
              rw [← HR.out]
              refine decide_eq_false fun e => hno ?_
              have h1 : (A.map Prod.fst)[k]? = (B.map Prod.fst)[k]? := by rw [e]
              rw [List.getElem?_map, List.getElem?_map, List.getElem?_eq_getElem hlt, List.getElem?_eq_getElem hltB] at h1
              exact Option.some.inj h1
            clear hno HD HR HS
            go_wp2
            go_ret
            exact ⟨rfl, below_seq hb hbn2⟩
          · have hyes : A[k].1 = B[k].1 := of_decide_eq_true HD.out
            have HY := Lib.hid hyes
            clear hyes HD
            go_wp2
            go_roundw
            case rel => exact ⟨k + 1, by go_num, by omega, fun j h1 h2 h3 => by
              by_cases hj : j = k
              · subst hj; exact HY.out
              · exact HS.out j h1 h2 (by omega), below_seq hb hbn2⟩
            case measure => simp [intOf]; omega
      · obtain rfl : k = A.length := by omega
        obtain rfl : R = true := by
          rw [← HR.out]
          refine decide_eq_true ?_
          refine List.ext_getElem (by simpa using HLEN.out) fun j h1 h2 => ?_
          rw [List.getElem_map, List.getElem_map]
          exact HS.out j (by simpa using h1) (by simpa using h2) (by simpa using h1)
        clear HS HR HLEN
        go_wp2
        go_ret
        exact ⟨rfl, hb⟩
  · have hne : ((A.length : Int) != (B.length : Int)) = true := by simp; omega
    obtain rfl : R = false := by
      rw [← HR.out]
      refine decide_eq_false fun e => hlen ?_
      have := congrArg List.length e
      simpa using this
    clear hlen HR
    go_enter Tryz.func10, Tryz.ntmps10
    go_wp2
    go_ret
    exact ⟨rfl, Below.refl _ _⟩
end Go.Proofs.YtaimldndooijdaaGreatDoor
