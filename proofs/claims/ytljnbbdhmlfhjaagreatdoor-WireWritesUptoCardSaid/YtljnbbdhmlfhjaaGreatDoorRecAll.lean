/-
  record.Check, the reference's Check.
-/
import Derived.Test.YtljnbbdhmlfhjaaGreatDoorVarAll
import Derived.Test.YtljnbbdhmlfhjaaGreatDoorLabTwo
namespace Go.Proofs.YtljnbbdhmlfhjaaGreatDoor
open Go.RowKit
def chkOf (E : Int) (D : Bool) (n : Nat) (V : Bool) : Int := if E ≠ 0 then E else if D = false then 6 else if 1024 < n then 4 else if V = false then 8 else 0
theorem chkRec_eq (r : Rec) : chkRec r = chkOf (canonE r.labs) (decide (canonL r.labs = r.labs)) r.line.size (Lib.validD r.line.data.toList) := by
  unfold chkRec chkOf
  simp
/-- A record that can be read. -/
def RecAt (w : World) (lv : Value) (r : Rec) : Prop := LRow w lv r.labs ∧ (∀ x ∈ r.labs, x.1.size ≤ 1000000000 ∧ x.2.size ≤ 1000000000) ∧ r.labs.length ≤ 1048576 ∧ r.line.size ≤ 1000000000
theorem RecAt.below {w w' : World} {lv : Value} {r : Rec} (h : RecAt w lv r) (hb : Below w.heap.size w w') : RecAt w' lv r := ⟨h.1.below hb, h.2⟩
theorem LRow_own {w : World} {B : Nat} {t : TypeId} {v : Value} {L : List Lab} (h : w.ownsRow B t 2 v L.length (labCells L)) : LRow w v L := argRow_owns h
set_option maxRecDepth 100000 in
set_option maxHeartbeats 4000000 in
theorem rec_Check (r : Rec) (lv : Value) (w : World) (h : RecAt w lv r) (hT : Tabs w) :
    Calls Tryz.prog 29 #[recV r lv] w fun e w' => e = .returned (.int .i64 (chkRec r)) ∧ Below w.heap.size w w' := by
  obtain ⟨hL, hs, hLn, hl⟩ := h
  rw [chkRec_eq]
  have cC := fun W (hW : Below w.heap.size w W) => (label_Canon lv r.labs W (hL.below hW) (Utf8Tabs_below hT hW) hs hLn).mono (fun e w' h => (⟨canon_end h.1, h.2⟩ : (∃ v, e = .returned (.tuple #[v, .int .i64 (canonE r.labs)]) ∧ w'.ownsRow W.heap.size 55 2 v (canonL r.labs).length (labCells (canonL r.labs))) ∧ Below W.heap.size W w'))
  have cE := fun va W (hA : LRow W va (canonL r.labs)) (hW : Below w.heap.size w W) => slices_Equal va lv (canonL r.labs) r.labs W hA (hL.below hW)
  have cV := fun W (hW : Below w.heap.size w W) => utf_Valid r.line W (by unfold maxLen; omega) (Utf8Tabs_below hT hW)
  have hone := one_new w #[.int .i64 r.time, .int .u64 (r.seq : Int), lv, .string r.line] 34
  have hb1 : Below w.heap.size w (w.alloc (.cells #[.int .i64 r.time, .int .u64 (r.seq : Int), lv, .string r.line] 34)) := belowA (Below.refl _ _)
  have CC := Lib.hid cC
  have CE := Lib.hid cE
  have CV := Lib.hid cV
  clear cC cE cV hs
  unfold recV
  generalize r.time = ta at *
  generalize (r.seq : Int) = sa at *
  have e1 : ∃ E, canonE r.labs = E := ⟨_, rfl⟩
  obtain ⟨E, hE⟩ := e1
  obtain ⟨D, hD⟩ : ∃ D, decide (canonL r.labs = r.labs) = D := ⟨_, rfl⟩
  obtain ⟨V, hV⟩ : ∃ V, Lib.validD r.line.data.toList = V := ⟨_, rfl⟩
  rw [hE, hD, hV]
  rw [hE] at CC
  rw [hD] at CE
  rw [hV] at CV
  clear hE hD hV
  generalize canonL r.labs = K at *
  generalize r.line = na at *
  obtain ⟨R, hR⟩ : ∃ R, chkOf E D na.size V = R := ⟨_, rfl⟩
  rw [hR]
  unfold chkOf at hR
  have HR := Lib.hid hR
  clear hR
  go_enter Tryz.func29, Tryz.ntmps29
  go_upto_region 1 with fail
  generalize w.alloc (.cells #[.int .i64 ta, .int .u64 sa, lv, .string na] 34) = w1 at *
  have hone' : ∀ w', Below w1.heap.size w1 w' → w'.cell? ⟨w.heap.size, 2, none⟩ = some lv ∧ w'.cell? ⟨w.heap.size, 3, none⟩ = some (.string na) := fun w' h => ⟨hone w' h 2, hone w' h 3⟩
  have HONE := Lib.hid hone'
  clear hone hone'
  have g0 := (HONE.out w1 (Below.refl _ _)).1
  by_cases hE : E = 0
  · have HR2 := Lib.hid (show (if D = false then (6 : Int) else if 1024 < na.size then 4 else if V = false then 8 else 0) = R by have h := HR.out; rw [if_neg (by simp [hE])] at h; exact h)
    subst hE
    clear HR
    cases D
    · obtain rfl : R = 6 := by rw [← HR2.out]; rfl
      clear HR2
      go_wp2_with (first | (go_at_call 28; refine (CC.out _ hb1).mono ?_; rintro e w2 ⟨⟨v2, rfl, ho2⟩, hb2⟩; have g2 := HONE.out w2 hb2) | (go_at_call 65; refine (CE.out _ _ (LRow_own ho2) (below_seq hb1 hb2)).mono ?_; rintro e w3 ⟨rfl, hb3'⟩; have hb3 := below_seq hb2 hb3'; have g3 := HONE.out w3 hb3))
      go_ret
      exact ⟨rfl, below_seq hb1 hb3⟩
    · have HR3 := Lib.hid (show (if 1024 < na.size then (4 : Int) else if V = false then 8 else 0) = R by rw [← HR2.out]; rfl)
      clear HR2
      by_cases hn : 1024 < na.size
      · obtain rfl : R = 4 := by rw [← HR3.out, if_pos hn]
        have hn' : (1024 : Int) < (na.size : Int) := by omega
        clear HR3
        go_wp2_with (first | (go_at_call 28; refine (CC.out _ hb1).mono ?_; rintro e w2 ⟨⟨v2, rfl, ho2⟩, hb2⟩; have g2 := HONE.out w2 hb2) | (go_at_call 65; refine (CE.out _ _ (LRow_own ho2) (below_seq hb1 hb2)).mono ?_; rintro e w3 ⟨rfl, hb3'⟩; have hb3 := below_seq hb2 hb3'; have g3 := HONE.out w3 hb3))
        go_ret
        exact ⟨rfl, below_seq hb1 hb3⟩
      · have HR4 := Lib.hid (show (if V = false then (8 : Int) else 0) = R by have h := HR3.out; rw [if_neg hn] at h; exact h)
        have hn' : ¬ (1024 : Int) < (na.size : Int) := by omega
        clear HR3
        cases V
        · obtain rfl : R = 8 := by rw [← HR4.out]; rfl
          clear HR4
          go_wp2_with (first | (go_at_call 28; refine (CC.out _ hb1).mono ?_; rintro e w2 ⟨⟨v2, rfl, ho2⟩, hb2⟩; have g2 := HONE.out w2 hb2) | (go_at_call 65; refine (CE.out _ _ (LRow_own ho2) (below_seq hb1 hb2)).mono ?_; rintro e w3 ⟨rfl, hb3'⟩; have hb3 := below_seq hb2 hb3'; have g3 := HONE.out w3 hb3) | (go_at_call 41; refine (CV.out _ (below_seq hb1 hb3)).mono ?_; rintro e w4 ⟨rfl, hb4'⟩; have hb4 := below_seq hb3 hb4'))
          go_ret
          exact ⟨rfl, below_seq hb1 hb4⟩
        · obtain rfl : R = 0 := by rw [← HR4.out]; rfl
          clear HR4
          go_wp2_with (first | (go_at_call 28; refine (CC.out _ hb1).mono ?_; rintro e w2 ⟨⟨v2, rfl, ho2⟩, hb2⟩; have g2 := HONE.out w2 hb2) | (go_at_call 65; refine (CE.out _ _ (LRow_own ho2) (below_seq hb1 hb2)).mono ?_; rintro e w3 ⟨rfl, hb3'⟩; have hb3 := below_seq hb2 hb3'; have g3 := HONE.out w3 hb3) | (go_at_call 41; refine (CV.out _ (below_seq hb1 hb3)).mono ?_; rintro e w4 ⟨rfl, hb4'⟩; have hb4 := below_seq hb3 hb4'))
          go_ret
          exact ⟨rfl, below_seq hb1 hb4⟩
  · obtain rfl : R = E := by rw [← HR.out, if_pos hE]
    have hE' : (R != 0) = true := by simpa using hE
    clear HR hE
    go_wp2_with (first | (go_at_call 28; refine (CC.out _ hb1).mono ?_; rintro e w2 ⟨⟨v2, rfl, ho2⟩, hb2⟩; have g2 := HONE.out w2 hb2))
    go_ret
    exact ⟨rfl, below_seq hb1 hb2⟩
end Go.Proofs.YtljnbbdhmlfhjaaGreatDoor
/-
  record.Put.
-/
namespace Go.Proofs.YtljnbbdhmlfhjaaGreatDoor
open Go.RowKit
theorem OB.alloc {w : World} {B : Nat} {v : Value} {l : List UInt8} (h : OB w B v l) (o : Obj) : OB (w.alloc o) B v l := World.ownsRow.alloc h o
theorem OB.drew {w : World} {B : Nat} {v : Value} {l : List UInt8} (h : OB w B v l) : OB w.drew B v l := World.ownsRow.drew h
end Go.Proofs.YtljnbbdhmlfhjaaGreatDoor
/-
  The reference's Put of a record.
-/
namespace Go.Proofs.YtljnbbdhmlfhjaaGreatDoor
open Go.RowKit
end Go.Proofs.YtljnbbdhmlfhjaaGreatDoor
/-
  Lists of records: how they lie; record.PutAll.
-/
namespace Go.Proofs.YtljnbbdhmlfhjaaGreatDoor
open Go.RowKit
/-! ### How lists of records lie -/
abbrev RecL := Rec × Value
def recCells (z : RecL) : List Value := [.int .i64 z.1.time, .int .u64 (z.1.seq : Int), z.2, .string z.1.line]
def recsCells (Z : List RecL) : List Value := Z.flatMap recCells
theorem recsCells_len (Z : List RecL) : (recsCells Z).length = Z.length * 4 := by
  induction Z with
  | nil => rfl
  | cons x Z ih =>
    show (recCells x ++ recsCells Z).length = _
    rw [List.length_append, ih, List.length_cons]
    show 4 + _ = _
    omega
theorem recsCells_append (A B : List RecL) : recsCells (A ++ B) = recsCells A ++ recsCells B := List.flatMap_append
theorem recsCells_get : ∀ (Z : List RecL) (k : Nat) (h : k < Z.length) (j : Nat), j < 4 → (recsCells Z)[k * 4 + j]? = (recCells Z[k])[j]?
  | x :: Z, 0, _, j, hj => by
    show (recCells x ++ recsCells Z)[0 * 4 + j]? = (recCells x)[j]?
    rw [Nat.zero_mul, Nat.zero_add, List.getElem?_append_left (by exact hj)]
  | x :: Z, k + 1, h, j, hj => by
    have ih := recsCells_get Z k (by simpa using h) j hj
    have e : ∀ j, (recsCells (x :: Z))[j + 4]? = (recsCells Z)[j]? := fun j => rfl
    rw [show (k + 1) * 4 + j = (k * 4 + j) + 4 from by omega, e]
    exact ih
def RRow (w : World) (v : Value) (Z : List RecL) : Prop := argRow w v Z.length 4 (recsCells Z) ∧ ∀ z ∈ Z, RecAt w z.2 z.1
theorem RRow.below {w w' : World} {v : Value} {Z : List RecL} (h : RRow w v Z) (hb : Below w.heap.size w w') : RRow w' v Z := ⟨argRow_below h.1 hb, fun z hz => (h.2 z hz).below hb⟩
theorem RRow.shape {w : World} {v : Value} {Z : List RecL} (h : RRow w v Z) : ∃ a c, v = .slice a Z.length c ∧ Z.length ≤ c ∧ c ≤ maxLen := by
  obtain ⟨⟨_, a, c, rfl, h1, h2, _⟩, _⟩ := h
  exact ⟨a, c, rfl, h1, h2⟩
theorem RRow.at {w : World} {a : Option Addr} {n c : Nat} {Z : List RecL} (h : RRow w (.slice a n c) Z) {k : Nat} (hk : k < Z.length) :
    ∃ b off, a = some ⟨b, off, none⟩ ∧ b < w.heap.size ∧ w.cell? ⟨b, off + k * 4, none⟩ = some (.int .i64 Z[k].1.time) ∧ w.cell? ⟨b, off + k * 4 + 1, none⟩ = some (.int .u64 (Z[k].1.seq : Int)) ∧
      w.cell? ⟨b, off + k * 4 + 2, none⟩ = some Z[k].2 ∧ w.cell? ⟨b, off + k * 4 + 3, none⟩ = some (.string Z[k].1.line) := by
  obtain ⟨⟨hl, a', c', e, _, _, hc⟩, _⟩ := h
  cases e
  obtain ⟨b, off, rfl, hb, hcs⟩ := hc (by omega)
  have hlen := recsCells_len Z
  have hg := fun j hj => recsCells_get Z k hk j hj
  have key : ∀ j (hj : j < 4) u, (recCells Z[k])[j]? = some u → w.cell? ⟨b, off + k * 4 + j, none⟩ = some u := fun j hj u hu => by
    have h1 := hcs (k * 4 + j) (by omega)
    have h2 := hg j hj
    rw [hu, List.getElem?_eq_getElem (by omega)] at h2
    rw [Nat.add_assoc, h1, Option.some.inj h2]
  exact ⟨b, off, rfl, hb, key 0 (by omega) _ rfl, key 1 (by omega) _ rfl, key 2 (by omega) _ rfl, key 3 (by omega) _ rfl⟩
end Go.Proofs.YtljnbbdhmlfhjaaGreatDoor
/-
  record.PutAll.
-/
namespace Go.Proofs.YtljnbbdhmlfhjaaGreatDoor
open Go.RowKit
end Go.Proofs.YtljnbbdhmlfhjaaGreatDoor
/-
  The reference's PutAll.
-/
namespace Go.Proofs.YtljnbbdhmlfhjaaGreatDoor
open Go.RowKit
end Go.Proofs.YtljnbbdhmlfhjaaGreatDoor
/-
  The reference's Same and SameAll of records.
-/
namespace Go.Proofs.YtljnbbdhmlfhjaaGreatDoor
open Go.RowKit
theorem rec_ext {a b : Rec} : a = b ↔ a.time = b.time ∧ a.seq = b.seq ∧ a.line = b.line ∧ a.labs = b.labs := by
  constructor
  · rintro rfl
    exact ⟨rfl, rfl, rfl, rfl⟩
  · cases a
    cases b
    rintro ⟨h1, h2, h3, h4⟩
    simp only at h1 h2 h3 h4
    rw [h1, h2, h3, h4]
instance recDec (a b : Rec) : Decidable (a = b) := decidable_of_iff _ rec_ext.symm
end Go.Proofs.YtljnbbdhmlfhjaaGreatDoor
