/-
  RexpSets, plainly.
-/
import Derived.Test.YthmhmckkkceclaaDoorRexLaw
namespace Go.Proofs.YthmhmckkkceclaaDoor
open Go.RowKit
/-- A rune of a class as the law lays it out. -/
def chunkN (x : Nat) : List Nat := if x = 123 ∨ x = 124 ∨ x = 125 then [92, x] else [x]
def chunksZ (xs : List Nat) : List Int := (xs.flatMap chunkN).map fun (r : Nat) => (r : Int)
theorem chunksZ_cons (x : Nat) (xs : List Nat) : chunksZ (x :: xs) = (chunkN x).map (fun (r : Nat) => (r : Int)) ++ chunksZ xs := by
  unfold chunksZ
  rw [List.flatMap_cons, List.map_append]
def twoZ (xs : List Nat) : List Pr := xs.map fun (x : Nat) => ((x : Int), (x : Int))
def InR (xs : List Nat) : Prop := ∀ x ∈ xs, 97 ≤ x ∧ x ≤ 608
/-- What stands behind a member is no -. -/
theorem behind_no {xs : List Nat} (h : InR xs) (r : List Int) : ∃ c t, chunksZ xs ++ 93 :: r = c :: t ∧ c ≠ 45 ∧ c ≠ 94 ∧ (xs = [] → c = 93) ∧ (xs ≠ [] → c ≠ 93) := by
  cases xs with
  | nil => exact ⟨93, r, rfl, by decide, by decide, fun _ => rfl, fun h => absurd rfl h⟩
  | cons x xs =>
    obtain ⟨h1, h2⟩ := h x (by simp)
    rw [chunksZ_cons]
    unfold chunkN
    split
    · exact ⟨92, _, rfl, by decide, by decide, fun h => (by cases h), fun _ => (by decide)⟩
    · exact ⟨(x : Int), _, rfl, by omega, by omega, fun h => (by cases h), fun _ => (by omega)⟩
theorem rng_chunk (x : Nat) (h1 : 97 ≤ x) (h2 : x ≤ 608) (r : List Int) (hr : ∀ t, nextP 45 r = some t → False) : rngP ((chunkN x).map (fun (r : Nat) => (r : Int)) ++ r) = some ([(x : Int), (x : Int)], r) := by
  have hn : nextP 45 r = none := by
    cases h : nextP 45 r with
    | none => rfl
    | some t => exact (hr t h).elim
  have hm : memP ((chunkN x).map (fun (r : Nat) => (r : Int)) ++ r) = some ([(x : Int), (x : Int)], r) := by
    unfold chunkN
    split
    · rename_i h
      rcases h with rfl | rfl | rfl <;> rfl
    · show memP ((x : Int) :: r) = _
      simp only [memP]
      rw [if_neg (by omega), if_neg (by omega)]
  unfold rngP
  rw [hm]
  simp only
  rw [hn]
theorem cls_chunks : ∀ (xs : List Nat) (k : Nat), xs ≠ [] → InR xs → xs.length ≤ k → clsL k (chunksZ xs ++ [93]) = some (flat (twoZ xs), [])
  | [], _, h, _, _ => absurd rfl h
  | x :: xs, 0, _, _, hk => by simp at hk
  | x :: xs, k + 1, _, h, hk => by
    obtain ⟨h1, h2⟩ := h x (by simp)
    have ht : InR xs := fun y hy => h y (by simp [hy])
    obtain ⟨c, t, e, e1, -, e3, e4⟩ := behind_no ht []
    have hno : ∀ u, nextP 45 (chunksZ xs ++ [93]) = some u → False := fun u hu => by
      rw [e] at hu
      simp only [nextP] at hu
      rw [if_neg e1] at hu
      cases hu
    rw [chunksZ_cons, List.append_assoc, clsL_succ, rng_chunk x h1 h2 _ hno]
    simp only
    cases xs with
    | nil => rfl
    | cons y ys =>
      have hn93 : nextP 93 (chunksZ (y :: ys) ++ [93]) = none := by
        rw [e]
        simp only [nextP]
        rw [if_neg (e4 (by simp))]
      rw [hn93]
      simp only
      rw [cls_chunks (y :: ys) k (by simp) ht (by simp only [List.length_cons] at *; omega)]
      rfl
theorem chunks_len (xs : List Nat) : xs.length ≤ (chunksZ xs).length := by
  induction xs with
  | nil => exact Nat.le_refl _
  | cons x xs ih =>
    rw [chunksZ_cons, List.length_append, List.length_map, List.length_cons]
    have : 1 ≤ (chunkN x).length := by unfold chunkN; split <;> simp
    omega
def clsTxt (no : Bool) (xs : List Nat) : List Int := 91 :: ((if no then [94] else []) ++ (chunksZ xs ++ [93]))
theorem clsP_txt (no : Bool) (xs : List Nat) (h : InR xs) : clsP ((if no then [94] else []) ++ (chunksZ xs ++ [93])) = (if xs = [] then none else some (cleanP (flat (twoZ xs)) no, [])) := by
  obtain ⟨c, t, e, e1, e2, e3, e4⟩ := behind_no h []
  have hcls : clsN no (chunksZ xs ++ [93]) = (if xs = [] then none else some (cleanP (flat (twoZ xs)) no, [])) := by
    unfold clsN
    by_cases hx : xs = []
    · subst hx
      rfl
    · rw [if_neg hx, cls_chunks xs _ hx h (by rw [List.length_append]; have := chunks_len xs; omega)]
  unfold clsP
  cases no with
  | true =>
    show (match nextP 94 (94 :: (chunksZ xs ++ [93])) with
      | some r => clsN true r
      | none => clsN false (94 :: (chunksZ xs ++ [93]))) = _
    rw [show nextP 94 (94 :: (chunksZ xs ++ [93])) = some (chunksZ xs ++ [93]) from rfl]
    exact hcls
  | false =>
    show (match nextP 94 (chunksZ xs ++ [93]) with
      | some r => clsN true r
      | none => clsN false (chunksZ xs ++ [93])) = _
    have hn : nextP 94 (chunksZ xs ++ [93]) = none := by
      rw [e]
      simp only [nextP]
      rw [if_neg e2]
    rw [hn]
    exact hcls
theorem pat_cls (no : Bool) (xs : List Nat) (h : InR xs) : patP (clsTxt no xs) = (if xs = [] then none else some (leaf 2 (cleanP (flat (twoZ xs)) no))) := by
  have hc := clsP_txt no xs h
  have hl : (clsTxt no xs).length = ((if no then [94] else []) ++ (chunksZ xs ++ [93])).length + 1 := rfl
  have hat : ∀ alt, atomP alt (clsTxt no xs) = setF (clsP ((if no then [94] else []) ++ (chunksZ xs ++ [93]))) := fun alt => rfl
  by_cases hx : xs = []
  · rw [if_pos hx] at hc ⊢
    refine pat_bad ?_
    unfold rowP
    rw [hl]
    unfold clsTxt
    rw [row_bad (by decide) (by unfold itemP; rw [show ∀ alt, atomP alt (91 :: ((if no then [94] else []) ++ (chunksZ xs ++ [93]))) = none from fun alt => by rw [show atomP alt (91 :: ((if no then [94] else []) ++ (chunksZ xs ++ [93]))) = setF (clsP ((if no then [94] else []) ++ (chunksZ xs ++ [93]))) from rfl, hc]; rfl])]
  · rw [if_neg hx] at hc ⊢
    refine pat_row ?_
    unfold rowP
    rw [hl]
    have ha : atomP (altN (((if no then [94] else []) ++ (chunksZ xs ++ [93])).length + 1)) (clsTxt no xs) = some (leaf 2 (cleanP (flat (twoZ xs)) no), []) := by rw [hat, hc]; rfl
    unfold clsTxt at ha ⊢
    rw [row_more (by decide) (item_none ha noRep_nil) (row_nil _ _)]
    rfl
theorem two_prs {xs : List Nat} (h : InR xs) : Prs (twoZ xs) := fun p hp => by
  obtain ⟨x, hx, rfl⟩ := List.mem_map.1 hp
  have := h x hx
  simp only
  omega
theorem two_has (xs : List Nat) (r : Int) : hasP (twoZ xs) r = decide (r ∈ xs.map fun (x : Nat) => (x : Int)) := by
  by_cases h : r ∈ xs.map fun (x : Nat) => (x : Int)
  · rw [decide_eq_true h]
    obtain ⟨x, hx, rfl⟩ := List.mem_map.1 h
    exact hasP_iff.2 ⟨((x : Int), (x : Int)), List.mem_map.2 ⟨x, hx, rfl⟩, by simp, by simp⟩
  · rw [decide_eq_false h]
    cases hh : hasP (twoZ xs) r with
    | false => rfl
    | true =>
      obtain ⟨p, hp, h1, h2⟩ := hasP_iff.1 hh
      obtain ⟨x, hx, rfl⟩ := List.mem_map.1 hp
      simp only at h1 h2
      exact absurd (List.mem_map.2 ⟨x, hx, by omega⟩) h
/-- What the two classes' sets have. -/
theorem cls_sets (xs : List Nat) (h : InR xs) (r : Int) : ∃ P P', cleanP (flat (twoZ xs)) false = flat P ∧ cleanP (flat (twoZ xs)) true = flat P' ∧ Canon P ∧ Canon P' ∧ hasP P r = decide (r ∈ xs.map fun (x : Nat) => (x : Int)) ∧
    (0 ≤ r → r ≤ 1114111 → hasP P' r = !decide (r ∈ xs.map fun (x : Nat) => (x : Int))) := by
  obtain ⟨P, e1, c1, h1⟩ := clean_canon (two_prs h) false
  obtain ⟨P', e2, c2, h2⟩ := clean_canon (two_prs h) true
  refine ⟨P, P', e1, e2, c1, c2, ?_, fun r0 r1 => by rw [h2 r r0 r1, two_has, Bool.bne_true]⟩
  by_cases hr : 0 ≤ r ∧ r ≤ 1114111
  · rw [h1 r hr.1 hr.2, two_has, Bool.bne_false]
  · have e3 : decide (r ∈ xs.map fun (x : Nat) => (x : Int)) = false := decide_eq_false fun hm => by
      obtain ⟨x, hx, rfl⟩ := List.mem_map.1 hm
      have := h x hx
      omega
    rw [e3]
    cases hh : hasP P r with
    | false => rfl
    | true =>
      obtain ⟨p, hp, h3, h4⟩ := hasP_iff.1 hh
      have := c1.prs p hp
      omega
def clsS : ByteArray := ⟨#[91]⟩
def clsC : ByteArray := ⟨#[91, 94]⟩
def clsE : ByteArray := ⟨#[93]⟩
theorem cls_vals : (Lib.validD clsS.data.toList = true ∧ runesZ clsS = [91]) ∧ (Lib.validD clsC.data.toList = true ∧ runesZ clsC = [91, 94]) ∧ (Lib.validD clsE.data.toList = true ∧ runesZ clsE = [93]) := by decide +kernel
theorem chunk_scal {xs : List Nat} (h : InR xs) : scalars (xs.flatMap chunkN) := fun r hr => by
  obtain ⟨x, hx, hr⟩ := List.mem_flatMap.1 hr
  have := h x hx
  unfold chunkN at hr
  unfold scalar
  split at hr
  · simp only [List.mem_cons, List.mem_nil_iff, or_false] at hr
    omega
  · simp only [List.mem_cons, List.mem_nil_iff, or_false] at hr
    omega
theorem parse_cls (T S : ByteArray) (no : Bool) (xs : List Nat) (h : InR xs) (hT : Lib.validD T.data.toList = true) (hTr : runesZ T = 91 :: (if no then [94] else [])) (hS : S.data.toList = enc (xs.flatMap chunkN)) (hsz : (T ++ S ++ clsE).size ≤ 128) :
    (xs = [] → parseE (T ++ S ++ clsE) = 40) ∧ (xs ≠ [] → parseE (T ++ S ++ clsE) = 0 ∧ parseL (T ++ S ++ clsE) = [⟨2, [], 0, 0, cleanP (flat (twoZ xs)) no⟩]) := by
  obtain ⟨-, -, v3, r3⟩ := cls_vals
  have hSv : Lib.validD S.data.toList = true := by rw [hS]; exact valid_enc _ (chunk_scal h)
  have hSr : runesZ S = chunksZ xs := by
    unfold runesZ chunksZ
    rw [hS, runes_enc _ (chunk_scal h)]
  have w1 : Lib.validD (T ++ S).data.toList = true := by rw [valid_app _ _ hT]; exact hSv
  have w2 : Lib.validD (T ++ S ++ clsE).data.toList = true := by rw [valid_app _ _ w1]; exact v3
  have hr : runesZ (T ++ S ++ clsE) = clsTxt no xs := by
    rw [runesZ_app _ _ w1, runesZ_app _ _ hT, hTr, hSr, r3]
    unfold clsTxt
    simp
  have hp := pat_cls no xs h
  rw [← hr] at hp
  refine ⟨fun hx => ?_, fun hx => ?_⟩
  · rw [if_pos hx] at hp
    exact parse_none hsz w2 hp
  · rw [if_neg hx] at hp
    obtain ⟨e1, e2⟩ := parse_of hsz w2 hp
    have hd : ¬ 16 < (leaf 2 (cleanP (flat (twoZ xs)) no)).deep := by show ¬ 16 < 0; omega
    have hz : ¬ 1000 < sizeP (leaf 2 (cleanP (flat (twoZ xs)) no)).nodes := by
      show ¬ 1000 < (1 : Int)
      decide
    rw [if_neg hd, if_neg hz] at e1
    exact ⟨e1, e2 e1⟩
end Go.Proofs.YthmhmckkkceclaaDoor
/-
  The law's rising.
-/
namespace Go.Proofs.YthmhmckkkceclaaDoor
open Go.RowKit
theorem flat_at : ∀ (P : List Pr) (k : Nat) (h : k < P.length), (flat P)[2 * k]? = some P[k].1 ∧ (flat P)[2 * k + 1]? = some P[k].2
  | p :: P, 0, _ => ⟨rfl, rfl⟩
  | p :: P, k + 1, h => by
    have ih := flat_at P k (by simpa using h)
    have e : ∀ j, (flat (p :: P))[j + 2]? = (flat P)[j]? := fun j => rfl
    rw [show 2 * (k + 1) = 2 * k + 2 by omega, show 2 * k + 2 + 1 = (2 * k + 1) + 2 by omega, e, e]
    exact ih
theorem canon_at {P : List Pr} (h : Canon P) (i : Nat) (hi : i < (flat P).length) : 0 ≤ (flat P)[i] ∧ (flat P)[i] ≤ 1114111 ∧
    (i % 2 = 1 → ∃ y, (flat P)[i - 1]? = some y ∧ y ≤ (flat P)[i]) ∧ (i % 2 = 0 → 0 < i → ∃ y, (flat P)[i - 1]? = some y ∧ 0 ≤ y ∧ y ≤ 1114111 ∧ y + 1 < (flat P)[i]) := by
  have hl := flat_length P
  rcases Nat.mod_two_eq_zero_or_one i with h0 | h1
  · obtain ⟨k, rfl⟩ : ∃ k, i = 2 * k := ⟨i / 2, by omega⟩
    have hk : k < P.length := by omega
    have e : (flat P)[2 * k] = P[k].1 := by
      have := (flat_at P k hk).1
      rw [List.getElem?_eq_getElem hi] at this
      exact Option.some.inj this
    have hp := h.prs P[k] (List.getElem_mem hk)
    rw [e]
    refine ⟨hp.1, by omega, fun h => by omega, fun _ hpos => ?_⟩
    obtain ⟨j, rfl⟩ : ∃ j, k = j + 1 := ⟨k - 1, by omega⟩
    have hj : j < P.length := by omega
    have hpj := h.prs P[j] (List.getElem_mem hj)
    refine ⟨P[j].2, by rw [show 2 * (j + 1) - 1 = 2 * j + 1 by omega]; exact (flat_at P j hj).2, by omega, hpj.2.2, ?_⟩
    exact List.pairwise_iff_getElem.1 h.gap j (j + 1) hj hk (by omega)
  · obtain ⟨k, rfl⟩ : ∃ k, i = 2 * k + 1 := ⟨i / 2, by omega⟩
    have hk : k < P.length := by omega
    have e : (flat P)[2 * k + 1] = P[k].2 := by
      have := (flat_at P k hk).2
      rw [List.getElem?_eq_getElem hi] at this
      exact Option.some.inj this
    have hp := h.prs P[k] (List.getElem_mem hk)
    rw [e]
    exact ⟨by omega, hp.2.2, fun _ => ⟨P[k].1, by rw [show 2 * k + 1 - 1 = 2 * k by omega]; exact (flat_at P k hk).1, hp.2.1⟩, fun h => by omega⟩
set_option maxRecDepth 100000 in
set_option maxHeartbeats 20000000 in
theorem law_rising (P : List Pr) (hP : Canon P) (v : Value) (w : World) (h : argRow w v (flat P).length 1 ((flat P).map rCell)) (hl : (flat P).length ≤ 100000) :
    Calls Tryd.prog 14 #[v] w fun e w' => e = .returned (.bool true) ∧ Below w.heap.size w w' := by
  obtain ⟨a, c, rfl, hcm, hcs⟩ := rn_at h
  have HC := Lib.hid hcs
  have HA := Lib.hid (fun i hi => canon_at hP i hi)
  have hlen := flat_length P
  obtain ⟨L, hL⟩ : ∃ L, flat P = L := ⟨_, rfl⟩
  rw [hL] at HC HA hlen hl ⊢
  obtain ⟨n, hn⟩ : ∃ n, L.length = n := ⟨_, rfl⟩
  rw [hn] at hlen hl ⊢
  have HN := Lib.hid hn
  have hev : n % 2 = 0 := by omega
  unfold maxLen at hcm
  clear hcs h hP hL hn hlen
  go_enter Tryd.func14, Tryd.ntmps14
  go_wp2_with fail
  go_loopw [3] (fun iv wr => ∃ i : Nat, iv = .int .i64 (i : Int) ∧ i ≤ n ∧ Below w.heap.size w wr) (fun iv _ => n - (intOf iv).toNat)
  case atStart => exact ⟨0, rfl, by omega, Below.refl _ _⟩
  case round =>
    obtain ⟨i, rfl, hi, hbr⟩ := hrel
    by_cases hlt : i < n
    · have hil : i < L.length := by rw [HN.out]; exact hlt
      obtain ⟨x0, x1, hodd, heven⟩ := HA.out i hil
      obtain ⟨b, off, rfl, hcell⟩ := HC.out i hil
      have c0 := hcell wr hbr i hil
      have HCE := Lib.hid (fun (j : Nat) (y : Int) (hy : L[j]? = some y) => (by
        obtain ⟨hj, e⟩ := List.getElem?_eq_some_iff.1 hy
        have := hcell wr hbr j hj
        rw [e] at this
        exact this : wr.cell? ⟨b, off + j, none⟩ = some (.int .i32 y)))
      obtain ⟨x, hx⟩ : ∃ x, L[i] = x := ⟨_, rfl⟩
      rw [hx] at x0 x1 hodd heven c0
      have i0 : (0 : Int) ≤ (i : Int) := by omega
      have i1 : (i : Int) < (n : Int) := by omega
      have g5 : decide (x < 0) = false := decide_eq_false (by omega)
      have g6 : decide (1114111 < x) = false := decide_eq_false (by omega)
      clear hcell hx hil
      go_upto_region 4 with fail
      go_cut [60] from 10 to 60 (fun vv wx => vv = .bool false ∧ Below wr.heap.size wr wx)
      case first =>
        obtain ⟨z, hz⟩ : ∃ z : Int, (i : Int) = z := ⟨_, rfl⟩
        have zt : z.toNat = i := by omega
        have HZ := Lib.hid hz
        rw [hz] at i0 i1 ⊢
        rcases Nat.mod_two_eq_zero_or_one i with h0 | h1
        · have m1 : Int.tmod z 2 = 0 := by rw [Int.tmod_eq_emod_of_nonneg i0]; omega
          by_cases hzz : z = 0
          · have hd : decide ((0 : Int) < z) = false := decide_eq_false (by omega)
            clear heven hodd hzz h0 hz hi hlt
            go_quiet (fail)
            go_wp2_with fail
            have hz9 := HZ.out
            subst hz9
            go_meet
            exact ⟨rfl, below_dN (Below.refl _ _) _⟩
          · obtain ⟨y, hy, y0, y1, y2⟩ := heven h0 (by omega)
            have hd : decide ((0 : Int) < z) = true := decide_eq_true (by omega)
            have c1 := HCE.out (i - 1) y hy
            have w1 : IntKind.i64.wrap (z - 1) = z - 1 := IntWalk.i64_in _ (by omega)
            have w2 : (z - 1).toNat = i - 1 := by omega
            have w3 : (0 : Int) ≤ z - 1 := by omega
            have w4 : z - 1 < (n : Int) := by omega
            have w5 : IntKind.i32.wrap (y + 1) = y + 1 := by rw [IntKind.wrap_i32]; omega
            have w6 : decide (x ≤ y + 1) = false := decide_eq_false (by omega)
            clear heven hodd hzz h0 hy hz hi hlt
            go_quiet (fail)
            go_wp2_with fail
            have hz9 := HZ.out
            subst hz9
            go_meet
            exact ⟨rfl, below_dN (Below.refl _ _) _⟩
        · have m1 : Int.tmod z 2 = 1 := by rw [Int.tmod_eq_emod_of_nonneg i0]; omega
          obtain ⟨y, hy, y0⟩ := hodd h1
          have c1 := HCE.out (i - 1) y hy
          have w1 : IntKind.i64.wrap (z - 1) = z - 1 := IntWalk.i64_in _ (by omega)
          have w2 : (z - 1).toNat = i - 1 := by omega
          have w3 : (0 : Int) ≤ z - 1 := by omega
          have w4 : z - 1 < (n : Int) := by omega
          have w6 : decide (x < y) = false := decide_eq_false (by omega)
          clear heven hodd h1 hy hz hi hlt
          go_quiet (fail)
          go_wp2_with fail
          have hz9 := HZ.out
          subst hz9
          go_meet
          exact ⟨rfl, below_dN (Below.refl _ _) _⟩
      case rest =>
        obtain ⟨rfl, hbc⟩ := hcut
        clear heven hodd c0
        go_wp2_with fail
        go_roundw
        case rel => exact ⟨i + 1, by go_num, by omega, hbr.trans (hbc.mono hbr.size)⟩
        case measure => simp [intOf]; omega
    · have hie : i = n := by omega
      have m1 : Int.tmod (n : Int) 2 = 0 := by rw [Int.tmod_eq_emod_of_nonneg (by omega)]; omega
      subst hie
      clear hev
      go_wp2_with fail
      go_ret
      exact ⟨rfl, hbr⟩
end Go.Proofs.YthmhmckkkceclaaDoor
/-
  RexpSets' walk.
-/
namespace Go.Proofs.YthmhmckkkceclaaDoor
open Go.RowKit
theorem and511 (y : Int) : ∃ k : Nat, k ≤ 511 ∧ bits BinOp.and IntKind.i32 y 511 = (k : Int) := by
  refine ⟨(BitVec.ofInt 32 y &&& BitVec.ofInt 32 511).toNat, ?_, ?_⟩
  · rw [BitVec.toNat_and]
    exact Nat.and_le_right
  · have h : (BitVec.ofInt 32 y &&& BitVec.ofInt 32 511).toNat ≤ 511 := by
      rw [BitVec.toNat_and]
      exact Nat.and_le_right
    show IntKind.i32.wrap (((BitVec.ofInt 32 y &&& BitVec.ofInt 32 511).toNat : Nat) : Int) = _
    rw [IntKind.wrap_i32]
    omega
theorem encR_small {x : Nat} (h : x < 128) : (encR x).length = 1 := by
  have := encR_ascii (UInt8.ofNat x) (by show x % 256 < 128; omega)
  rw [show (UInt8.ofNat x).toNat = x from by show x % 256 = x; omega] at this
  rw [this]
  rfl
theorem encR_two {x : Nat} (h1 : 97 ≤ x) (h2 : x ≤ 608) : 1 ≤ (encR x).length ∧ (encR x).length ≤ 2 := by
  have h := List.all_eq_true.1 (show ((List.range 609).all fun x => decide ((encR x).length ≤ 2)) = true by decide +kernel) x (List.mem_range.2 (by omega))
  exact ⟨(encR_len x).1, of_decide_eq_true h⟩
theorem ext_pre (S E : ByteArray) : ((S ++ E).extract 0 S.size).data.toList = S.data.toList := by
  have h : S.size = S.data.toList.length := Array.length_toList.symm
  simp
  rw [h, List.take_length]
/-- A class's tree: one node with a set. -/
theorem par_one (x : ByteArray) (st : List Int) (W : World) (hE : parseE x = 0) (hL : parseL x = [⟨2, [], 0, 0, st⟩]) (hT : Tabs W) (hx : x.size ≤ maxLen) :
    Calls Tryd.prog 9 #[.string x] W fun e w' => ∃ g c sv, e = .returned (.tuple #[.slice (some ⟨g, 0, none⟩) 1 c, .int .i64 0]) ∧ (∀ W', Below w'.heap.size w' W' → W'.cell? ⟨g, 4, none⟩ = some sv) ∧
      (∀ W', Below w'.heap.size w' W' → argRow W' sv st.length 1 (st.map rCell)) ∧ Below W.heap.size W w' := by
  refine (par_at x 0 _ W hE hL hT hx).mono ?_
  rintro e w' ⟨v, Z, rfl, hn, hl, hb⟩
  obtain ⟨z, rfl, hz⟩ := List.map_eq_singleton_iff.1 hl
  obtain ⟨g, c, rfl, hat⟩ := nds_at hn (k := 0) (by simp)
  have hp := argRow_owns (hn.parts z (by simp)).2
  rw [hz] at hp
  exact ⟨g, c, z.2.2, rfl, fun W' hW => (hat W' hW).2.2.2.2, fun W' hW => argRow_below hp hW, hb⟩
structure RisAns (W : World) (v : Value) : Prop where
  out : Calls Tryd.prog 14 #[v] W fun e w' => e = .returned (.bool true) ∧ Below W.heap.size W w'
/-- What the reference's Has answers at a set. -/
structure HasAns (r : Int) (W : World) (v : Value) (b : Bool) : Prop where
  out : Calls Tryd.prog 13 #[v, .int .i32 r] W fun e w' => e = .returned (.bool b) ∧ W = w'
set_option maxRecDepth 100000 in
set_option maxHeartbeats 40000000 in
theorem sets_walk (v : Value) (R : List Int) (r : Int) (w : World) (hT : Tabs w) (hrow : argRow w v R.length 1 (R.map rCell)) (hR : ∀ x ∈ R, -2147483648 ≤ x ∧ x ≤ 2147483647) (hr : -2147483648 ≤ r ∧ r ≤ 2147483647) : Calls Tryd.prog 5 #[v, .int .i32 r] w fun e w' => e = .returned (.bool true) ∧ Below w.heap.size w w' := by
  have cA := law18_awake w hT
  obtain ⟨ra, rc, rfl, hcm, hcs⟩ := rn_at hrow
  have HC := Lib.hid hcs
  have HT := Lib.hid hT
  have HR := Lib.hid hR
  obtain ⟨n, hn⟩ : ∃ n, R.length = n := ⟨_, rfl⟩
  have HN := Lib.hid hn
  rw [hn]
  unfold maxLen at hcm
  obtain ⟨r0, r1⟩ := hr
  clear hT hcs hrow hR hn
  go_enter Tryd.func5, Tryd.ntmps5
  go_upto_region 3 with (go_at_call 8; refine cA.mono ?_; rintro e w1 ⟨rfl, hb1⟩)
  clear cA
  have HB1 := Lib.hid hb1
  clear hb1
  go_upto_region 6 with fail
  go_loopw [5, 6, 7, 8] (fun sv hv iv _ wr => Below w.heap.size w wr ∧ ∃ (xs : List Nat) (S : ByteArray) (i : Nat), iv = .int .i64 (i : Int) ∧ i ≤ n ∧ i ≤ 20 ∧ xs.length = i ∧ InR xs ∧ sv = .string S ∧ S.data.toList = enc (xs.flatMap chunkN) ∧ S.size ≤ 2 * i ∧ hv = .bool (decide (r ∈ xs.map fun (x : Nat) => (x : Int)))) (fun _ _ iv _ _ => n - (intOf iv).toNat)
  case atStart => exact ⟨HB1.out, [], ⟨#[]⟩, 0, rfl, by omega, by omega, rfl, fun x hx => (by cases hx), rfl, rfl, by decide, rfl⟩
  case round =>
    obtain ⟨hbr, xs, S, i, rfl, hi, hi2, hxl, hin, rfl, hS, hSs, rfl⟩ := hrel
    have HXL := Lib.hid hxl
    have HIN := Lib.hid hin
    have HS := Lib.hid hS
    obtain ⟨has, hhas⟩ : ∃ b, decide (r ∈ xs.map fun (x : Nat) => (x : Int)) = b := ⟨_, rfl⟩
    rw [hhas]
    have HH := Lib.hid hhas
    clear hxl hin hS hhas
    by_cases hlt : i < n ∧ i < 20
    · obtain ⟨hlt1, hlt2⟩ := hlt
      have hil : i < R.length := by rw [HN.out]; exact hlt1
      obtain ⟨b, off, rfl, hcell⟩ := HC.out i hil
      have c0 := hcell wr hbr i hil
      have hrx := HR.out R[i] (List.getElem_mem hil)
      obtain ⟨y, hy⟩ : ∃ x, R[i] = x := ⟨_, rfl⟩
      rw [hy] at c0 hrx
      obtain ⟨y0, y1⟩ := hrx
      have d1 : decide ((i : Int) < (n : Int)) = true := decide_eq_true (by omega)
      have d2 : decide ((i : Int) < 20) = true := decide_eq_true (by omega)
      have i0 : (0 : Int) ≤ (i : Int) := by omega
      have i1 : (i : Int) < (n : Int) := by omega
      clear hcell hy hil
      go_upto_region 9 with fail
      obtain ⟨k, hk, hke⟩ := and511 y
      rw [hke]
      obtain ⟨X, hX⟩ : ∃ X : Nat, 97 + k = X := ⟨_, rfl⟩
      have hX1 : 97 ≤ X := by omega
      have hX2 : X ≤ 608 := by omega
      rw [show wrap32 (97 + (k : Int)) = ((X : Nat) : Int) by unfold wrap32; omega]
      obtain ⟨z, hz⟩ : ∃ z : Int, ((X : Nat) : Int) = z := ⟨_, rfl⟩
      have hE := utf8_encodeX X (by unfold scalar; omega)
      rw [hz] at hE ⊢
      obtain ⟨E, hEE⟩ : ∃ E, Utf8.encode z = E := ⟨_, rfl⟩
      have hEl : E.data.toList = encR X := by rw [← hEE, hE]
      have hEs : E.size = (encR X).length := by rw [← hEl]; exact Array.length_toList.symm
      have hE2 : E.size ≤ 2 := by rw [hEs]; exact (encR_two hX1 hX2).2
      have hEz : (Utf8.encode z).size ≤ 2 := by rw [hEE]; exact hE2
      have HZ := Lib.hid hz
      have HEE := Lib.hid hEE
      have HEL := Lib.hid hEl
      have HES := Lib.hid hEs
      have HNX := Lib.hid (show InR (xs ++ [X]) from fun x hx => by
        rcases List.mem_append.1 hx with hx | hx
        · exact HIN.out x hx
        · rw [List.mem_singleton.1 hx]
          exact ⟨hX1, hX2⟩)
      have HHX := Lib.hid (show (has || (z == r)) = decide (r ∈ (xs ++ [X]).map fun (x : Nat) => (x : Int)) from by
        rw [← HH.out]
        by_cases h1 : r ∈ xs.map fun (x : Nat) => (x : Int)
        · rw [decide_eq_true h1, decide_eq_true (by rw [List.map_append]; exact List.mem_append_left _ h1)]
          rfl
        · rw [decide_eq_false h1, Bool.false_or]
          by_cases h2 : z = r
          · rw [decide_eq_true (by rw [List.map_append]; exact List.mem_append_right _ (by rw [← h2, ← hz]; simp))]
            simpa using h2
          · rw [decide_eq_false (by
              rw [List.map_append]
              intro hm
              rcases List.mem_append.1 hm with hm | hm
              · exact h1 hm
              · apply h2
                have h3 := List.mem_singleton.1 (show r ∈ [((X : Nat) : Int)] from hm)
                rw [← hz, h3])]
            simpa using h2)
      clear hk hke hX hE hEE hEl hEs hz c0 y0 y1 d1 d2
      by_cases hsp : X = 123 ∨ X = 124 ∨ X = 125
      · have hE1 : E.size = 1 := by rw [HES.out]; exact encR_small (by omega)
        have hE1' : 1 ≤ E.size ∧ E.size ≤ 1 := by omega
        have hb : z = 123 ∨ z = 124 ∨ z = 125 := by rw [← HZ.out]; omega
        clear hE1 hX1 hX2 hE2
        obtain ⟨e1, e2⟩ := hE1'
        have g0 : (z == 123 || z == 124 || z == 125) = true := by
          rcases hb with h | h | h <;> rw [h] <;> rfl
        have HG := Lib.hid hb
        clear hb
        go_upto_region 10 with fail
        rw [HEE.out]
        go_cut [44] from 35 to 44 (fun vv wx => vv = .bool true ∧ wx = wr)
        case first =>
          rcases HG.out with h | h | h
          · have g1 : (z == 123) = true := by rw [h]; rfl
            clear h g0
            go_wp2_with fail
            go_meet
            exact ⟨rfl, rfl⟩
          · have g1 : (z == 123) = false := by rw [h]; rfl
            have g2 : (z == 124) = true := by rw [h]; rfl
            clear h g0
            go_wp2_with fail
            go_meet
            exact ⟨rfl, rfl⟩
          · have g1 : (z == 123) = false := by rw [h]; rfl
            have g2 : (z == 124) = false := by rw [h]; rfl
            have g3 : (z == 125) = true := by rw [h]; rfl
            clear h g0
            go_wp2_with fail
            go_meet
            exact ⟨rfl, rfl⟩
        case rest =>
          obtain ⟨rfl, rfl⟩ := hcut
          clear g0
          obtain ⟨U, hU⟩ : ∃ U, S ++ E = U := ⟨_, rfl⟩
          have hUs : U.size = S.size + E.size := by rw [← hU]; exact ByteArray.size_append
          have HU := Lib.hid hU
          obtain ⟨u, hu⟩ : ∃ u : Nat, U.size = u := ⟨_, rfl⟩
          have u0 : S.size + 1 = u := by omega
          have HUU := Lib.hid hu
          have HU0 := Lib.hid u0
          have u1 : u ≤ 41 := by omega
          have u2 : 1 ≤ u := by omega
          have w1 : IntKind.i64.wrap ((u : Int) - 1) = (u : Int) - 1 := IntWalk.i64_in _ (by omega)
          have w2 : ((u : Int) - 1).toNat = u - 1 := by omega
          have w3 : (0 : Int) ≤ (u : Int) - 1 := by omega
          have w4 : (u : Int) - 1 ≤ (u : Int) := by omega
          rw [hU]
          clear hU hUs u0
          go_upto_region 12 with fail
          rw [HEE.out]
          obtain ⟨T, hT2⟩ : ∃ T, U.extract 0 (u - 1) ++ ⟨#[92]⟩ ++ E = T := ⟨_, rfl⟩
          rw [hT2]
          have hTl : T.data.toList = enc ((xs ++ [X]).flatMap chunkN) := by
            rw [← hT2, app_listR, app_listR, ← HU.out, show u - 1 = S.size by have := HU0.out; omega, ext_pre, HS.out, HEL.out, List.flatMap_append, enc_append, List.append_assoc]
            congr 1
            show [92] ++ encR X = enc (chunkN X ++ [])
            unfold chunkN
            rw [if_pos hsp, List.append_nil, enc_cons, enc_cons, enc_nil, List.append_nil]
            rfl
          have hTs : T.size ≤ 2 * (i + 1) := by
            have q1 : (U.extract 0 (u - 1)).size = S.size := by
              rw [← HU.out, show u - 1 = S.size by have := HU0.out; omega]
              have := congrArg List.length (ext_pre S E)
              rw [Array.length_toList, Array.length_toList] at this
              exact this
            rw [← hT2, ByteArray.size_append, ByteArray.size_append, q1]
            show S.size + 1 + E.size ≤ _
            omega
          have HNEW := Lib.hid hTl
          clear hT2 hTl w1 w2 w3 w4 u1 u2
          cases has with
          | true =>
            go_wp2_with fail
            go_roundw
            case rel => exact ⟨hbr, xs ++ [X], T, i + 1, by go_num, by omega, by omega, by rw [List.length_append, HXL.out]; rfl, HNX.out, rfl, HNEW.out, by omega, congrArg Value.bool HHX.out⟩
            case measure => simp [intOf]; omega
          | false =>
            go_wp2_with fail
            go_roundw
            case rel => exact ⟨hbr, xs ++ [X], T, i + 1, by go_num, by omega, by omega, by rw [List.length_append, HXL.out]; rfl, HNX.out, rfl, HNEW.out, by omega, congrArg Value.bool (by have := HHX.out; rw [Bool.false_or] at this; exact this)⟩
            case measure => simp [intOf]; omega
      · have hb : z ≠ 123 ∧ z ≠ 124 ∧ z ≠ 125 := by rw [← HZ.out]; omega
        have g1 : (z == 123) = false := by simpa using hb.1
        have g2 : (z == 124) = false := by simpa using hb.2.1
        have g3 : (z == 125) = false := by simpa using hb.2.2
        clear hb hX1 hX2
        go_upto_region 12 with fail
        rw [HEE.out]
        obtain ⟨T, hT2⟩ : ∃ T, S ++ E = T := ⟨_, rfl⟩
        rw [hT2]
        have hnew : T.data.toList = enc ((xs ++ [X]).flatMap chunkN) := by
          rw [← hT2, app_listR, HS.out, HEL.out, List.flatMap_append, enc_append]
          congr 1
          show encR X = enc (chunkN X ++ [])
          unfold chunkN
          rw [if_neg hsp, List.append_nil, enc_cons, enc_nil, List.append_nil]
        have hTs : T.size ≤ 2 * (i + 1) := by
          rw [← hT2, ByteArray.size_append]
          omega
        have HNEW := Lib.hid hnew
        clear hT2 hnew
        cases has with
        | true =>
          go_wp2_with fail
          go_roundw
          case rel => exact ⟨hbr, xs ++ [X], T, i + 1, by go_num, by omega, by omega, by rw [List.length_append, HXL.out]; rfl, HNX.out, rfl, HNEW.out, by omega, congrArg Value.bool HHX.out⟩
          case measure => simp [intOf]; omega
        | false =>
          go_wp2_with fail
          go_roundw
          case rel => exact ⟨hbr, xs ++ [X], T, i + 1, by go_num, by omega, by omega, by rw [List.length_append, HXL.out]; rfl, HNX.out, rfl, HNEW.out, by omega, congrArg Value.bool (by have := HHX.out; rw [Bool.false_or] at this; exact this)⟩
          case measure => simp [intOf]; omega
    · have hns : S.size ≤ 40 := by omega
      have HLT := Lib.hid hlt
      go_upto_region 6 with fail
      go_cut [22] from 15 to 22 (fun vv wx => vv = .bool false ∧ wx = wr)
      case first =>
        by_cases h1 : i < n
        · have h2 : ¬ i < 20 := fun h => hlt ⟨h1, h⟩
          clear hlt
          go_wp2_with fail
          go_meet
          exact ⟨congrArg Value.bool (decide_eq_false (by omega)), rfl⟩
        · clear hlt
          go_wp2_with fail
          go_meet
          exact ⟨rfl, rfl⟩
      case rest =>
        obtain ⟨rfl, rfl⟩ := hcut
        have sz : ∀ T : ByteArray, T.size ≤ 2 → (T ++ S ++ clsE).size ≤ 128 := fun T h => by
          rw [ByteArray.size_append, ByteArray.size_append]
          show _ + 1 ≤ 128
          omega
        have sz1 : (clsS ++ S ++ clsE).size ≤ 128 := sz _ (by decide)
        have sz2 : (clsC ++ S ++ clsE).size ≤ 128 := sz _ (by decide)
        obtain ⟨⟨v1, e1⟩, ⟨v2, e2⟩, -⟩ := cls_vals
        obtain ⟨p1, q1⟩ := parse_cls clsS S false xs HIN.out v1 e1 HS.out sz1
        obtain ⟨p2, q2⟩ := parse_cls clsC S true xs HIN.out v2 e2 HS.out sz2
        have hb : Below w.heap.size w wc := hbr
        have HBW := Lib.hid hb
        clear sz v1 v2 e1 e2 hb hbr
        by_cases hn0 : n = 0
        · have hx : xs = [] := List.length_eq_zero_iff.1 (by have := HXL.out; omega)
          have hE1 := p1 hx
          have hE2 := p2 hx
          have C1 := Lib.hid (fun W (hW : Below w.heap.size w W) => par_at _ 40 _ W hE1 rfl (Utf8Tabs_below HT.out hW) (by unfold maxLen; omega))
          have C2 := Lib.hid (fun W (hW : Below w.heap.size w W) => par_at _ 40 _ W hE2 rfl (Utf8Tabs_below HT.out hW) (by unfold maxLen; omega))
          generalize parseL (clsS ++ S ++ clsE) = L1 at *
          generalize parseL (clsC ++ S ++ clsE) = L2 at *
          have g0 : ((n : Int) == 0) = true := by rw [hn0]; rfl
          unfold clsS clsE at C1
          unfold clsC clsE at C2
          have D1 := C1.out wc HBW.out
          clear p1 q1 p2 q2 hE1 hE2 hx hn0 sz1 sz2
          go_upto_region 14 with (go_at_call 9; refine D1.mono ?_; rintro e w2 ⟨v1, Z1, rfl, hnx, hlx, hbx⟩; clear hnx hlx; have H2 := Lib.hid hbx; clear hbx)
          have HB2 := Lib.hid (HBW.out.trans (H2.out.mono HBW.out.size))
          have D2 := C2.out w2 HB2.out
          clear D1
          go_upto_region 15 with (go_at_call 9; refine D2.mono ?_; rintro e w3 ⟨v2, Z2, rfl, hnx, hlx, hbx⟩; clear hnx hlx; have H3 := Lib.hid hbx; clear hbx)
          have HB3 := Lib.hid (HB2.out.trans (H3.out.mono HB2.out.size))
          clear D2
          go_wp2_with fail
          go_ret
          exact ⟨rfl, HB3.out⟩
        · have hx : xs ≠ [] := fun h => by
            have h1 := HXL.out
            have h2 := HLT.out
            rw [h] at h1
            simp only [List.length_nil] at h1
            omega
          have hxl := HXL.out
          obtain ⟨P, P', k1, k2, c1, c2, h1, h2⟩ := cls_sets xs HIN.out r
          obtain ⟨hE1, hL1⟩ := q1 hx
          obtain ⟨hE2, hL2⟩ := q2 hx
          have l1 : (flat P).length ≤ 100000 := by
            have := cleanP_len (twoZ xs) false
            rw [k1] at this
            unfold twoZ at this
            rw [List.length_map] at this
            omega
          have l2 : (flat P').length ≤ 100000 := by
            have := cleanP_len (twoZ xs) true
            rw [k2] at this
            unfold twoZ at this
            rw [List.length_map] at this
            omega
          rw [k1] at hL1
          rw [k2] at hL2
          rw [HH.out] at h1 h2
          have C1 := Lib.hid (fun W (hW : Below w.heap.size w W) => par_one _ _ W hE1 hL1 (Utf8Tabs_below HT.out hW) (by unfold maxLen; omega))
          have C2 := Lib.hid (fun W (hW : Below w.heap.size w W) => par_one _ _ W hE2 hL2 (Utf8Tabs_below HT.out hW) (by unfold maxLen; omega))
          have R1 := Lib.hid (fun W v (h : argRow W v (flat P).length 1 ((flat P).map rCell)) => RisAns.mk (law_rising P c1 v W h l1))
          have R2 := Lib.hid (fun W v (h : argRow W v (flat P').length 1 ((flat P').map rCell)) => RisAns.mk (law_rising P' c2 v W h l2))
          have A1 := Lib.hid (fun W v (h : argRow W v (flat P).length 1 ((flat P).map rCell)) => (by
            have q := ref_Has (flat P) r v W h l1
            rw [has_flat, h1] at q
            exact ⟨q⟩ : HasAns r W v has))
          have A2 := Lib.hid (fun (q0 : 0 ≤ r) (q1 : r ≤ 1114111) W v (h : argRow W v (flat P').length 1 ((flat P').map rCell)) => (by
            have q := ref_Has (flat P') r v W h l2
            rw [has_flat, h2 q0 q1] at q
            exact ⟨q⟩ : HasAns r W v (!has)))
          have g0 : ((n : Int) == 0) = false := by
            rw [beq_eq_false_iff_ne]
            omega
          unfold clsS clsE at C1
          unfold clsC clsE at C2
          have D1 := C1.out wc HBW.out
          clear p1 q1 p2 q2 hE1 hE2 hx hn0 sz1 sz2 hxl l1 l2 hL1 hL2 k1 k2 c1 c2 h1 h2
          go_upto_region 14 with (go_at_call 9; refine D1.mono ?_; rintro e w2 ⟨ga, ca, sa, rfl, hnx, hlx, hbx⟩; have H2 := Lib.hid (And.intro hnx (And.intro hlx hbx)); clear hnx hlx hbx)
          have HB2 := Lib.hid (HBW.out.trans (H2.out.2.2.mono HBW.out.size))
          have D2 := C2.out w2 HB2.out
          clear D1
          go_upto_region 15 with (go_at_call 9; refine D2.mono ?_; rintro e w3 ⟨gb, cb, sb, rfl, hnx, hlx, hbx⟩; have H3 := Lib.hid (And.intro hnx (And.intro hlx hbx)); clear hnx hlx hbx)
          have HB3 := Lib.hid (HB2.out.trans (H3.out.2.2.mono HB2.out.size))
          clear D2
          go_upto_region 19 with fail
          have hk3 := H3.out.2.2
          have cl1 := H2.out.1 w3 hk3
          have cl2 := H3.out.1 w3 (Below.refl _ _)
          have F1 := A1.out w3 sa (H2.out.2.1 w3 hk3)
          have F2 := Lib.hid (fun q0 q1 => A2.out q0 q1 w3 sb (H3.out.2.1 w3 (Below.refl _ _)))
          have CL2 := Lib.hid cl2
          clear hk3 cl2 r0 r1
          cases has
          all_goals
            go_cut [130] from 105 to 130 (fun vv wx => vv = .bool false ∧ wx = w3)
            case' first =>
              by_cases y1 : 0 ≤ r
              · by_cases y2 : r ≤ 1114111
                · have F3 := F2.out y1 y2
                  have cl2 := CL2.out
                  have d1 : decide (0 ≤ r) = true := decide_eq_true y1
                  have d2 : decide (r ≤ 1114111) = true := decide_eq_true y2
                  clear y1 y2
                  go_wp2_with (go_at_call 13; refine (HasAns.out (by assumption)).mono ?_; rintro e w15 ⟨rfl, rfl⟩)
                  go_meet
                  exact ⟨rfl, rfl⟩
                · have d1 : decide (0 ≤ r) = true := decide_eq_true y1
                  have d2 : decide (r ≤ 1114111) = false := decide_eq_false y2
                  clear y1 y2
                  go_wp2_with (go_at_call 13; refine (HasAns.out (by assumption)).mono ?_; rintro e w15 ⟨rfl, rfl⟩)
                  go_meet
                  exact ⟨rfl, rfl⟩
              · have d1 : decide (0 ≤ r) = false := decide_eq_false y1
                clear y1
                go_wp2_with (go_at_call 13; refine (HasAns.out (by assumption)).mono ?_; rintro e w15 ⟨rfl, rfl⟩)
                go_meet
                exact ⟨rfl, rfl⟩
            obtain ⟨rfl, rfl⟩ := hcut
            have cl2 := CL2.out
            have G1 := R1.out wc sa (H2.out.2.1 wc H3.out.2.2)
            have G2 := Lib.hid (fun W (hW : Below wc.heap.size wc W) => R2.out W sb (H3.out.2.1 W hW))
            have CL3 := Lib.hid (fun W (hW : Below wc.heap.size wc W) => H3.out.1 W hW)
            clear F1 cl2
            go_wp2_with (go_at_call 14; refine (RisAns.out (by assumption)).mono ?_; rintro e w15 ⟨rfl, hb15⟩; (first | (have HBX := Lib.hid (HB3.out.trans (hb15.mono HB3.out.size)); have cl2 := CL3.out w15 hb15; have G3 := G2.out w15 hb15) | (have HBY := Lib.hid (HBX.out.trans (hb15.mono HBX.out.size)))))
            go_ret
            exact ⟨rfl, HBY.out⟩
end Go.Proofs.YthmhmckkkceclaaDoor
