/-
  A push that the law makes of records, plainly: it is read as they are.
-/
import Derived.Test.YtljnbbdhmlfhjaaGreatDoorWirR
import Derived.Test.YtljnbbdhmlfhjaaGreatDoorWirTri
namespace Go.Proofs.YtljnbbdhmlfhjaaGreatDoor
open Go.RowKit
def bodyR (r : Rec) : J := .obj [(kTime, .num (Lib.itoa r.time)), (kLabels, .obj (r.labs.map memOf)), (kLine, .str (bsOf r.line))]
def bodyJ (l : List Rec) : J := underJ kRecords (l.map bodyR)
def noSeq (r : Rec) : Rec := ⟨r.time, 0, r.labs, r.line⟩
theorem toB_of (x : ByteArray) : toB (bsOf x) = x := by
  apply ByteArray.ext
  simp [toB, bsOf]
theorem labsM_of : ∀ L : List Lab, labsM (L.map memOf) = some L
  | [] => rfl
  | x :: L => by
    simp only [List.map_cons, memOf, labsM, textJ]
    have := labsM_of L
    rw [this]
    simp only [toB_of]
theorem int_itoa (n : Int) (h0 : -9223372036854775808 ≤ n) (h1 : n ≤ 9223372036854775807) : intJ (.num (Lib.itoa n)) = (n, true) := by
  show (if numN (Lib.itoa n) = (Lib.itoa n).length then _ else _) = _
  rw [if_pos (num_len (itoa_num n)), int_back n h0 h1]
theorem one_body (r : Rec) (h0 : -9223372036854775808 ≤ r.time) (h1 : r.time ≤ 9223372036854775807) : oneJ (bodyR r) = some (noSeq r) := by
  have k1 : ¬ kLabels = kTime := by decide
  have k2 : ¬ kLine = kTime := by decide
  have k3 : ¬ kTime = kLine := by decide
  have k4 : ¬ kLabels = kLine := by decide
  have k5 : ¬ kTime = kLabels := by decide
  have e1 : getJ kTime (bodyR r) = some (.num (Lib.itoa r.time)) := by simp [getJ, bodyR, findM]
  have e2 : getJ kLine (bodyR r) = some (.str (bsOf r.line)) := by simp [getJ, bodyR, findM, k3, k4]
  have e3 : getJ kLabels (bodyR r) = some (.obj (r.labs.map memOf)) := by simp [getJ, bodyR, findM, k5]
  have ho : onlyB [kTime, kLine, kLabels] (bodyR r) = true := by
    show (true && decide ([kTime, kLabels, kLine].Nodup ∧ ∀ n ∈ [kTime, kLabels, kLine], n ∈ [kTime, kLine, kLabels])) = true
    decide
  unfold oneJ
  rw [e1, e2, e3]
  simp only [optJ, int_itoa r.time h0 h1, textJ]
  rw [if_pos ⟨ho, trivial, trivial⟩]
  simp only [labsJ, labsM_of, toB_of]
  rfl
theorem ones_body : ∀ l : List Rec, (∀ r ∈ l, -9223372036854775808 ≤ r.time ∧ r.time ≤ 9223372036854775807) → onesL (l.map bodyR) = some (l.map noSeq)
  | [], _ => rfl
  | r :: l, h => by
    have h1 := h r (by simp)
    simp only [List.map_cons, onesL, one_body r h1.1 h1.2, ones_body l fun x hx => h x (by simp [hx])]
theorem recs_body (l : List Rec) (h : ∀ r ∈ l, -9223372036854775808 ≤ r.time ∧ r.time ≤ 9223372036854775807) : recsJ (bodyJ l) = some (l.map noSeq) := by
  show recsJ (.obj [(kRecords, .arr (l.map bodyR))]) = _
  rw [recs_of, ones_body l h]
theorem deepM_map : ∀ L : List Lab, deepM (L.map memOf) = 0
  | [] => rfl
  | x :: L => by
    have := deepM_map L
    simp only [List.map_cons, deepM, this]
    rfl
theorem deep_body (r : Rec) : deepJ (bodyR r) = 2 := by
  simp only [bodyR, deepJ, deepM, deepE, deepM_map]
  rfl
theorem deepL_body : ∀ l : List Rec, deepL (l.map bodyR) ≤ 2
  | [] => by simp [deepL]
  | r :: l => by
    have := deepL_body l
    simp only [List.map_cons, deepL, deep_body]
    omega
theorem deep_bodyJ (l : List Rec) : deepJ (bodyJ l) ≤ 4 := by
  have := deepL_body l
  simp only [bodyJ, underJ, deepJ, deepM, deepE]
  omega
/-! ### Valid as a whole: valid in its parts -/
theorem quote_peel {s t : Bs} (h : Lib.validD (quote s ++ t) = true) : Lib.validD s = true ∧ Lib.validD t = true :=
  (text_rdg (text_back s t)).2.2 h
theorem low_peel {a t : Bs} (ha : ∀ c ∈ a, c.toNat < 128) (h : Lib.validD (a ++ t) = true) : Lib.validD t = true := by rwa [valid_ascii a ha] at h
theorem labs_peel : ∀ (L : List Lab) (t : Bs), Lib.validD (formU (L.map memOf) ++ t) = true → okM (L.map memOf) ∧ Lib.validD t = true
  | [], t, h => ⟨trivial, h⟩
  | x :: L, t, h => by
    simp only [List.map_cons, formU, memOf, formE, formJ, List.cons_append, List.append_assoc] at h
    have h1 := low_peel (a := [44]) (by decide) h
    obtain ⟨v1, h2⟩ := quote_peel h1
    have h3 := low_peel (a := [58]) (by decide) h2
    obtain ⟨v2, h4⟩ := quote_peel h3
    obtain ⟨h5, h6⟩ := labs_peel L t h4
    exact ⟨⟨⟨v1, v2⟩, h5⟩, h6⟩
theorem labs_peelM (L : List Lab) (t : Bs) (h : Lib.validD (formM (L.map memOf) ++ t) = true) : okM (L.map memOf) ∧ Lib.validD t = true := by
  cases L with
  | nil => exact ⟨trivial, h⟩
  | cons x L =>
    refine labs_peel (x :: L) t ?_
    have e : formU ((x :: L).map memOf) = [44] ++ formM ((x :: L).map memOf) := rfl
    rw [e, List.append_assoc, valid_ascii [44] (by decide)]
    exact h
theorem rec_peel (r : Rec) (t : Bs) (h : Lib.validD (formJ (bodyR r) ++ t) = true) : okJ (bodyR r) ∧ Lib.validD t = true := by
  simp only [bodyR, formJ, formM, formU, formE, List.cons_append, List.append_assoc, List.nil_append] at h
  have h1 := low_peel (a := [123]) (by decide) h
  obtain ⟨v1, h2⟩ := quote_peel h1
  have h3 := low_peel (a := [58]) (by decide) h2
  have h4 := low_peel (num_low (itoa_num r.time)) h3
  have h5 := low_peel (a := [44]) (by decide) h4
  obtain ⟨v2, h6⟩ := quote_peel h5
  have h7 := low_peel (a := [58]) (by decide) h6
  have h8 := low_peel (a := [123]) (by decide) h7
  obtain ⟨v3, h9⟩ := labs_peelM r.labs _ h8
  have h10 := low_peel (a := [125]) (by decide) h9
  have h11 := low_peel (a := [44]) (by decide) h10
  obtain ⟨v4, h12⟩ := quote_peel h11
  have h13 := low_peel (a := [58]) (by decide) h12
  obtain ⟨v5, h14⟩ := quote_peel h13
  have h15 := low_peel (a := [125]) (by decide) h14
  exact ⟨⟨⟨v1, itoa_num _⟩, ⟨v2, v3⟩, ⟨v4, v5⟩, trivial⟩, h15⟩
theorem recs_peel_cons (r : Rec) (F t : Bs) (h : Lib.validD ((44 :: (formJ (bodyR r) ++ F)) ++ t) = true) : okJ (bodyR r) ∧ Lib.validD (F ++ t) = true := by
  rw [List.cons_append, List.append_assoc] at h
  exact rec_peel r _ (low_peel (a := [44]) (by decide) h)
theorem recs_peel (l : List Rec) : ∀ (t : Bs), Lib.validD (formT (l.map bodyR) ++ t) = true → okL (l.map bodyR) ∧ Lib.validD t = true := by
  induction l with
  | nil => exact fun t h => ⟨trivial, h⟩
  | cons r l ih =>
    intro t h
    obtain ⟨v1, h2⟩ := recs_peel_cons r (formT (l.map bodyR)) t h
    obtain ⟨v2, h3⟩ := ih t h2
    exact ⟨⟨v1, v2⟩, h3⟩
theorem recs_peelL (l : List Rec) (t : Bs) (h : Lib.validD (formL (l.map bodyR) ++ t) = true) : okL (l.map bodyR) ∧ Lib.validD t = true := by
  cases l with
  | nil => exact ⟨trivial, h⟩
  | cons r l =>
    refine recs_peel (r :: l) t ?_
    have e : formT ((r :: l).map bodyR) = [44] ++ formL ((r :: l).map bodyR) := rfl
    rw [e, List.append_assoc, valid_ascii [44] (by decide)]
    exact h
theorem body_ok (l : List Rec) (h : Lib.validD (formJ (bodyJ l)) = true) : okJ (bodyJ l) := by
  simp only [bodyJ, underJ, formJ, formM, formU, formE, List.cons_append, List.append_assoc, List.nil_append] at h
  have h1 := low_peel (a := [123]) (by decide) h
  obtain ⟨v1, h2⟩ := quote_peel h1
  have h3 := low_peel (a := [58, 91]) (by decide) h2
  obtain ⟨v2, -⟩ := recs_peelL l _ h3
  exact ⟨⟨v1, v2⟩, trivial⟩
/-- A push of records that is read is read as they are. -/
theorem body_back (l : List Rec) (h : parseE (formJ (bodyJ l)) = 0) : okJ (bodyJ l) ∧ parseJ (formJ (bodyJ l)) = bodyJ l := by
  obtain ⟨h1, h2, -⟩ := parse_zero h
  have ho := body_ok l h2
  have hd := deep_bodyJ l
  exact ⟨ho, ((parse_form ho h1).1 (by omega)).2.1⟩
theorem body_push (l : List Rec) (hb : ∀ r ∈ l, -9223372036854775808 ≤ r.time ∧ r.time ≤ 9223372036854775807) (h : parseE (formJ (bodyJ l)) = 0) : pushP (formJ (bodyJ l)) = pushL (l.map noSeq) := by
  unfold pushP
  rw [if_neg (by rw [h]; decide), (body_back l h).2]
  unfold pushJ
  rw [recs_body l hb]
/-- .. and where each may be as it is, it stays so. -/
theorem push_same {l : List Rec} (h : ∀ r ∈ l, chkRec r = 0) (h0 : (pushL (l.map noSeq)).1 = 0) : (pushL (l.map noSeq)).2 = l.map noSeq := by
  unfold pushL at h0 ⊢
  split at h0
  · cases h0
  · rename_i h1
    rw [if_neg h1]
    split at h0
    · rename_i h2
      exact absurd h0 h2
    · rename_i h2
      rw [if_neg h2]
      show (l.map noSeq).map canR = l.map noSeq
      rw [List.map_map]
      refine List.map_congr_left fun r hr => ?_
      have hc := h r hr
      have : canonL r.labs = r.labs := by
        unfold chkRec at hc
        split at hc
        · rename_i hx
          exact absurd hc hx
        · split at hc
          · cases hc
          · rename_i hx
            exact Classical.byContradiction hx
      simp [canR, noSeq, Function.comp, this]
theorem push_len (l : List Rec) (h0 : (pushL l).1 = 0) : (pushL l).2.length = l.length := by
  unfold pushL at h0 ⊢
  split at h0
  · cases h0
  · rename_i h1
    rw [if_neg h1]
    split at h0
    · rename_i h2
      exact absurd h0 h2
    · rename_i h2
      rw [if_neg h2]
      simp
end Go.Proofs.YtljnbbdhmlfhjaaGreatDoor
