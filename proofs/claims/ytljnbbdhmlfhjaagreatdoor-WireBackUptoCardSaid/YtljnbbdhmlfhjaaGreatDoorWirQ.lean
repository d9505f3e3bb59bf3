/-
  The document's reading of a push, plainly: the parts of a value's one form; its numbers; a record of them.
-/
import Derived.Test.YtljnbbdhmlfhjaaGreatDoorWirOne
namespace Go.Proofs.YtljnbbdhmlfhjaaGreatDoor
open Go.RowKit
/-- The parts of a one form, from within it: the byte behind a backslash is taken as it is. -/
def scanP : Bs → Int → Bool → Bool → Bs → List Bs
  | [], _, _, _, cur => [cur]
  | c :: t, d, q, true, cur => scanP t d q false (cur ++ [c])
  | c :: t, d, q, false, cur =>
    if q = true ∧ c = 92 then scanP t d q true (cur ++ [c])
    else if c = 34 then scanP t d (!q) false (cur ++ [c])
    else if q = true then scanP t d q false (cur ++ [c])
    else if c = 91 ∨ c = 123 then scanP t (d + 1) q false (cur ++ [c])
    else if c = 93 ∨ c = 125 then scanP t (d - 1) q false (cur ++ [c])
    else if d = 0 ∧ (c = 44 ∨ c = 58) then cur :: scanP t d q false []
    else scanP t d q false (cur ++ [c])
def innerS (s : Bs) : Bs := (s.drop 1).take (s.length - 2)
def partsP (s : Bs) : List Bs := if 2 < s.length then scanP (innerS s) 0 false false [] else []
def calm (c : UInt8) : Prop := c ≠ 34 ∧ ¬ (c = 91 ∨ c = 123) ∧ ¬ (c = 93 ∨ c = 125) ∧ ¬ (c = 44 ∨ c = 58)
theorem scan_calm {c : UInt8} (h : calm c) (t : Bs) (d : Int) (cur : Bs) : scanP (c :: t) d false false cur = scanP t d false false (cur ++ [c]) := by
  obtain ⟨h1, h2, h3, h4⟩ := h
  simp only [scanP]
  rw [if_neg (by simp), if_neg h1, if_neg (by simp), if_neg h2, if_neg h3, if_neg (fun e => h4 e.2)]
theorem scan_calms : ∀ (a t : Bs), (∀ c ∈ a, calm c) → ∀ d cur, scanP (a ++ t) d false false cur = scanP t d false false (cur ++ a)
  | [], t, _, d, cur => by simp
  | c :: a, t, h, d, cur => by
    rw [List.cons_append, scan_calm (h c (by simp)), scan_calms a t (fun x hx => h x (by simp [hx]))]
    simp
theorem isD_calm {c : UInt8} (h : isD c = true) : calm c :=
  ⟨isD_ne h (by decide), fun e => by rcases e with rfl | rfl <;> revert h <;> decide, fun e => by rcases e with rfl | rfl <;> revert h <;> decide, fun e => by rcases e with rfl | rfl <;> revert h <;> decide⟩
instance (c : UInt8) : Decidable (calm c) := inferInstanceAs (Decidable (_ ∧ _))
theorem num_calm {a : Bs} (h : NumS a) : ∀ c ∈ a, calm c := by
  obtain ⟨sg, x, fr, ex, rfl, hsg, ⟨hx, -⟩, hfr, hex⟩ := h
  intro c hc
  simp only [List.mem_append] at hc
  rcases hc with hc | hc | hc | hc
  · rcases hsg with rfl | rfl
    · simp at hc
    · simp only [List.mem_cons, List.not_mem_nil, or_false] at hc; subst hc; decide
  · exact isD_calm (hx.2 c hc)
  · rcases hfr with rfl | ⟨y, rfl, hy⟩
    · simp at hc
    · simp only [List.mem_cons] at hc
      rcases hc with rfl | hc
      · decide
      · exact isD_calm (hy.2 c hc)
  · rcases hex with rfl | ⟨e, sg', z, rfl, he, hs, hz⟩
    · simp at hc
    · simp only [List.mem_cons, List.mem_append] at hc
      rcases hc with rfl | hc | hc
      · rcases he with rfl | rfl <;> decide
      · rcases hs with rfl | rfl | rfl
        · simp at hc
        · simp only [List.mem_cons, List.not_mem_nil, or_false] at hc; subst hc; decide
        · simp only [List.mem_cons, List.not_mem_nil, or_false] at hc; subst hc; decide
      · exact isD_calm (hz.2 c hc)
theorem scan_in {c : UInt8} (h1 : c ≠ 92) (h2 : c ≠ 34) (t : Bs) (d : Int) (cur : Bs) : scanP (c :: t) d true false cur = scanP t d true false (cur ++ [c]) := by
  simp only [scanP]
  rw [if_neg (fun e => h1 e.2), if_neg h2]
  simp
theorem scan_back (e : UInt8) (t : Bs) (d : Int) (cur : Bs) : scanP (92 :: e :: t) d true false cur = scanP t d true false (cur ++ [92, e]) := by
  simp [scanP]
theorem hexD_in : ∀ n, n < 16 → hexD n ≠ 92 ∧ hexD n ≠ 34 := by decide
theorem scan_escB (c : UInt8) (t : Bs) (d : Int) (cur : Bs) : scanP (escB c ++ t) d true false cur = scanP t d true false (cur ++ escB c) := by
  have two : ∀ e : UInt8, scanP ([92, e] ++ t) d true false cur = scanP t d true false (cur ++ [92, e]) := fun e => scan_back e t d cur
  unfold escB
  by_cases h1 : c = 34 ∨ c = 92
  · rw [if_pos h1]; exact two c
  · rw [if_neg h1]
    by_cases h2 : c = 8
    · rw [if_pos h2]; exact two _
    rw [if_neg h2]
    by_cases h3 : c = 12
    · rw [if_pos h3]; exact two _
    rw [if_neg h3]
    by_cases h4 : c = 10
    · rw [if_pos h4]; exact two _
    rw [if_neg h4]
    by_cases h5 : c = 13
    · rw [if_pos h5]; exact two _
    rw [if_neg h5]
    by_cases h6 : c = 9
    · rw [if_pos h6]; exact two _
    rw [if_neg h6]
    by_cases h7 : c.toNat < 32
    · rw [if_pos h7]
      have a := hexD_in (c.toNat / 16) (by omega)
      have b := hexD_in (c.toNat % 16) (by omega)
      show scanP (92 :: 117 :: 48 :: 48 :: hexD (c.toNat / 16) :: hexD (c.toNat % 16) :: t) d true false cur = _
      rw [scan_back, scan_in (by decide) (by decide), scan_in (by decide) (by decide), scan_in a.1 a.2, scan_in b.1 b.2]
      simp
    · rw [if_neg h7]
      exact scan_in (fun e => h1 (.inr e)) (fun e => h1 (.inl e)) t d cur
theorem scan_escS : ∀ (s t : Bs) (d : Int) (cur : Bs), scanP (escS s ++ t) d true false cur = scanP t d true false (cur ++ escS s)
  | [], t, d, cur => by simp [escS]
  | c :: s, t, d, cur => by
    rw [escS_cons, List.append_assoc, scan_escB, scan_escS s]
    simp
theorem scan_quote (s t : Bs) (d : Int) (cur : Bs) : scanP (quote s ++ t) d false false cur = scanP t d false false (cur ++ quote s) := by
  rw [quote_app]
  have e1 : ∀ u, scanP (34 :: u) d false false cur = scanP u d true false (cur ++ [34]) := fun u => by simp [scanP]
  have e2 : ∀ u cur, scanP (34 :: u) d true false cur = scanP u d false false (cur ++ [34]) := fun u cur => by simp [scanP]
  rw [e1, scan_escS, e2]
  simp [quote]
theorem scan_open {c : UInt8} (h : c = 91 ∨ c = 123) (t : Bs) (d : Int) (cur : Bs) : scanP (c :: t) d false false cur = scanP t (d + 1) false false (cur ++ [c]) := by
  rcases h with rfl | rfl <;> simp [scanP]
theorem scan_shut {c : UInt8} (h : c = 93 ∨ c = 125) (t : Bs) (d : Int) (cur : Bs) : scanP (c :: t) d false false cur = scanP t (d - 1) false false (cur ++ [c]) := by
  rcases h with rfl | rfl <;> simp [scanP]
theorem scan_mark {c : UInt8} (h : c = 44 ∨ c = 58) (t : Bs) {d : Int} (hd : 0 < d) (cur : Bs) : scanP (c :: t) d false false cur = scanP t d false false (cur ++ [c]) := by
  have : ¬ d = 0 := by omega
  rcases h with rfl | rfl <;> simp [scanP, this]
theorem scan_cut {c : UInt8} (h : c = 44 ∨ c = 58) (t : Bs) (cur : Bs) : scanP (c :: t) 0 false false cur = cur :: scanP t 0 false false [] := by
  rcases h with rfl | rfl <;> simp [scanP]
mutual
theorem scan_form : ∀ (j : J), okJ j → ∀ (t : Bs) (d : Int) (cur : Bs), 0 ≤ d → scanP (formJ j ++ t) d false false cur = scanP t d false false (cur ++ formJ j)
  | .nul, _, t, d, cur, _ => scan_calms nullB t (by decide) d cur
  | .bool true, _, t, d, cur, _ => scan_calms trueB t (by decide) d cur
  | .bool false, _, t, d, cur, _ => scan_calms falseB t (by decide) d cur
  | .num s, h, t, d, cur, _ => scan_calms s t (num_calm h) d cur
  | .str s, _, t, d, cur, _ => scan_quote s t d cur
  | .arr l, h, t, d, cur, hd => by
    simp only [formJ, List.cons_append, List.append_assoc]
    rw [scan_open (.inl rfl), scan_formL l h _ _ _ (by omega)]
    simp only [List.cons_append, List.nil_append]
    rw [scan_shut (.inl rfl)]
    have : d + 1 - 1 = d := by omega
    rw [this]
    simp
  | .obj l, h, t, d, cur, hd => by
    simp only [formJ, List.cons_append, List.append_assoc]
    rw [scan_open (.inr rfl), scan_formM l h _ _ _ (by omega)]
    simp only [List.cons_append, List.nil_append]
    rw [scan_shut (.inr rfl)]
    have : d + 1 - 1 = d := by omega
    rw [this]
    simp
theorem scan_formL : ∀ (l : List J), okL l → ∀ (t : Bs) (d : Int) (cur : Bs), 0 < d → scanP (formL l ++ t) d false false cur = scanP t d false false (cur ++ formL l)
  | [], _, t, d, cur, _ => by simp [formL]
  | x :: l, h, t, d, cur, hd => by
    simp only [formL, List.append_assoc]
    rw [scan_form x h.1 _ _ _ (by omega), scan_formT l h.2 _ _ _ hd]
    simp
theorem scan_formT : ∀ (l : List J), okL l → ∀ (t : Bs) (d : Int) (cur : Bs), 0 < d → scanP (formT l ++ t) d false false cur = scanP t d false false (cur ++ formT l)
  | [], _, t, d, cur, _ => by simp [formT]
  | x :: l, h, t, d, cur, hd => by
    simp only [formT, List.append_assoc, List.cons_append]
    rw [scan_mark (.inl rfl) _ hd, scan_form x h.1 _ _ _ (by omega), scan_formT l h.2 _ _ _ hd]
    simp
theorem scan_formM : ∀ (l : List (Bs × J)), okM l → ∀ (t : Bs) (d : Int) (cur : Bs), 0 < d → scanP (formM l ++ t) d false false cur = scanP t d false false (cur ++ formM l)
  | [], _, t, d, cur, _ => by simp [formM]
  | x :: l, h, t, d, cur, hd => by
    simp only [formM, List.append_assoc]
    rw [scan_formE x h.1 _ _ _ hd, scan_formU l h.2 _ _ _ hd]
    simp
theorem scan_formU : ∀ (l : List (Bs × J)), okM l → ∀ (t : Bs) (d : Int) (cur : Bs), 0 < d → scanP (formU l ++ t) d false false cur = scanP t d false false (cur ++ formU l)
  | [], _, t, d, cur, _ => by simp [formU]
  | x :: l, h, t, d, cur, hd => by
    simp only [formU, List.append_assoc, List.cons_append]
    rw [scan_mark (.inl rfl) _ hd, scan_formE x h.1 _ _ _ hd, scan_formU l h.2 _ _ _ hd]
    simp
theorem scan_formE : ∀ (x : Bs × J), okE x → ∀ (t : Bs) (d : Int) (cur : Bs), 0 < d → scanP (formE x ++ t) d false false cur = scanP t d false false (cur ++ formE x)
  | (n, x), h, t, d, cur, hd => by
    simp only [formE, List.append_assoc, List.cons_append]
    rw [scan_quote, scan_mark (.inr rfl) _ hd, scan_form x h.2 _ _ _ (by omega)]
    simp
end
theorem scan_tail : ∀ (l : List J), okL l → ∀ cur, scanP (formT l) 0 false false cur = cur :: l.map formJ
  | [], _, cur => rfl
  | x :: l, h, cur => by
    have := scan_form x h.1 (formT l) 0 [] (by omega)
    simp only [formT]
    rw [scan_cut (.inl rfl), this, List.nil_append, scan_tail l h.2]
    rfl
def twoM (x : Bs × J) : List Bs := [quote x.1, formJ x.2]
theorem scan_mems : ∀ (l : List (Bs × J)), okM l → ∀ cur, scanP (formU l) 0 false false cur = cur :: l.flatMap twoM
  | [], _, cur => rfl
  | (n, x) :: l, h, cur => by
    have h1 := scan_quote n (58 :: (formJ x ++ formU l)) 0 []
    have h2 := scan_form x h.1.2 (formU l) 0 [] (by omega)
    simp only [formU, formE, List.append_assoc, List.cons_append]
    rw [scan_cut (.inl rfl), h1, scan_cut (.inr rfl), h2, List.nil_append, List.nil_append, scan_mems l h.2]
    simp [twoM]
theorem inner_wrap (a b : UInt8) (s : Bs) : innerS (a :: (s ++ [b])) = s := by
  unfold innerS
  simp
theorem parts_wrap (a b : UInt8) (s : Bs) : partsP (a :: (s ++ [b])) = if s = [] then [] else scanP s 0 false false [] := by
  unfold partsP
  rw [inner_wrap]
  cases s with
  | nil => rfl
  | cons c s =>
    rw [if_pos (by simp only [List.length_cons, List.length_append, List.length_nil]; omega), if_neg (by simp)]
/-- The parts of an array's one form. -/
theorem parts_arr {l : List J} (h : okL l) : partsP (formJ (.arr l)) = l.map formJ := by
  show partsP (91 :: (formL l ++ [93])) = _
  rw [parts_wrap]
  cases l with
  | nil => rfl
  | cons x l =>
    obtain ⟨c, r, e, -⟩ := form_head x h.1
    have h2 := scan_form x h.1 (formT l) 0 [] (by omega)
    rw [if_neg (by simp only [formL, e, List.cons_append]; simp)]
    simp only [formL]
    rw [h2, List.nil_append, scan_tail l h.2]
    rfl
/-- .. of an object's. -/
theorem parts_obj {l : List (Bs × J)} (h : okM l) : partsP (formJ (.obj l)) = l.flatMap twoM := by
  show partsP (123 :: (formM l ++ [125])) = _
  rw [parts_wrap]
  cases l with
  | nil => rfl
  | cons x l =>
    obtain ⟨n, x⟩ := x
    have h1 := scan_quote n (58 :: (formJ x ++ formU l)) 0 []
    have h2 := scan_form x h.1.2 (formU l) 0 [] (by omega)
    rw [if_neg (by simp only [formM, formE, quote, List.cons_append]; simp)]
    simp only [formM, formE, List.append_assoc, List.cons_append]
    rw [h1, scan_cut (.inr rfl), h2, List.nil_append, List.nil_append, scan_mems l h.2]
    simp [twoM]

/-! ### Numbers -/
def refN : Nat → Bs → Option Nat
  | u, [] => some u
  | u, c :: t => if c.toNat < 48 ∨ 57 < c.toNat ∨ 922337203685477580 < u then none else refN (u * 10 + (c.toNat - 48)) t
def refNum (s : Bs) : Option Int :=
  if s.length = minusN s then none else match refN 0 (s.drop (minusN s)) with
    | none => none
    | some u => if minusN s = 1 then (if u ≤ 9223372036854775808 then some (-(u : Int)) else none) else if u ≤ 9223372036854775807 then some u else none
theorem pu_mono : ∀ (t : Bs) (u v : Nat), Lib.parseUint10 u t = .ok v → u ≤ v
  | [], u, v, h => by
    simp only [Lib.parseUint10, Lib.NumEnd.ok.injEq] at h
    omega
  | c :: t, u, v, h => by
    simp only [Lib.parseUint10] at h
    split at h
    · split at h
      · cases h
      · split at h
        · cases h
        · have := pu_mono t _ v h
          omega
    · cases h
theorem pu_refN : ∀ (t : Bs) (u v : Nat), Lib.parseUint10 u t = .ok v → v ≤ 9223372036854775808 → refN u t = some v
  | [], u, v, h, _ => by
    simp only [Lib.parseUint10, Lib.NumEnd.ok.injEq] at h
    rw [h]; rfl
  | c :: t, u, v, h, hv => by
    simp only [Lib.parseUint10] at h
    split at h
    · split at h
      · cases h
      · split at h
        · cases h
        · have := pu_mono t _ v h
          simp only [refN]
          rw [if_neg (by omega)]
          exact pu_refN t _ v h hv
    · cases h
theorem refN_pu : ∀ (t : Bs) (u v : Nat), refN u t = some v → Lib.parseUint10 u t = .ok v
  | [], u, v, h => by
    simp only [refN, Option.some.injEq] at h
    simp only [Lib.parseUint10, h]
  | c :: t, u, v, h => by
    simp only [refN] at h
    split at h
    · cases h
    · simp only [Lib.parseUint10]
      rw [if_pos (by omega), if_neg (by omega), if_neg (by omega)]
      exact refN_pu t _ v h
theorem refNum_num {s : Bs} (h : NumS s) : refNum s = if (intJ (.num s)).2 = true then some (intJ (.num s)).1 else none := by
  obtain ⟨sg, x, fr, ex, e, hsg, ⟨hx, -⟩, -, -⟩ := id h
  have h1 : Lib.parseIntB 64 s = Lib.atoiAll (sg ++ (x ++ (fr ++ ex))) := by rw [Lib.parseIntB_64, e]
  rw [atoi_of sg x (fr ++ ex) hx.1 hx.2 hsg] at h1
  have hm : minusN s = sg.length ∧ s.drop (minusN s) = x ++ (fr ++ ex) := by
    obtain ⟨d, y, rfl, hd⟩ := hx.head
    rcases hsg with rfl | rfl
    · have : minusN s = 0 := by
        rw [e]
        unfold minusN
        rw [if_neg]
        simp only [List.nil_append, List.cons_append, List.head?_cons, Option.some.injEq]
        exact isD_ne hd (by decide)
      rw [this, e]
      simp
    · have : minusN s = 1 := by
        rw [e]
        unfold minusN
        simp
      rw [this, e]
      simp
  have hne : s.length ≠ minusN s := by
    rw [hm.1, e, List.length_append, List.length_append]
    have := hx.len
    omega
  have hI : intJ (.num s) = match Lib.parseIntB 64 s with | .ok n => (n, true) | _ => (0, false) := by
    show (if numN s = s.length then _ else _) = _
    rw [if_pos (num_len h)]
    cases Lib.parseIntB 64 s <;> rfl
  unfold refNum
  rw [if_neg hne, hI, h1, hm.2, hm.1]
  cases hp : Lib.parseUint10 0 (x ++ (fr ++ ex)) with
  | ok u =>
    simp only []
    by_cases hu : u ≤ 9223372036854775808
    · rw [pu_refN _ 0 u hp hu]
      simp only []
      rcases hsg with rfl | rfl
      · by_cases hu2 : u ≤ 9223372036854775807
        · simp [hu2, show ¬ 9223372036854775808 ≤ u by omega]
        · simp [hu2, show 9223372036854775808 ≤ u by omega]
      · simp [hu, show ¬ 9223372036854775808 < u by omega]
    · have hb : (if ¬ (sg = [45]) ∧ 9223372036854775808 ≤ u then Lib.NumEnd.range else if sg = [45] ∧ 9223372036854775808 < u then .range else .ok (if sg = [45] then -(u : Int) else u)) = Lib.NumEnd.range := by
        by_cases hs : sg = [45]
        · rw [if_neg (by simp [hs]), if_pos ⟨hs, by omega⟩]
        · rw [if_pos ⟨hs, by omega⟩]
      rw [hb]
      cases hr : refN 0 (x ++ (fr ++ ex)) with
      | none => rfl
      | some v =>
        have := refN_pu _ 0 v hr
        rw [hp] at this
        cases this
        simp only []
        rw [if_neg hu, if_neg (show ¬ u ≤ 9223372036854775807 by omega)]
        simp
  | «syntax» =>
    cases hr : refN 0 (x ++ (fr ++ ex)) with
    | none => rfl
    | some v =>
      have := refN_pu _ 0 v hr
      rw [hp] at this
      cases this
  | range =>
    cases hr : refN 0 (x ++ (fr ++ ex)) with
    | none => rfl
    | some v =>
      have := refN_pu _ 0 v hr
      rw [hp] at this
      cases this
/-- The reference's number of a value's one form is the value's number. -/
theorem refNum_form (j : J) (h : okJ j) : refNum (formJ j) = if (intJ j).2 = true then some (intJ j).1 else none := by
  have bad : ∀ (c : UInt8) (r : Bs), c ≠ 45 → ¬ (48 ≤ c.toNat ∧ c.toNat ≤ 57) → refNum (c :: r) = none := fun c r h1 h2 => by
    have hm : minusN (c :: r) = 0 := by
      unfold minusN
      rw [if_neg]
      simpa using h1
    unfold refNum
    rw [hm, if_neg (by simp)]
    simp only [List.drop_zero, refN]
    rw [if_pos (by omega)]
  cases j with
  | nul => exact bad 110 [117, 108, 108] (by decide) (by decide)
  | bool b => cases b
              · exact bad 102 [97, 108, 115, 101] (by decide) (by decide)
              · exact bad 116 [114, 117, 101] (by decide) (by decide)
  | num s => exact refNum_num h
  | str s => exact bad 34 _ (by decide) (by decide)
  | arr l => exact bad 91 _ (by decide) (by decide)
  | obj l => exact bad 123 _ (by decide) (by decide)
end Go.Proofs.YtljnbbdhmlfhjaaGreatDoor
