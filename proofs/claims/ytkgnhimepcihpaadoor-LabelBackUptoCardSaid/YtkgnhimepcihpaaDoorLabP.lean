/-
  label.parse.
-/
import Derived.Test.YtkgnhimepcihpaaDoorLabV
import Derived.Test.YtkgnhimepcihpaaDoorShelf
namespace Go.Proofs.YtkgnhimepcihpaaDoor
open Go.RowKit

theorem shaped_below {P : Program} {W w' : World} (h : W.ShapedOpen P) (hb : Below W.heap.size W w') : w'.ShapedOpen P := h.keptBut (hb.frame fun _ => False) (fun _ h => h.elim)
theorem below_drawn (w : World) (n : Nat) : Below w.heap.size w (w.drewN n) := ⟨rfl, rfl, rfl, Nat.le_refl _, fun _ _ => rfl⟩
def preP (l : List Lab) (S : List UInt8) : List UInt8 × Bool := if l = [] then (S, true) else (Lib.trimPrefix S [44], Lib.hasPrefix S [44])
def stepV (X : List UInt8) (b : Bool) : Option (List UInt8 × List UInt8) → Option (Lab × List UInt8)
  | none => none
  | some q => if b = true then some ((⟨X.toArray⟩, ⟨q.1.toArray⟩), q.2) else none
/-- One label off a text's beginning. -/
def stepP (l : List Lab) (S : List UInt8) : Option (Lab × List UInt8) :=
  stepV (Lib.cut (preP l S).1 [61, 34]).1 ((preP l S).2 && (Lib.cut (preP l S).1 [61, 34]).2.2) (valGo [] (Lib.cut (preP l S).1 [61, 34]).2.1)
def parseGo : Nat → List Lab → List UInt8 → Option (List Lab)
  | 0, l, _ => some l
  | f + 1, l, S => if S = [125] then some l else match stepP l S with | none => none | some p => parseGo f (l ++ [p.1]) p.2
/-- A text, taken apart. -/
def parseOf (s : List UInt8) : Option (List Lab) := if Lib.hasPrefix s [123] = true then parseGo (s.length + 1) [] (Lib.trimPrefix s [123]) else none
theorem val_len : ∀ {l acc : List UInt8} {q : List UInt8 × List UInt8}, valGo acc l = some q → q.2.length + 1 ≤ l.length ∧ q.1.length ≤ acc.length + l.length
  | [], acc, q, h => by unfold valGo at h; cases h
  | [c], acc, q, h => by
    unfold valGo at h
    split at h
    · cases h
      simp
    · split at h
      · cases h
      · unfold valGo at h
        cases h
  | c :: d :: t, acc, q, h => by
    unfold valGo at h
    split at h
    · cases h
      simp
    · split at h
      · have := val_len h
        simp only [List.length_cons, List.length_append, List.length_nil] at this ⊢
        omega
      · have := val_len h
        simp only [List.length_cons, List.length_append, List.length_nil] at this ⊢
        omega
theorem trim_len (S p : List UInt8) : (Lib.trimPrefix S p).length ≤ S.length := by
  unfold Lib.trimPrefix
  split <;> simp
theorem pre_len (l : List Lab) (S : List UInt8) : (preP l S).1.length ≤ S.length := by
  unfold preP
  split
  · exact Nat.le_refl _
  · exact trim_len _ _
theorem cut_len (S : List UInt8) : (Lib.cut S [61, 34]).1.length ≤ S.length ∧ ((Lib.cut S [61, 34]).2.1 = [] ∨ (Lib.cut S [61, 34]).2.1.length + 2 ≤ S.length) := by
  unfold Lib.cut
  split
  · simp only [List.length_take, List.length_drop, List.length_cons, List.length_nil]
    refine ⟨by omega, ?_⟩
    by_cases h : S.length ≤ (Lib.index S [61, 34]).toNat + 2
    · left
      exact List.drop_of_length_le (by simpa using h)
    · right
      omega
  · exact ⟨Nat.le_refl _, .inl rfl⟩
theorem step_len {l : List Lab} {S : List UInt8} {p : Lab × List UInt8} (h : stepP l S = some p) : p.2.length + 3 ≤ S.length ∧ p.1.1.size ≤ S.length ∧ p.1.2.size ≤ S.length := by
  have h1 := pre_len l S
  have h2 := cut_len (preP l S).1
  unfold stepP at h
  obtain ⟨V, hq⟩ : ∃ V, valGo [] (Lib.cut (preP l S).1 [61, 34]).2.1 = V := ⟨_, rfl⟩
  rw [hq] at h
  cases V with
  | none => cases h
  | some q =>
    have h' : (if ((preP l S).2 && (Lib.cut (preP l S).1 [61, 34]).2.2) = true then some (((⟨(Lib.cut (preP l S).1 [61, 34]).1.toArray⟩ : ByteArray), (⟨q.1.toArray⟩ : ByteArray)), q.2) else none) = some p := h
    clear h
    split at h'
    · have h3 := val_len hq
      cases h'
      simp only [List.length_nil, Nat.zero_add] at h3
      have e1 : (⟨(Lib.cut (preP l S).1 [61, 34]).1.toArray⟩ : ByteArray).size = (Lib.cut (preP l S).1 [61, 34]).1.length := by simp [ByteArray.size]
      have e2 : (⟨q.1.toArray⟩ : ByteArray).size = q.1.length := by simp [ByteArray.size]
      simp only [e1, e2]
      rcases h2.2 with h4 | h4
      · rw [h4] at h3
        simp at h3
      · omega
    · cases h'
def ParseEnd (r : Option (List Lab)) (B : Nat) (w' : World) (e : Ending) : Prop := match r with
  | none => e = .returned (.tuple #[.slice none 0 0, .bool false])
  | some l => ∃ v, e = .returned (.tuple #[v, .bool true]) ∧ w'.ownsRow B 47 2 v l.length (labCells l)
def strLen : Value → Nat
  | .string b => b.size
  | _ => 0

set_option maxRecDepth 100000 in
set_option maxHeartbeats 4000000 in
theorem label_parse (s : ByteArray) (w : World) (hsh : w.ShapedOpen Tryd.prog) (hs : s.size ≤ 1000000000) :
    Calls Tryd.prog 67 #[.string s] w fun e w' => ParseEnd (parseOf s.data.toList) w.heap.size w' e ∧ Below w.heap.size w w' := by
  have EL : ElemT Tryd.prog 25 47 (.agg #[.string ⟨#[]⟩, .string ⟨#[]⟩]) 2 32 := ⟨Tryd.underlying25, by kernel_rfl, rfl, by decide⟩
  obtain ⟨R, hR⟩ : ∃ R, parseOf s.data.toList = R := ⟨_, rfl⟩
  rw [hR]
  have HR := Lib.hid hR
  clear hR
  have hsl : s.data.toList.length = s.size := by simp [ByteArray.size_data]
  have cP := Lib.hid (fun (s p : ByteArray) W => Tryd.strings_CutPrefix s p W)
  have cV := Lib.hid (fun (s : ByteArray) W hs => label_value s W hs)
  obtain ⟨P1, hP1⟩ : ∃ P, Lib.hasPrefix s.data.toList [123] = P := ⟨_, rfl⟩
  obtain ⟨T1, hT1⟩ : ∃ T, Lib.trimPrefix s.data.toList [123] = T := ⟨_, rfl⟩
  have c1 := fun W => cP.out s ⟨#[123]⟩ W
  have hq : (⟨#[123]⟩ : ByteArray).data.toList = [123] := rfl
  rw [hq, hP1, hT1] at c1
  have hR2 := HR.out
  unfold parseOf at hR2
  rw [hP1, hT1] at hR2
  have hTl := trim_len s.data.toList [123]
  rw [hT1, hsl] at hTl
  rw [hsl] at hR2
  have HR2 := Lib.hid hR2
  clear hP1 hT1 hR2 hq
  cases P1
  · have hfin : R = none := by rw [← HR2.out]; simp
    have HFIN := Lib.hid hfin
    clear hfin
    go_enter Tryd.func67, Tryd.ntmps67
    go_wp2_with (go_at_call 79; refine (c1 _).mono ?_; rintro e w1 ⟨rfl, rfl⟩)
    go_loopw [0, 4, 5] (fun sv lv ov wr => sv = .string ⟨T1.toArray⟩ ∧ lv = .slice none 0 0 ∧ ov = .bool false ∧ w1 = wr) (fun _ _ _ _ => 1)
    case atStart => exact ⟨rfl, rfl, rfl, rfl⟩
    case round =>
      obtain ⟨rfl, rfl, rfl, rfl⟩ := hrel
      go_wp2
      go_ret2
      exact ⟨by rw [HFIN.out]; rfl, Below.refl _ _⟩
  · have hR3 : parseGo (s.size + 1) [] T1 = R := by rw [← HR2.out]; simp
    have HR3 := Lib.hid hR3
    clear hR3 HR2 HR
    have hpc : (⟨#[44]⟩ : ByteArray).data.toList = [44] := rfl
    have hpe : (⟨#[61, 34]⟩ : ByteArray).data.toList = [61, 34] := rfl
    have cM := Lib.hid (fun (S : List UInt8) W => (by have h := cP.out ⟨S.toArray⟩ ⟨#[44]⟩ W; rw [hpc] at h; exact h : Calls Tryd.prog 79 #[.string ⟨S.toArray⟩, .string ⟨#[44]⟩] W fun e w' => e = .returned (.tuple #[.string ⟨(Lib.trimPrefix S [44]).toArray⟩, .bool (Lib.hasPrefix S [44])]) ∧ w' = W))
    have cC := Lib.hid (fun (S : List UInt8) W (hS : S.length ≤ 1000000000) (hW : Below w.heap.size w W) => (by have h := Tryd.strings_Cut_shaped ⟨S.toArray⟩ ⟨#[61, 34]⟩ W (shaped_below hsh hW) (by simp [ByteArray.size]; omega); rw [hpe] at h; exact h : Calls Tryd.prog 80 #[.string ⟨S.toArray⟩, .string ⟨#[61, 34]⟩] W fun e w' => e = .returned (.tuple #[.string ⟨(Lib.cut S [61, 34]).1.toArray⟩, .string ⟨(Lib.cut S [61, 34]).2.1.toArray⟩, .bool (Lib.cut S [61, 34]).2.2]) ∧ ∃ n, w' = W.drewN n))
    have cVL := Lib.hid (fun (S : List UInt8) W (hS : S.length ≤ 1000000000) => (by have h := cV.out ⟨S.toArray⟩ W (by simp [ByteArray.size]; omega); exact h : Calls Tryd.prog 81 #[.string ⟨S.toArray⟩] W fun e w' => ValEnd (valGo [] S) e ∧ Below W.heap.size W w'))
    go_enter Tryd.func67, Tryd.ntmps67
    go_wp2_with (go_at_call 79; refine (c1 _).mono ?_; rintro e w1 ⟨rfl, rfl⟩)
    go_loopw [0, 4, 5] (fun sv lv ov wr => ∃ (f : Nat) (l : List Lab) (S : List UInt8), sv = .string ⟨S.toArray⟩ ∧ ov = .bool true ∧ S.length < f ∧ l.length * 3 + S.length ≤ s.size ∧ parseGo f l S = R ∧ wr.ownsRow w1.heap.size 47 2 lv l.length (labCells l) ∧ Below w1.heap.size w1 wr) (fun sv _ _ _ => strLen sv)
    case atStart => exact ⟨s.size + 1, [], T1, rfl, rfl, by omega, by simpa using hTl, HR3.out, World.ownsRow_nil _ _ _ _, Below.refl _ _⟩
    case round =>
      obtain ⟨f, l, S, rfl, rfl, hSf, hlS, hp, hown, hb⟩ := hrel
      obtain ⟨la, lc, rfl⟩ := owns_slice hown
      have HO := Lib.hid hown
      clear hown
      obtain ⟨f, rfl⟩ : ∃ g, f = g + 1 := ⟨f - 1, by omega⟩
      unfold parseGo at hp
      by_cases hS : S = [125]
      · rw [if_pos hS] at hp
        have HP := Lib.hid hp
        subst hS
        clear hp
        go_wp2
        go_ret2
        exact ⟨by rw [← HP.out]; exact ⟨_, rfl, HO.out⟩, hb⟩
      · rw [if_neg hS] at hp
        have eS : (S == [125]) = false := by simpa using hS
        obtain ⟨pp, hpp⟩ : ∃ p, preP l S = p := ⟨_, rfl⟩
        have hpl := pre_len l S
        have hcl := cut_len (preP l S).1
        have hsl2 := fun p => @step_len l S p
        rw [hpp] at hpl hcl
        obtain ⟨S1, ok1⟩ := pp
        simp only at hpl hcl
        obtain ⟨ct, hct⟩ : ∃ c, Lib.cut S1 [61, 34] = c := ⟨_, rfl⟩
        rw [hct] at hcl
        have cC1 := Lib.hid (fun W hW => cC.out S1 W (by omega) hW)
        rw [hct] at cC1
        obtain ⟨X, Y, fo⟩ := ct
        simp only at hcl cC1
        have hYl : Y.length ≤ 1000000000 := by
          rcases hcl.2 with h | h
          · rw [h]; simp
          · omega
        obtain ⟨V, hV⟩ : ∃ V, valGo [] Y = V := ⟨_, rfl⟩
        have cV1 := Lib.hid (fun W => cVL.out Y W hYl)
        rw [hV] at cV1
        have hstep : stepP l S = stepV X (ok1 && fo) V := by
          unfold stepP
          rw [hpp]
          simp only
          rw [hct]
          simp only
          rw [hV]
        have HSL := Lib.hid hsl2
        have hw1 := hb.size
        clear hsl2 hV hct hcl hpl
        have hcase : (l = [] ∧ S1 = S ∧ ok1 = true) ∨ (0 < l.length ∧ Lib.trimPrefix S [44] = S1 ∧ Lib.hasPrefix S [44] = ok1) := by
          unfold preP at hpp
          by_cases h : l = []
          · rw [if_pos h] at hpp
            cases hpp
            exact .inl ⟨h, rfl, rfl⟩
          · rw [if_neg h] at hpp
            cases hpp
            exact .inr ⟨List.length_pos_iff.2 h, rfl, rfl⟩
        clear hpp
        have HP := Lib.hid hp
        clear hp hS
        rcases hcase with ⟨hl, hS1, ho1⟩ | ⟨hl, hS1, ho1⟩
        · have e0 : ¬ (0 : Int) < (l.length : Int) := by rw [hl]; simp
          have e0n : ¬ 0 < l.length := by rw [hl]; simp
          subst hS1 ho1
          clear hl
          cases V with
          | none =>
            cases fo
            all_goals
              have hfin : R = none := by rw [← HP.out, hstep]; rfl
              have HFIN := Lib.hid hfin
              clear hfin hstep HP
              go_wp2_with (first | (go_at_call 80; refine (cC1.out _ hb).mono ?_; rintro e w2 ⟨rfl, n2, rfl⟩; have hb2 := below_seq hb (below_drawn _ n2)) | (go_at_call 81; refine (cV1.out _).mono ?_; rintro e w3 ⟨rfl, hb3⟩))
              go_ret2
              exact ⟨by rw [HFIN.out]; rfl, below_seq hb2 hb3⟩
          | some q =>
            cases fo
            · have hfin : R = none := by rw [← HP.out, hstep]; rfl
              have HFIN := Lib.hid hfin
              clear hfin hstep HP
              go_wp2_with (first | (go_at_call 80; refine (cC1.out _ hb).mono ?_; rintro e w2 ⟨rfl, n2, rfl⟩; have hb2 := below_seq hb (below_drawn _ n2)) | (go_at_call 81; refine (cV1.out _).mono ?_; rintro e w3 ⟨rfl, hb3⟩))
              go_ret2
              exact ⟨by rw [HFIN.out]; rfl, below_seq hb2 hb3⟩
            · have hstep' : stepP l S1 = some (((⟨X.toArray⟩ : ByteArray), (⟨q.1.toArray⟩ : ByteArray)), q.2) := hstep
              have hln := HSL.out _ hstep'
              simp only at hln
              have hnx : R = parseGo f (l ++ [((⟨X.toArray⟩ : ByteArray), (⟨q.1.toArray⟩ : ByteArray))]) q.2 := by rw [← HP.out, hstep']
              have HNX := Lib.hid hnx
              have hl1 := hln.1
              clear hnx hstep hstep' HP hln
              go_wp2_with (first | (go_at_call 80; refine (cC1.out _ hb).mono ?_; rintro e w2 ⟨rfl, n2, rfl⟩; have hb2 := below_seq hb (below_drawn _ n2)) | (go_at_call 81; refine (cV1.out _).mono ?_; rintro e w3 ⟨rfl, hb3⟩) | (at_builtin; refine wpList_append_src rfl _ _ _ _ rfl w1.heap.size EL (.slice la l.length lc) l.length (labCells l) rfl ((owns_below (owns_below HO.out (below_drawn _ n2)) hb3).alloc _) _ 1 [.string ⟨X.toArray⟩, .string ⟨q.1.toArray⟩] rfl (by exact src_last (cs := #[.string ⟨X.toArray⟩, .string ⟨q.1.toArray⟩]) Tryd.underlying25 1 1 2 rfl rfl (by simp [Value.oneCell'])) (by unfold maxLen; omega) (by omega) (by have := hb2.size; have := hb3.size; simp; omega) ?_; intro v1 w4 hown1 hgr1 _ _))
              go_roundw
              case rel => exact ⟨f, l ++ [((⟨X.toArray⟩ : ByteArray), (⟨q.1.toArray⟩ : ByteArray))], q.2, rfl, rfl, by omega, by simp; omega, HNX.out.symm, by rw [labCells_append, List.length_append]; exact hown1, (belowA (below_seq hb2 hb3)).grown hgr1 (by have := hb2.size; have := hb3.size; simp; omega) (fun z hz => (HO.out.lt z hz).1)⟩
              case measure => simp [strLen, ByteArray.size]; omega
        · have hM := Lib.hid (fun W => cM.out S W)
          rw [hS1, ho1] at hM
          have e0 : (0 : Int) < (l.length : Int) := by omega
          clear hS1 ho1
          cases V with
          | none =>
            cases fo <;> cases ok1
            all_goals
              have hfin : R = none := by rw [← HP.out, hstep]; rfl
              have HFIN := Lib.hid hfin
              clear hfin hstep HP
              go_wp2_with (first | (go_at_call 79; refine (hM.out _).mono ?_; rintro e w0 ⟨rfl, rfl⟩) | (go_at_call 80; refine (cC1.out _ hb).mono ?_; rintro e w2 ⟨rfl, n2, rfl⟩; have hb2 := below_seq hb (below_drawn _ n2)) | (go_at_call 81; refine (cV1.out _).mono ?_; rintro e w3 ⟨rfl, hb3⟩))
              go_ret2
              exact ⟨by rw [HFIN.out]; rfl, below_seq hb2 hb3⟩
          | some q =>
            cases fo
            · cases ok1
              all_goals
                have hfin : R = none := by rw [← HP.out, hstep]; rfl
                have HFIN := Lib.hid hfin
                clear hfin hstep HP
                go_wp2_with (first | (go_at_call 79; refine (hM.out _).mono ?_; rintro e w0 ⟨rfl, rfl⟩) | (go_at_call 80; refine (cC1.out _ hb).mono ?_; rintro e w2 ⟨rfl, n2, rfl⟩; have hb2 := below_seq hb (below_drawn _ n2)) | (go_at_call 81; refine (cV1.out _).mono ?_; rintro e w3 ⟨rfl, hb3⟩))
                go_ret2
                exact ⟨by rw [HFIN.out]; rfl, below_seq hb2 hb3⟩
            · cases ok1
              · have hfin : R = none := by rw [← HP.out, hstep]; rfl
                have HFIN := Lib.hid hfin
                clear hfin hstep HP
                go_wp2_with (first | (go_at_call 79; refine (hM.out _).mono ?_; rintro e w0 ⟨rfl, rfl⟩) | (go_at_call 80; refine (cC1.out _ hb).mono ?_; rintro e w2 ⟨rfl, n2, rfl⟩; have hb2 := below_seq hb (below_drawn _ n2)) | (go_at_call 81; refine (cV1.out _).mono ?_; rintro e w3 ⟨rfl, hb3⟩))
                go_ret2
                exact ⟨by rw [HFIN.out]; rfl, below_seq hb2 hb3⟩
              · have hstep' : stepP l S = some (((⟨X.toArray⟩ : ByteArray), (⟨q.1.toArray⟩ : ByteArray)), q.2) := hstep
                have hln := HSL.out _ hstep'
                simp only at hln
                have hnx : R = parseGo f (l ++ [((⟨X.toArray⟩ : ByteArray), (⟨q.1.toArray⟩ : ByteArray))]) q.2 := by rw [← HP.out, hstep']
                have HNX := Lib.hid hnx
                have hl1 := hln.1
                clear hnx hstep hstep' HP hln
                go_wp2_with (first | (go_at_call 79; refine (hM.out _).mono ?_; rintro e w0 ⟨rfl, rfl⟩) | (go_at_call 80; refine (cC1.out _ hb).mono ?_; rintro e w2 ⟨rfl, n2, rfl⟩; have hb2 := below_seq hb (below_drawn _ n2)) | (go_at_call 81; refine (cV1.out _).mono ?_; rintro e w3 ⟨rfl, hb3⟩) | (at_builtin; refine wpList_append_src rfl _ _ _ _ rfl w1.heap.size EL (.slice la l.length lc) l.length (labCells l) rfl ((owns_below (owns_below HO.out (below_drawn _ n2)) hb3).alloc _) _ 1 [.string ⟨X.toArray⟩, .string ⟨q.1.toArray⟩] rfl (by exact src_last (cs := #[.string ⟨X.toArray⟩, .string ⟨q.1.toArray⟩]) Tryd.underlying25 1 1 2 rfl rfl (by simp [Value.oneCell'])) (by unfold maxLen; omega) (by omega) (by have := hb2.size; have := hb3.size; simp; omega) ?_; intro v1 w4 hown1 hgr1 _ _))
                go_roundw
                case rel => exact ⟨f, l ++ [((⟨X.toArray⟩ : ByteArray), (⟨q.1.toArray⟩ : ByteArray))], q.2, rfl, rfl, by omega, by simp; omega, HNX.out.symm, by rw [labCells_append, List.length_append]; exact hown1, (belowA (below_seq hb2 hb3)).grown hgr1 (by have := hb2.size; have := hb3.size; simp; omega) (fun z hz => (HO.out.lt z hz).1)⟩
                case measure => simp [strLen, ByteArray.size]; omega
end Go.Proofs.YtkgnhimepcihpaaDoor
