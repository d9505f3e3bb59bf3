/-
  label.Read.
-/
import Derived.Test.YtkgnhimepcihpaaDoorLabP
import Derived.Test.YtkgnhimepcihpaaDoorLabW
import Derived.Test.YtkgnhimepcihpaaDoorLabH
namespace Go.Proofs.YtkgnhimepcihpaaDoor
open Go.RowKit

theorem val_sum : ∀ {l acc : List UInt8} {q : List UInt8 × List UInt8}, valGo acc l = some q → q.1.length + q.2.length + 1 ≤ acc.length + l.length
  | [], acc, q, h => by unfold valGo at h; cases h
  | [c], acc, q, h => by
    unfold valGo at h
    split at h
    · cases h
      simp
    · split at h
      · cases h
      · unfold valGo at h
        cases h
  | c :: d :: t, acc, q, h => by
    unfold valGo at h
    split at h
    · cases h
      simp only [List.length_cons]
      omega
    · split at h
      · have := val_sum h
        simp only [List.length_cons, List.length_append, List.length_nil] at this ⊢
        omega
      · have := val_sum h
        simp only [List.length_cons, List.length_append, List.length_nil] at this ⊢
        omega
theorem cut_sum (S : List UInt8) : (Lib.cut S [61, 34]).2.1 = [] ∨ (Lib.cut S [61, 34]).1.length + (Lib.cut S [61, 34]).2.1.length + 2 ≤ S.length := by
  unfold Lib.cut
  split
  · simp only [List.length_take, List.length_drop, List.length_cons, List.length_nil]
    by_cases h : S.length ≤ (Lib.index S [61, 34]).toNat + 2
    · left
      exact List.drop_of_length_le (by simpa using h)
    · right
      omega
  · exact .inl rfl
def sumL (l : List Lab) : Nat := (l.map fun x => x.1.size + x.2.size + 3).sum
theorem step_sum {l : List Lab} {S : List UInt8} {p : Lab × List UInt8} (h : stepP l S = some p) : p.1.1.size + p.1.2.size + 3 + p.2.length ≤ S.length := by
  have h1 := pre_len l S
  have h2 := cut_sum (preP l S).1
  unfold stepP at h
  obtain ⟨V, hq⟩ : ∃ V, valGo [] (Lib.cut (preP l S).1 [61, 34]).2.1 = V := ⟨_, rfl⟩
  rw [hq] at h
  cases V with
  | none => cases h
  | some q =>
    have h' : (if ((preP l S).2 && (Lib.cut (preP l S).1 [61, 34]).2.2) = true then some (((⟨(Lib.cut (preP l S).1 [61, 34]).1.toArray⟩ : ByteArray), (⟨q.1.toArray⟩ : ByteArray)), q.2) else none) = some p := h
    clear h
    split at h'
    · have h3 := val_sum hq
      cases h'
      simp only [List.length_nil, Nat.zero_add] at h3
      have e1 : (⟨(Lib.cut (preP l S).1 [61, 34]).1.toArray⟩ : ByteArray).size = (Lib.cut (preP l S).1 [61, 34]).1.length := by simp [ByteArray.size]
      have e2 : (⟨q.1.toArray⟩ : ByteArray).size = q.1.length := by simp [ByteArray.size]
      simp only [e1, e2]
      rcases h2 with h4 | h4
      · rw [h4] at h3
        simp at h3
      · omega
    · cases h'
theorem sumL_snoc (l : List Lab) (x : Lab) : sumL (l ++ [x]) = sumL l + (x.1.size + x.2.size + 3) := by simp [sumL]
theorem go_sum : ∀ (f : Nat) (l : List Lab) (S : List UInt8) (r : List Lab), parseGo f l S = some r → sumL r ≤ sumL l + S.length
  | 0, l, S, r, h => by
    cases h
    omega
  | f + 1, l, S, r, h => by
    unfold parseGo at h
    split at h
    · cases h
      omega
    · split at h
      · cases h
      · rename_i p hp
        have h1 := step_sum hp
        have h2 := go_sum f _ _ _ h
        rw [sumL_snoc] at h2
        omega
theorem parse_sum {s : List UInt8} {r : List Lab} (h : parseOf s = some r) : sumL r ≤ s.length := by
  unfold parseOf at h
  split at h
  · have h1 := go_sum _ _ _ _ h
    have h2 := trim_len s [123]
    simp only [sumL, List.map_nil, List.sum_nil] at h1
    unfold sumL
    omega
  · cases h
theorem sumL_len : ∀ l : List Lab, l.length * 3 ≤ sumL l
  | [] => by simp [sumL]
  | x :: l => by
    have := sumL_len l
    simp only [sumL, List.map_cons, List.sum_cons, List.length_cons] at this ⊢
    omega
theorem sumL_mem : ∀ {l : List Lab} {x : Lab}, x ∈ l → x.1.size + x.2.size ≤ sumL l
  | y :: l, x, h => by
    simp only [sumL, List.map_cons, List.sum_cons]
    rcases List.mem_cons.1 h with rfl | h
    · omega
    · have := sumL_mem h
      simp only [sumL] at this
      omega
theorem escL_le : ∀ l : List UInt8, (escL l).length ≤ 2 * l.length
  | [] => by simp [escL]
  | c :: l => by
    have ih := escL_le l
    show (escB c ++ escL l).length ≤ _
    have : (escB c).length ≤ 2 := by
      unfold escB
      split
      · simp
      · split <;> simp
    simp only [List.length_cons, List.length_append]
    omega
theorem wGo_len : ∀ (f : Bool) (l : List Lab), (wGo f l).length ≤ 2 * sumL l
  | _, [] => by simp [wGo]
  | f, x :: l => by
    have ih := wGo_len false l
    have h1 := escL_le x.2.data.toList
    have e1 : x.1.data.toList.length = x.1.size := by simp [ByteArray.size_data]
    have e2 : x.2.data.toList.length = x.2.size := by simp [ByteArray.size_data]
    have e3 : (if f = true then ([] : List UInt8) else [44]).length ≤ 1 := by split <;> simp
    unfold wGo
    simp only [List.length_append, List.length_cons, List.length_nil, sumL, List.map_cons, List.sum_cons] at ih ⊢
    omega
theorem write_len (l : List Lab) : (writeLab l).length ≤ 2 * sumL l + 2 := by
  have := wGo_len true l
  simp only [writeLab, List.length_append, List.length_cons, List.length_nil]
  omega

/-- What reading a text comes to. -/
def readE (s : List UInt8) : Int := match parseOf s with
  | none => 6
  | some l => if writeLab l = s then (if canonE l = 0 then (if canonL l = l then 0 else 6) else canonE l) else 6
def readL (s : List UInt8) : List Lab := if readE s = 0 then (match parseOf s with | none => [] | some l => l) else []
theorem read_bad {s : List UInt8} {z : Int} (h : readE s = z) (hz : z ≠ 0) : readL s = [] := by
  unfold readL
  rw [if_neg (by rw [h]; exact hz)]

set_option maxRecDepth 100000 in
set_option maxHeartbeats 4000000 in
theorem label_Read (s : ByteArray) (w : World) (hsh : w.ShapedOpen Tryd.prog) (hT : Tabs w) (hs : s.size ≤ 1048576) :
    Calls Tryd.prog 37 #[.string s] w fun e w' => (∃ v, e = .returned (.tuple #[v, .int .i64 (readE s.data.toList)]) ∧ w'.ownsRow w.heap.size 47 2 v (readL s.data.toList).length (labCells (readL s.data.toList))) ∧ Below w.heap.size w w' := by
  have hsl : s.data.toList.length = s.size := by simp [ByteArray.size_data]
  have cP := label_parse s w hsh (by omega)
  cases hp : parseOf s.data.toList with
  | none =>
    rw [hp] at cP
    have hE : readE s.data.toList = 6 := by unfold readE; rw [hp]
    have hL := read_bad hE (by decide)
    rw [hE, hL]
    have cP' : Calls Tryd.prog 67 #[.string s] w fun e w' => e = .returned (.tuple #[.slice none 0 0, .bool false]) ∧ Below w.heap.size w w' := cP
    clear cP hE hL hp
    go_enter Tryd.func37, Tryd.ntmps37
    go_wp2_with (go_at_call 67; refine cP'.mono ?_; rintro e w1 ⟨rfl, hb1⟩)
    go_ret2
    exact ⟨⟨_, rfl, World.ownsRow_nil _ _ _ _⟩, hb1⟩
  | some l =>
    rw [hp] at cP
    have cP' : Calls Tryd.prog 67 #[.string s] w fun e w' => (∃ v, e = .returned (.tuple #[v, .bool true]) ∧ w'.ownsRow w.heap.size 47 2 v l.length (labCells l)) ∧ Below w.heap.size w w' := cP
    have hsum := parse_sum hp
    have hll := sumL_len l
    have hwl := write_len l
    have hmem := fun x (hx : x ∈ l) => sumL_mem hx
    rw [hsl] at hsum
    have hE0 : readE s.data.toList = if writeLab l = s.data.toList then (if canonE l = 0 then (if canonL l = l then 0 else 6) else canonE l) else 6 := by unfold readE; rw [hp]
    have hL0 : readE s.data.toList = 0 → readL s.data.toList = l := fun h => by unfold readL; rw [if_pos h, hp]
    have HSH := Lib.hid hsh
    have cW := Lib.hid (fun v W (h : LRow W v l) => label_Write v l W h (by omega))
    have cN := Lib.hid (fun v W (h : LRow W v l) (hW : Below w.heap.size w W) => (label_Canon v l W h (Utf8Tabs_below hT hW) (fun x hx => by have := hmem x hx; omega) (by omega)).mono (fun e w' h => ⟨canon_end h.1, h.2⟩ : ∀ e w', _ → (∃ v, e = .returned (.tuple #[v, .int .i64 (canonE l)]) ∧ w'.ownsRow W.heap.size 47 2 v (canonL l).length (labCells (canonL l))) ∧ Below W.heap.size W w'))
    have cK := Lib.hid (fun va vb W (h1 : LRow W va (canonL l)) (h2 : LRow W vb l) => label_Compare va vb (canonL l) l W h1 h2)
    have hz := @cmpLabs_zero (canonL l) l
    obtain ⟨bw, hbw⟩ : ∃ b, decide (writeLab l = s.data.toList) = b := ⟨_, rfl⟩
    have t1 : s.toList = s.data.toList := ByteArray.toList_eq _
    have w1 : (writeLab l == s.toList) = bw := by rw [t1, ← hbw, Bool.eq_iff_iff]; simp
    have w2 : ((⟨(writeLab l).toArray⟩ : ByteArray).toList == s.toList) = bw := by rw [← w1, ByteArray.toList_eq]
    have HE0 := Lib.hid hE0
    have HL0 := Lib.hid hL0
    clear cP hp hsum hll hwl hmem hE0 hL0 hsh t1
    generalize writeLab l = WL at *
    generalize canonE l = CE at *
    generalize canonL l = CL at *
    generalize cmpLabs CL l = K at *
    cases bw
    · have hne : WL ≠ s.data.toList := of_decide_eq_false hbw
      have hE := HE0.out
      rw [if_neg hne] at hE
      have hL := read_bad hE (by decide)
      rw [hE, hL]
      clear hE hL hbw hne HE0 HL0
      go_enter Tryd.func37, Tryd.ntmps37
      go_wp2_with (first | (go_at_call 67; refine cP'.mono ?_; rintro e w1 ⟨⟨v1, rfl, ho1⟩, hb1⟩) | (go_at_call 35; refine (cW.out _ _ (argRow_owns ho1)).mono ?_; rintro e w2 ⟨rfl, hb2⟩))
      go_ret2
      exact ⟨⟨_, rfl, World.ownsRow_nil _ _ _ _⟩, below_seq hb1 hb2⟩
    · have heq : WL = s.data.toList := of_decide_eq_true hbw
      have hE := HE0.out
      rw [if_pos heq] at hE
      have HEQ := Lib.hid hE
      clear hE heq hbw HE0
      by_cases hc : CE = 0
      · have hE := HEQ.out
        rw [if_pos hc] at hE
        by_cases hk : K = 0
        · rw [if_pos (hz.1 hk)] at hE
          have hL := HL0.out hE
          have hcl := hz.1 hk
          rw [hE, hL]
          have HCL := Lib.hid hcl
          subst hc hk
          clear hE hL HEQ HL0 hz hcl
          go_enter Tryd.func37, Tryd.ntmps37
          go_wp2_with (first | (go_at_call 67; refine cP'.mono ?_; rintro e w1 ⟨⟨v1, rfl, ho1⟩, hb1⟩) | (go_at_call 35; refine (cW.out _ _ (argRow_owns ho1)).mono ?_; rintro e w2 ⟨rfl, hb2⟩; have hb12 := below_seq hb1 hb2; have ho2 := owns_below ho1 hb2) | (go_at_call 28; refine (cN.out _ _ (argRow_owns ho2) hb12).mono ?_; rintro e w3 ⟨⟨v3, rfl, ho3⟩, hb3⟩; have hb13 := below_seq hb12 hb3; have ho23 := owns_below ho2 hb3) | (go_at_call 33; refine (cK.out _ _ _ (argRow_owns ho3) (argRow_owns ho23)).mono ?_; rintro e w4 ⟨rfl, hb4⟩))
          go_ret2
          exact ⟨⟨_, rfl, by rw [← HCL.out]; exact owns_base (owns_below ho3 hb4) hb12.size⟩, below_seq hb13 hb4⟩
        · have hkb : (K != 0) = true := by simpa using hk
          rw [if_neg (fun h => hk (hz.2 h))] at hE
          have hL := read_bad hE (by decide)
          rw [hE, hL]
          subst hc
          clear hE hL HEQ HL0 hz hk
          go_enter Tryd.func37, Tryd.ntmps37
          go_wp2_with (first | (go_at_call 67; refine cP'.mono ?_; rintro e w1 ⟨⟨v1, rfl, ho1⟩, hb1⟩) | (go_at_call 35; refine (cW.out _ _ (argRow_owns ho1)).mono ?_; rintro e w2 ⟨rfl, hb2⟩; have hb12 := below_seq hb1 hb2; have ho2 := owns_below ho1 hb2) | (go_at_call 28; refine (cN.out _ _ (argRow_owns ho2) hb12).mono ?_; rintro e w3 ⟨⟨v3, rfl, ho3⟩, hb3⟩; have hb13 := below_seq hb12 hb3; have ho23 := owns_below ho2 hb3) | (go_at_call 33; refine (cK.out _ _ _ (argRow_owns ho3) (argRow_owns ho23)).mono ?_; rintro e w4 ⟨rfl, hb4⟩))
          go_ret2
          exact ⟨⟨_, rfl, World.ownsRow_nil _ _ _ _⟩, below_seq hb13 hb4⟩
      · have hE := HEQ.out
        rw [if_neg hc] at hE
        have hL := read_bad hE hc
        have hcb : (CE != 0) = true := by simpa using hc
        rw [hE, hL]
        clear hE hL HEQ HL0 hz hc
        go_enter Tryd.func37, Tryd.ntmps37
        go_wp2_with (first | (go_at_call 67; refine cP'.mono ?_; rintro e w1 ⟨⟨v1, rfl, ho1⟩, hb1⟩) | (go_at_call 35; refine (cW.out _ _ (argRow_owns ho1)).mono ?_; rintro e w2 ⟨rfl, hb2⟩; have hb12 := below_seq hb1 hb2; have ho2 := owns_below ho1 hb2) | (go_at_call 28; refine (cN.out _ _ (argRow_owns ho2) hb12).mono ?_; rintro e w3 ⟨⟨v3, rfl, ho3⟩, hb3⟩; have hb13 := below_seq hb12 hb3))
        go_ret2
        exact ⟨⟨_, rfl, World.ownsRow_nil _ _ _ _⟩, hb13⟩
end Go.Proofs.YtkgnhimepcihpaaDoor
