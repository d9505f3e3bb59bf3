/-
  Plain: sorted records, what may be added, terms and their places.
-/
import Derived.Test.YtaimldndooijdaaGreatDoorVarAll
import Derived.Test.YtaimldndooijdaaGreatDoorTextAll
import Derived.Test.YtaimldndooijdaaGreatDoorRecAll
namespace Go.Proofs.YtaimldndooijdaaGreatDoor

/-! ### The order -/
theorem cmpRec_le {a b : Rec} : cmpRec a b ≤ 0 ↔ a.time < b.time ∨ a.time = b.time ∧ a.seq ≤ b.seq := by
  rw [← cmpRec_eq]
  unfold cmpZ
  repeat' split
  all_goals omega
theorem cmpRec_lt {a b : Rec} : cmpRec a b < 0 ↔ a.time < b.time ∨ a.time = b.time ∧ a.seq < b.seq := by
  rw [← cmpRec_eq]
  unfold cmpZ
  repeat' split
  all_goals omega
theorem cmpRec_total (a b : Rec) : cmpRec a b ≤ 0 ∨ cmpRec b a ≤ 0 := by
  rw [cmpRec_le, cmpRec_le]; omega
theorem cmpRec_trans {a b c : Rec} (h : cmpRec a b ≤ 0) (k : cmpRec b c ≤ 0) : cmpRec a c ≤ 0 := by
  rw [cmpRec_le] at *; omega
/-- Records in order. -/
def Sorted (L : List Rec) : Prop := L.Pairwise fun a b => cmpRec a b ≤ 0
/-- Numbers that rise. -/
def Seqs (L : List Rec) : Prop := L.Pairwise fun a b => a.seq < b.seq
/-- Of one number there is one record. -/
def OneSeq (L : List Rec) : Prop := L.Pairwise fun a b => a.seq ≠ b.seq
theorem Seqs.one {L : List Rec} (h : Seqs L) : OneSeq L := h.imp fun h => Nat.ne_of_lt h
theorem OneSeq.perm {L M : List Rec} (h : OneSeq L) (p : L.Perm M) : OneSeq M := p.pairwise h fun h => Ne.symm h
theorem OneSeq.strict {L : List Rec} (h : OneSeq L) (s : Sorted L) : L.Pairwise fun a b => cmpRec a b < 0 := by
  unfold OneSeq at h
  unfold Sorted at s
  refine List.Pairwise.imp₂ (fun a b h1 h2 => ?_) h s
  rw [cmpRec_le] at h2
  rw [cmpRec_lt]
  omega
theorem strict_sorted_unique : ∀ {A B : List Rec}, A.Pairwise (fun a b => cmpRec a b < 0) → B.Pairwise (fun a b => cmpRec a b < 0) → (∀ x, x ∈ A ↔ x ∈ B) → A = B
  | [], [], _, _, _ => rfl
  | [], b :: B, _, _, h => absurd ((h b).2 (by simp)) (by simp)
  | a :: A, [], _, _, h => absurd ((h a).1 (by simp)) (by simp)
  | a :: A, b :: B, hA, hB, h => by
    rw [List.pairwise_cons] at hA hB
    have e : a = b := by
      rcases List.mem_cons.1 ((h a).1 (by simp)) with e | e
      · exact e
      · rcases List.mem_cons.1 ((h b).2 (by simp)) with e' | e'
        · exact e'.symm
        · have h1 := hB.1 a e
          have h2 := hA.1 b e'
          rw [cmpRec_lt] at h1 h2
          omega
    subst e
    rw [strict_sorted_unique hA.2 hB.2 fun x => ?_]
    have := h x
    simp only [List.mem_cons] at this
    by_cases hx : x = a
    · subst hx
      have n1 : x ∉ A := fun hm => by have := hA.1 x hm; rw [cmpRec_lt] at this; omega
      have n2 : x ∉ B := fun hm => by have := hB.1 x hm; rw [cmpRec_lt] at this; omega
      exact ⟨fun hm => absurd hm n1, fun hm => absurd hm n2⟩
    · simpa [hx] using this
/-- One order of records of numbers of their own. -/
theorem sorted_unique {A B : List Rec} (hA : Sorted A) (hB : Sorted B) (h1 : OneSeq A) (p : A.Perm B) : A = B :=
  strict_sorted_unique (h1.strict hA) ((h1.perm p).strict hB) fun _ => ⟨fun h => p.mem_iff.1 h, fun h => p.mem_iff.2 h⟩

/-! ### What may be added -/
def rises : Bool → Nat → List Rec → Bool
  | _, _, [] => true
  | so, last, r :: l => (!so || decide (last < r.seq)) && rises true r.seq l
def lastS : Nat → List Rec → Nat
  | last, [] => last
  | _, r :: l => lastS r.seq l
/-- What is answered of records that come: of how many there are, the number that came last. -/
def addE (so : Bool) (last n : Nat) (l : List Rec) : Int := if putBad l ≠ 0 then putBad l else if rises so last l = false then 6 else if 65536 < n + l.length then 3 else 0
theorem addE_zero {so : Bool} {last n : Nat} {l : List Rec} : addE so last n l = 0 ↔ putBad l = 0 ∧ rises so last l = true ∧ n + l.length ≤ 65536 := by
  unfold addE
  by_cases h1 : putBad l = 0
  · rw [if_neg (by simpa using h1)]
    by_cases h2 : rises so last l = true
    · rw [if_neg (by simp [h2])]
      by_cases h3 : 65536 < n + l.length
      · rw [if_pos h3]; constructor
        · intro h; omega
        · intro h; omega
      · rw [if_neg h3]; exact ⟨fun _ => ⟨h1, h2, by omega⟩, fun _ => rfl⟩
    · have : rises so last l = false := by simpa using h2
      rw [if_pos this]; constructor
      · intro h; omega
      · intro h; exact absurd h.2.1 h2
  · rw [if_pos h1]
    exact ⟨fun h => absurd h h1, fun h => absurd h.1 h1⟩
theorem rises_spec : ∀ {l : List Rec} {so : Bool} {last : Nat}, rises so last l = true ↔ (so = true → ∀ r ∈ l, last < r.seq) ∧ Seqs l
  | [], so, last => by simp [rises, Seqs]
  | r :: l, so, last => by
    have ih := rises_spec (l := l) (so := true) (last := r.seq)
    unfold rises
    rw [Bool.and_eq_true, ih]
    unfold Seqs
    rw [List.pairwise_cons]
    constructor
    · rintro ⟨h1, h2, h3⟩
      have h2' := h2 rfl
      refine ⟨fun hs x hx => ?_, h2', h3⟩
      subst hs
      have h1' : last < r.seq := by simpa using h1
      rcases List.mem_cons.1 hx with rfl | hx
      · exact h1'
      · exact Nat.lt_trans h1' (h2' x hx)
    · rintro ⟨h1, h2, h3⟩
      refine ⟨?_, fun _ => h2, h3⟩
      cases so
      · rfl
      · have := h1 rfl r (by simp)
        simpa using this
theorem lastS_le : ∀ {l : List Rec} {last : Nat}, Seqs l → ∀ r ∈ l, r.seq ≤ lastS last l
  | r :: l, last, h, x, hx => by
    unfold Seqs at h
    rw [List.pairwise_cons] at h
    unfold lastS
    rcases List.mem_cons.1 hx with rfl | hx
    · cases l with
      | nil => exact Nat.le_refl _
      | cons y l =>
        have h1 := h.1 y (by simp)
        have h2 := lastS_le (last := x.seq) h.2 y (by simp)
        omega
    · exact lastS_le h.2 x hx
theorem lastS_snoc : ∀ (l : List Rec) (last : Nat) (r : Rec), lastS last (l ++ [r]) = r.seq
  | [], _, _ => rfl
  | _ :: l, _, r => lastS_snoc l _ r
theorem lastS_ge : ∀ {l : List Rec} {last : Nat}, rises true last l = true → last ≤ lastS last l
  | [], _, _ => Nat.le_refl _
  | r :: l, last, h => by
    unfold rises at h
    rw [Bool.and_eq_true] at h
    have h1 : last < r.seq := by simpa using h.1
    have := lastS_ge h.2
    unfold lastS
    omega
theorem rises_append : ∀ (l m : List Rec) (so : Bool) (last : Nat), rises so last (l ++ m) = (rises so last l && rises (so || decide (l ≠ [])) (lastS last l) m)
  | [], m, so, last => by simp [rises, lastS]
  | r :: l, m, so, last => by
    rw [List.cons_append]
    simp only [rises, rises_append l m true r.seq, Bool.and_assoc, lastS]
    simp

/-! ### A head -/
/-- What came since it was emptied, how many came last, did any come; all that lies in it, in order. -/
structure HSt where
  L : List Rec
  all : List Rec
  last : Nat
  so : Bool
structure HSt.Ok (S : HSt) : Prop where
  perm : S.all.Perm S.L
  sorted : Sorted S.all
  seqs : Seqs S.L
  le : ∀ r ∈ S.L, r.seq ≤ S.last
  some : S.L ≠ [] → S.so = true
def HSt.empty : HSt := ⟨[], [], 0, false⟩
theorem HSt.empty_ok : HSt.empty.Ok := ⟨List.Perm.refl _, List.Pairwise.nil, List.Pairwise.nil, fun _ h => (by cases h), fun h => absurd rfl h⟩
def HSt.take (S : HSt) : HSt := ⟨[], [], S.last, S.so⟩
theorem HSt.take_ok (S : HSt) : S.take.Ok := ⟨List.Perm.refl _, List.Pairwise.nil, List.Pairwise.nil, fun _ h => (by cases h), fun h => absurd rfl h⟩
theorem HSt.Ok.one {S : HSt} (h : S.Ok) : OneSeq S.all := h.seqs.one.perm h.perm.symm
theorem HSt.Ok.add {S : HSt} (h : S.Ok) {l all : List Rec} (hr : rises S.so S.last l = true) (hp : all.Perm (S.all ++ l)) (hs : Sorted all) : (HSt.mk (S.L ++ l) all (lastS S.last l) (S.so || decide (l ≠ []))).Ok := by
  obtain ⟨h1, h2⟩ := rises_spec.1 hr
  refine ⟨hp.trans (List.Perm.append_right _ h.perm), hs, ?_, fun r hm => ?_, fun hne => ?_⟩
  · unfold Seqs
    rw [List.pairwise_append]
    refine ⟨h.seqs, h2, fun a ha b hb => ?_⟩
    have := h1 (h.some fun e => by rw [e] at ha; cases ha) b hb
    exact Nat.lt_of_le_of_lt (h.le a ha) this
  · rcases List.mem_append.1 hm with hm | hm
    · have hs := h.some fun e => by rw [e] at hm; cases hm
      rw [hs] at hr
      exact Nat.le_trans (h.le r hm) (lastS_ge hr)
    · exact lastS_le h2 r hm
  · show (S.so || decide (l ≠ [])) = true
    by_cases hl : l = []
    · subst hl
      rw [List.append_nil] at hne
      simp [h.some hne]
    · simp [hl]

/-! ### Terms -/
def labT (x : Lab) : Txt := x.1.data.toList ++ 61 :: x.2.data.toList
def termsOf (r : Rec) : List Txt := onceL (words r.line.data.toList ++ r.labs.map labT)
def places (t : Txt) : Nat → List Rec → List Nat
  | _, [] => []
  | k, r :: l => if t ∈ termsOf r then k :: places t (k + 1) l else places t (k + 1) l
theorem places_snoc (t : Txt) (r : Rec) : ∀ (l : List Rec) (k : Nat), places t k (l ++ [r]) = places t k l ++ if t ∈ termsOf r then [k + l.length] else []
  | [], k => by simp [places]
  | y :: l, k => by
    rw [List.cons_append]
    unfold places
    rw [places_snoc t r l (k + 1)]
    have e : k + 1 + l.length = k + (y :: l).length := by simp; omega
    rw [e]
    split <;> simp
theorem places_len (t : Txt) : ∀ (l : List Rec) (k : Nat), (places t k l).length ≤ l.length
  | [], _ => Nat.le_refl _
  | r :: l, k => by
    have := places_len t l (k + 1)
    unfold places
    split <;> simp <;> omega
end Go.Proofs.YtaimldndooijdaaGreatDoor
/-
  Lengths of words; the reference's words of a text; append of one more text.
-/
namespace Go.Proofs.YtaimldndooijdaaGreatDoor
open Go.RowKit
theorem h_words_len (l : List UInt8) : (words l).length ≤ l.length := by
  have := runsOfText_len l
  rw [← runsOfText_words, List.length_map]; omega
theorem h_insU_len (x : Txt) (O : List Txt) : (insU x O).length ≤ O.length + 1 := by
  induction O with
  | nil => simp [insU_nil]
  | cons y O ih =>
    rw [insU_cons]
    split
    · simp; omega
    · split <;> simp
theorem h_onceL_len (L : List Txt) : (onceL L).length ≤ L.length := by
  have : ∀ (L out : List Txt), (L.foldl (fun out x => insU x out) out).length ≤ out.length + L.length := by
    intro L
    induction L with
    | nil => intro out; simp
    | cons x L ih =>
      intro out
      have h1 := ih (insU x out)
      have h2 := h_insU_len x out
      rw [List.foldl_cons, List.length_cons]; omega
  have h := this L []
  simpa [onceL] using h
theorem h_pickW_false (l : List UInt8) : pickW false (runes l).length (segs 0 (runes l)) = words l := by
  unfold pickW words
  rw [List.filter_eq_self.2 (fun _ _ => by simp)]
theorem h_ref_All (s : ByteArray) (w : World) (hs : s.size ≤ 1000000000) :
    Calls Tryz.prog 73 #[.string s, .bool false] w fun e w' => ∃ v, e = .returned v ∧ Texts w' w.heap.size v (words s.data.toList) ∧ Below w.heap.size w w' := by
  have h := ref_All s false w hs
  rw [h_pickW_false] at h
  exact h
end Go.Proofs.YtaimldndooijdaaGreatDoor
/-
  The terms of a record: head.Terms, the reference's.
-/
namespace Go.Proofs.YtaimldndooijdaaGreatDoor
open Go.RowKit
theorem ES : ElemT Tryz.prog 49 9 (.string ⟨#[]⟩) 1 16 := ⟨Tryz.underlying49, info_str, rfl, by decide⟩
theorem labT_str (x : Lab) : Value.string (x.1 ++ ⟨#[61]⟩ ++ x.2) = strV (labT x) := by
  unfold strV labT
  congr 1
  apply ByteArray.ext
  simp
set_option maxRecDepth 100000 in
set_option maxHeartbeats 4000000 in
theorem head_Terms (r : Rec) (lv : Value) (w : World) (h : RecAt w lv r) :
    Calls Tryz.prog 21 #[recV r lv] w fun e w' => ∃ v, e = .returned v ∧ Texts w' w.heap.size v (termsOf r) ∧ Below w.heap.size w w' := by
  obtain ⟨hL, hs, hLn, hl⟩ := h
  have hwl := h_words_len r.line.data.toList
  rw [size_list] at hwl
  have hdef : termsOf r = onceL (words r.line.data.toList ++ r.labs.map labT) := rfl
  have HO := Lib.hid (once_sorted (words r.line.data.toList ++ r.labs.map labT))
  rw [← hdef] at HO
  generalize termsOf r = TT at *
  have cW := fun W => text_Words' r.line W hl
  have hone := one_new w #[.int .i64 r.time, .int .u64 (r.seq : Int), lv, .string r.line] 47
  have hb1 : Below w.heap.size w (w.alloc (.cells #[.int .i64 r.time, .int .u64 (r.seq : Int), lv, .string r.line] 47)) := belowA (Below.refl _ _)
  obtain ⟨al, cl, rfl, hlc, hlm⟩ := hL.shape
  unfold maxLen at hlm
  unfold recV
  generalize r.time = ta at *
  generalize (r.seq : Int) = sa at *
  generalize r.line = na at *
  generalize r.labs = L at *
  generalize words na.data.toList = WL at *
  have HL := Lib.hid hL
  have HS := Lib.hid hs
  have CW := Lib.hid cW
  clear hL hs cW hdef
  go_enter Tryz.func21, Tryz.ntmps21
  go_upto_region 1 with fail
  generalize w.alloc (.cells #[.int .i64 ta, .int .u64 sa, .slice al L.length cl, .string na] 47) = w1 at *
  have HONE := Lib.hid (show ∀ w', Below w1.heap.size w1 w' → w'.cell? ⟨w.heap.size, 2, none⟩ = some (.slice al L.length cl) ∧ w'.cell? ⟨w.heap.size, 3, none⟩ = some (.string na) from fun w' h => ⟨hone w' h 2, hone w' h 3⟩)
  clear hone
  have g0 := (HONE.out w1 (Below.refl _ _)).2
  go_upto_region 2 with (go_at_call 33; refine (CW.out _).mono ?_; rintro e w2 ⟨v2, rfl, hT2, hb2⟩; have g2 := (HONE.out w2 hb2).1)
  have hb02 := below_seq hb1 hb2
  have hw1s := hb1.size
  clear g0 CW
  go_wp2_with fail
  clear g2
  go_loopw [3, 12] (fun l i wr => ∃ k : Nat, k ≤ L.length ∧ i = .int .i64 k ∧ Texts wr w1.heap.size l (WL ++ (L.take k).map labT) ∧ Below w1.heap.size w1 wr) (fun _ i _ => L.length - (intOf i).toNat)
  case atStart => exact ⟨0, by omega, rfl, by simpa using hT2, hb2⟩
  case round =>
    obtain ⟨k, hk, rfl, hown, hbr⟩ := hrel
    have hbw := below_seq hb1 hbr
    have hszr := hbr.size
    by_cases hlt : k < L.length
    · obtain ⟨b, off, rfl, hbl, g1, g2⟩ := (HL.out.below hbw).at hlt
      obtain ⟨z1, z2⟩ := HS.out L[k] (List.getElem_mem hlt)
      have hft : (L.take (k + 1)).map labT = (L.take k).map labT ++ [labT L[k]] := by rw [List.take_succ_eq_append_getElem hlt, List.map_append]; rfl
      have hstr := labT_str L[k]
      generalize labT L[k] = lt at *
      generalize L[k].1 = n1 at *
      generalize L[k].2 = n2 at *
      have HFT := Lib.hid hft
      have HSTR := Lib.hid hstr
      clear hft hstr
      have hvl : (WL ++ (L.take k).map labT).length ≤ na.size + k := by
        rw [List.length_append, List.length_map]
        have := List.length_take_le k L
        omega
      generalize hAL : (WL ++ (L.take k).map labT) = AL at *
      have HAL := Lib.hid hAL
      clear hAL
      have hsrc : Src Tryz.prog 1 49 (.slice (some ⟨wr.heap.size + 1, 0, none⟩) 1 1) 1 [.string (n1 ++ ⟨#[61]⟩ ++ n2)] ((wr.alloc (.cells #[.string n1, .string n2] 62)).alloc (.cells #[.string (n1 ++ ⟨#[61]⟩ ++ n2)] 9)) :=
        src_last (cs := #[.string (n1 ++ ⟨#[61]⟩ ++ n2)]) Tryz.underlying49 1 1 1 (by simp) rfl (by simp [Value.oneCell'])
      have hown2 := (hown.alloc (.cells #[.string n1, .string n2] 62)).alloc (.cells #[.string (n1 ++ ⟨#[61]⟩ ++ n2)] 9)
      go_wp2_with (at_builtin; go_loud (refine wpList_append_src rfl _ _ _ _ rfl w1.heap.size ES _ _ _ rfl hown2 _ 1 [.string (n1 ++ ⟨#[61]⟩ ++ n2)] rfl (by exact hsrc) (by unfold maxLen; omega) (by omega) (by simp; omega) ?_); intro v' w3 hown3 hgr _ _)
      go_roundw
      case rel =>
        refine ⟨k + 1, by omega, by go_num, ?_, ((hbr.alloc hszr _).alloc (by simp; omega) _).grown hgr (by simp; omega) (fun j hj => (hown.lt j hj).1)⟩
        rw [HSTR.out] at hown3
        rw [HFT.out, ← List.append_assoc, HAL.out]
        unfold Texts
        simp only [List.map_append, List.map_cons, List.map_nil, List.length_append, List.length_cons, List.length_nil] at hown3 ⊢
        exact hown3
      case measure => simp [intOf]; omega
    · obtain rfl : k = L.length := by omega
      rw [List.take_length] at hown
      have hLl : (WL ++ L.map labT).length ≤ na.size + L.length := by rw [List.length_append, List.length_map]; omega
      generalize WL ++ L.map labT = AL at *
      obtain ⟨la, lc, rfl⟩ := owns_slice hown
      have hsz := hbr.size
      go_wp2_with fail
      refine (sort_own hown (by omega)).mono ?_
      rintro e w2 ⟨rfl, hT2, hg2⟩
      go_wp2_with fail
      refine (compact_own hT2 (by rw [List.length_mergeSort]; omega)).mono ?_
      rintro e w3 ⟨v3, rfl, hT3, hg3⟩
      go_wp2_with fail
      go_ret
      rw [HO.out] at hT3
      have s2 := hg2.size
      exact ⟨_, rfl, owns_base hT3 hw1s, hb1.trans (((hbr.grown hg2 (by omega) (fun k hk => (hown.lt k hk).1)).grown hg3 (by omega) (fun k hk => (hown.lt k hk).1)).mono hw1s)⟩
set_option maxRecDepth 100000 in
set_option maxHeartbeats 4000000 in
theorem ref13_Terms (r : Rec) (lv : Value) (w : World) (h : RecAt w lv r) :
    Calls Tryz.prog 50 #[recV r lv] w fun e w' => ∃ v, e = .returned v ∧ Texts w' w.heap.size v (termsOf r) ∧ Below w.heap.size w w' := by
  obtain ⟨hL, hs, hLn, hl⟩ := h
  have hwl := h_words_len r.line.data.toList
  rw [size_list] at hwl
  have hdef : onceL (words r.line.data.toList ++ r.labs.map labT) = termsOf r := rfl
  have HDEF := Lib.hid hdef
  clear hdef
  generalize termsOf r = TT at *
  have cW := fun W => h_ref_All r.line W hl
  have hone := one_new w #[.int .i64 r.time, .int .u64 (r.seq : Int), lv, .string r.line] 47
  have hb1 : Below w.heap.size w (w.alloc (.cells #[.int .i64 r.time, .int .u64 (r.seq : Int), lv, .string r.line] 47)) := belowA (Below.refl _ _)
  obtain ⟨al, cl, rfl, hlc, hlm⟩ := hL.shape
  unfold maxLen at hlm
  unfold recV
  generalize r.time = ta at *
  generalize (r.seq : Int) = sa at *
  generalize r.line = na at *
  generalize r.labs = L at *
  generalize words na.data.toList = WL at *
  have HL := Lib.hid hL
  have HS := Lib.hid hs
  have CW := Lib.hid cW
  clear hL hs cW
  go_enter Tryz.func50, Tryz.ntmps50
  go_upto_region 1 with fail
  generalize w.alloc (.cells #[.int .i64 ta, .int .u64 sa, .slice al L.length cl, .string na] 47) = w1 at *
  have HONE := Lib.hid (show ∀ w', Below w1.heap.size w1 w' → w'.cell? ⟨w.heap.size, 2, none⟩ = some (.slice al L.length cl) ∧ w'.cell? ⟨w.heap.size, 3, none⟩ = some (.string na) from fun w' h => ⟨hone w' h 2, hone w' h 3⟩)
  clear hone
  have g0 := (HONE.out w1 (Below.refl _ _)).2
  go_upto_region 2 with (go_at_call 73; refine (CW.out _).mono ?_; rintro e w2 ⟨v2, rfl, hT2, hb2⟩)
  have hw1s := hb1.size
  clear g0 CW
  go_wp2_with fail
  go_loopw [3, 4] (fun l i wr => ∃ k : Nat, k ≤ L.length ∧ i = .int .i64 k ∧ Texts wr w1.heap.size l (WL ++ (L.take k).map labT) ∧ Below w1.heap.size w1 wr) (fun _ i _ => L.length - (intOf i).toNat)
  case atStart => exact ⟨0, by omega, rfl, by simpa using hT2, hb2⟩
  case round =>
    obtain ⟨k, hk, rfl, hown, hbr⟩ := hrel
    have hbw := below_seq hb1 hbr
    have hszr := hbr.size
    have g0 := (HONE.out wr hbr).1
    by_cases hlt : k < L.length
    · obtain ⟨b, off, rfl, hbl, g1, g2⟩ := (HL.out.below hbw).at hlt
      obtain ⟨z1, z2⟩ := HS.out L[k] (List.getElem_mem hlt)
      have hft : (L.take (k + 1)).map labT = (L.take k).map labT ++ [labT L[k]] := by rw [List.take_succ_eq_append_getElem hlt, List.map_append]; rfl
      have hstr := labT_str L[k]
      generalize labT L[k] = lt at *
      generalize L[k].1 = n1 at *
      generalize L[k].2 = n2 at *
      have HFT := Lib.hid hft
      have HSTR := Lib.hid hstr
      clear hft hstr
      have hvl : (WL ++ (L.take k).map labT).length ≤ na.size + k := by
        rw [List.length_append, List.length_map]
        have := List.length_take_le k L
        omega
      generalize hAL : (WL ++ (L.take k).map labT) = AL at *
      have HAL := Lib.hid hAL
      clear hAL
      obtain ⟨la, lc, rfl⟩ := owns_slice hown
      have HOWN := Lib.hid hown
      clear hown
      have i0 : (0 : Int) ≤ (k : Int) := by omega
      have i1 : (k : Int) < (L.length : Int) := by omega
      have HSRC := Lib.hid (src_new (P := Tryz.prog) (w := (wr.alloc (.cells #[.string (n1 ++ ⟨#[61]⟩ ++ n2)] 9)).drew) (B := wr.heap.size) (cs := #[.string (n1 ++ ⟨#[61]⟩ ++ n2)]) (t := 9) (fr := (0, 0)) Tryz.underlying49 1 1 1 (by exact heap_alloc_new wr (.cells #[.string (n1 ++ ⟨#[61]⟩ ++ n2)] 9)) rfl (by simp [Value.oneCell']))
      have q1 : ¬ 9223372036854775807 < n1.size + 1 := by omega
      have q2 : ¬ 9223372036854775807 < n1.size + 1 + n2.size := by omega
      go_upto_region 5 with fail
      go_region_law (first
        | (first
          | (go_loud (refine step_append_src rfl (.tmp 15) (.tmp 30) _ _ (by rfl) w1.heap.size ES _ AL.length (AL.map strV) rfl (by (repeat (first | exact HOWN.out | with_reducible refine World.ownsRow.alloc ?_ _ | with_reducible refine World.ownsRow.drew ?_)); done) _ 1 [.string (n1 ++ ⟨#[61]⟩ ++ n2)] rfl (by exact HSRC.out) (by unfold maxLen; omega) (by omega) (by simp; omega) ?_)
             intro v3 w3 hown3 hgr _ _
             have hb3 := ((hbr.alloc hszr (.cells #[.string (n1 ++ ⟨#[61]⟩ ++ n2)] 9)).drew).grown hgr (by simp; omega) (fun j hj => (HOWN.out.lt j hj).1))
          | fail))
      all_goals
        go_wp2_with fail
        go_roundw
        case rel =>
          refine ⟨k + 1, by omega, by go_num, ?_, hb3⟩
          rw [HSTR.out] at hown3
          rw [HFT.out, ← List.append_assoc, HAL.out]
          unfold Texts
          simp only [List.map_append, List.map_cons, List.map_nil, List.length_append, List.length_cons, List.length_nil] at hown3 ⊢
          exact hown3
        case measure => simp [intOf]; omega
    · obtain rfl : k = L.length := by omega
      rw [List.take_length] at hown
      have hLl : (WL ++ L.map labT).length ≤ na.size + L.length := by rw [List.length_append, List.length_map]; omega
      generalize WL ++ L.map labT = AL at *
      obtain ⟨la, lc, rfl⟩ := owns_slice hown
      have hsz := hbr.size
      have cO := ref_Once (.slice la AL.length lc) AL wr (argRow_owns hown) (by omega)
      rw [HDEF.out] at cO
      go_wp2_with (go_at_call 74; refine cO.mono ?_; rintro e w3 ⟨v3, rfl, hT3, hb3⟩)
      go_ret
      exact ⟨_, rfl, owns_base hT3 (by omega), hb1.trans ((hbr.trans (hb3.mono hbr.size)).mono hw1s)⟩
end Go.Proofs.YtaimldndooijdaaGreatDoor
