/-
  The walks of the laws: awake, TextWords, TextHas.
-/
import Derived.Test.YtgopmhfehobooaaTextY
import Derived.Test.YtgopmhfehobooaaTextD
import Derived.Test.YtgopmhfehobooaaTextS
import Derived.ChangeAgain
namespace Go.Proofs.Ytgopmhfehobooaa
open Go.RowKit

theorem shaped_below {P : Program} {W w' : World} (h : W.ShapedOpen P) (hb : Below W.heap.size W w') : w'.ShapedOpen P := h.keptBut (hb.frame fun _ => False) (fun _ h => h.elim)
theorem map_mk_eq (xs ys : List Txt) : (xs.map (fun l => (⟨l.toArray⟩ : ByteArray)) = ys.map (fun l => (⟨l.toArray⟩ : ByteArray))) ↔ xs = ys := by
  constructor
  · intro h
    have := congrArg (List.map fun s : ByteArray => s.data.toList) h
    rw [List.map_map, List.map_map] at this
    have e : ((fun s : ByteArray => s.data.toList) ∘ fun l : Txt => (⟨l.toArray⟩ : ByteArray)) = id := funext fun _ => rfl
    rwa [e, List.map_id, List.map_id] at this
  · intro h; rw [h]
theorem ref_Same' (va vb : Value) (xs ys : List Txt) (w : World) (hx : argRow w va xs.length 1 (xs.map strV)) (hy : argRow w vb ys.length 1 (ys.map strV)) (hlx : xs.length ≤ 1000000000) (hly : ys.length ≤ 1000000000) :
    Calls Try.prog 9 #[va, vb] w fun e w' => e = .returned (.bool (decide (xs = ys))) ∧ Below w.heap.size w w' := by
  have h := ref_Same va vb (xs.map fun l => (⟨l.toArray⟩ : ByteArray)) (ys.map fun l => (⟨l.toArray⟩ : ByteArray)) w (by unfold strRow; rw [List.length_map, List.map_map]; exact hx) (by unfold strRow; rw [List.length_map, List.map_map]; exact hy) (by rwa [List.length_map]) (by rwa [List.length_map])
  rw [show decide (xs.map (fun l => (⟨l.toArray⟩ : ByteArray)) = ys.map (fun l => (⟨l.toArray⟩ : ByteArray))) = decide (xs = ys) from decide_eq_decide.2 (map_mk_eq xs ys)] at h
  exact h
theorem same_true (va vb : Value) (xs : List Txt) (w : World) (hx : argRow w va xs.length 1 (xs.map strV)) (hy : argRow w vb xs.length 1 (xs.map strV)) (hlx : xs.length ≤ 1000000000) :
    Calls Try.prog 9 #[va, vb] w fun e w' => e = .returned (.bool true) ∧ Below w.heap.size w w' := by
  have h := ref_Same' va vb xs xs w hx hy hlx hlx
  rwa [decide_eq_true rfl] at h
theorem argRow_new {W : World} {cs : Array Value} {t : TypeId} {n B : Nat} (hn : cs.toList.length = n) (hB : W.heap.size = B) (hm : n ≤ maxLen) : argRow (W.alloc (.cells cs t)) (.slice (some ⟨B, 0, none⟩) n n) n 1 cs.toList := by
  subst hB
  exact argRow_owns (owns_new W cs t n (by simpa using hn) hm)
theorem mkB (l : List UInt8) : (⟨l.toArray⟩ : ByteArray).data.toList = l := rfl
theorem words_awake (w : World) : Calls Try.prog 10 #[.string ⟨#[71, 69, 84, 32, 47, 97, 112, 105, 47, 118, 49, 32, 71, 69, 84]⟩] w fun e w' => ∃ v, e = .returned v ∧ Texts w' w.heap.size v [[103, 101, 116], [97, 112, 105], [118, 49], [103, 101, 116]] ∧ Below w.heap.size w w' := by
  have h := text_Words' ⟨#[71, 69, 84, 32, 47, 97, 112, 105, 47, 118, 49, 32, 71, 69, 84]⟩ w (by decide)
  rw [show words (⟨#[71, 69, 84, 32, 47, 97, 112, 105, 47, 118, 49, 32, 71, 69, 84]⟩ : ByteArray).data.toList = [[103, 101, 116], [97, 112, 105], [118, 49], [103, 101, 116]] by decide +kernel] at h
  exact h
theorem set_awake (w : World) : Calls Try.prog 11 #[.string ⟨#[98, 32, 97, 32, 98]⟩] w fun e w' => ∃ v, e = .returned v ∧ Texts w' w.heap.size v [[97], [98]] ∧ Below w.heap.size w w' := by
  have h := text_Set ⟨#[98, 32, 97, 32, 98]⟩ w (by decide)
  rw [show onceL (words (⟨#[98, 32, 97, 32, 98]⟩ : ByteArray).data.toList) = [[97], [98]] by decide +kernel] at h
  exact h
theorem inner_awake (w : World) : Calls Try.prog 13 #[.string ⟨#[120, 61, 70, 111, 111, 32, 98, 97, 114]⟩] w fun e w' => ∃ v, e = .returned v ∧ Texts w' w.heap.size v [[102, 111, 111]] ∧ Below w.heap.size w w' := by
  have h := text_Inner ⟨#[120, 61, 70, 111, 111, 32, 98, 97, 114]⟩ w (by decide)
  rw [show onceL (inners (⟨#[120, 61, 70, 111, 111, 32, 98, 97, 114]⟩ : ByteArray).data.toList) = [[102, 111, 111]] by decide +kernel] at h
  exact h
theorem has_awake (w : World) (hsh : w.ShapedOpen Try.prog) : Calls Try.prog 16 #[.string ⟨#[97, 98, 99]⟩, .string ⟨#[98, 99]⟩] w fun e w' => e = .returned (.bool true) ∧ w = w' := by
  have h := text_Has ⟨#[97, 98, 99]⟩ ⟨#[98, 99]⟩ w hsh (by decide)
  rw [show Lib.contains (⟨#[97, 98, 99]⟩ : ByteArray).data.toList (⟨#[98, 99]⟩ : ByteArray).data.toList = true by decide +kernel] at h
  exact h
theorem has_awake' (w : World) (hsh : w.ShapedOpen Try.prog) : Calls Try.prog 16 #[.string ⟨#[97, 98, 99]⟩, .string ⟨#[99, 98]⟩] w fun e w' => e = .returned (.bool false) ∧ w = w' := by
  have h := text_Has ⟨#[97, 98, 99]⟩ ⟨#[99, 98]⟩ w hsh (by decide)
  rw [show Lib.contains (⟨#[97, 98, 99]⟩ : ByteArray).data.toList (⟨#[99, 98]⟩ : ByteArray).data.toList = false by decide +kernel] at h
  exact h

set_option maxRecDepth 100000 in
set_option maxHeartbeats 2000000 in
theorem awake_true (w : World) (hsh : w.ShapedOpen Try.prog) :
    Calls Try.prog 7 #[] w fun e w' => e = .returned (.bool true) ∧ Below w.heap.size w w' := by
  go_enter Try.func7, Try.ntmps7
  go_wp2_with fail
  refine (words_awake _).mono ?_
  rintro e w1 ⟨v1, rfl, ht1, hb1⟩
  have hr1 := argRow_owns ht1
  go_wp2_with fail
  refine (same_true _ _ _ _ (argRow_below hr1 ((Below.refl _ _).alloc (Nat.le_refl _) _)) (argRow_new rfl rfl (by decide)) (by decide)).mono ?_
  rintro e w2 ⟨rfl, hb2⟩
  go_wp2_with fail
  refine (set_awake _).mono ?_
  rintro e w3 ⟨v3, rfl, ht3, hb3⟩
  have hr3 := argRow_owns ht3
  go_wp2_with fail
  refine (same_true _ _ _ _ (argRow_below hr3 ((Below.refl _ _).alloc (Nat.le_refl _) _)) (argRow_new rfl rfl (by decide)) (by decide)).mono ?_
  rintro e w4 ⟨rfl, hb4⟩
  go_wp2_with fail
  refine (inner_awake _).mono ?_
  rintro e w5 ⟨v5, rfl, ht5, hb5⟩
  have hr5 := argRow_owns ht5
  go_wp2_with fail
  refine (same_true _ _ _ _ (argRow_below hr5 ((Below.refl _ _).alloc (Nat.le_refl _) _)) (argRow_new rfl rfl (by decide)) (by decide)).mono ?_
  rintro e w6 ⟨rfl, hb6⟩
  have hA := fun {a b : World} {o : Obj} (h : Below (a.alloc o).heap.size (a.alloc o) b) => below_seq ((Below.refl _ _).alloc (Nat.le_refl _) o) h
  have hb := below_seq (below_seq (below_seq (below_seq (below_seq hb1 (hA hb2)) hb3) (hA hb4)) hb5) (hA hb6)
  have hs6 := shaped_below hsh hb
  go_wp2_with fail
  refine (has_awake _ hs6).mono ?_
  rintro e w7 ⟨rfl, rfl⟩
  go_wp2_with fail
  refine (has_awake' _ hs6).mono ?_
  rintro e w7 ⟨rfl, rfl⟩
  go_wp2_with fail
  go_ret
  exact ⟨rfl, hb⟩

theorem words_len (l : List UInt8) : (words l).length ≤ l.length := by
  have := runsOfText_len l
  rw [← runsOfText_words, List.length_map]; omega
theorem inners_len (l : List UInt8) : (inners l).length ≤ l.length := by
  have h1 := segs_len (runes l) 0
  have h2 := runes_length l
  unfold inners
  rw [List.length_map]
  have := List.length_filter_le (innerR (runes l).length) (segs 0 (runes l))
  omega
theorem insU_len (x : Txt) (O : List Txt) : (insU x O).length ≤ O.length + 1 := by
  induction O with
  | nil => simp [insU_nil]
  | cons y O ih =>
    rw [insU_cons]
    split
    · simp; omega
    · split <;> simp
theorem onceL_len (L : List Txt) : (onceL L).length ≤ L.length := by
  have : ∀ (L out : List Txt), (L.foldl (fun out x => insU x out) out).length ≤ out.length + L.length := by
    intro L
    induction L with
    | nil => intro out; simp
    | cons x L ih =>
      intro out
      have h1 := ih (insU x out)
      have h2 := insU_len x out
      rw [List.foldl_cons, List.length_cons]; omega
  have h := this L []
  simpa [onceL] using h
theorem pickW_false (l : List UInt8) : pickW false (runes l).length (segs 0 (runes l)) = words l := by
  unfold pickW words
  rw [List.filter_eq_self.2 (fun _ _ => by simp)]
theorem pickW_true (l : List UInt8) : pickW true (runes l).length (segs 0 (runes l)) = inners l := by
  unfold pickW inners
  simp
theorem ref_All0 (s : ByteArray) (w : World) (hs : s.size ≤ 1000000000) :
    Calls Try.prog 8 #[.string s, .bool false] w fun e w' => ∃ v, e = .returned v ∧ Texts w' w.heap.size v (words s.data.toList) ∧ Below w.heap.size w w' := by
  have h := ref_All s false w hs
  rw [pickW_false] at h
  exact h
theorem ref_All1 (s : ByteArray) (w : World) (hs : s.size ≤ 1000000000) :
    Calls Try.prog 8 #[.string s, .bool true] w fun e w' => ∃ v, e = .returned v ∧ Texts w' w.heap.size v (inners s.data.toList) ∧ Below w.heap.size w w' := by
  have h := ref_All s true w hs
  rw [pickW_true] at h
  exact h
theorem rowT {w w' : World} {B : Nat} {v : Value} {L : List Txt} (h : Texts w B v L) (hb : Below w.heap.size w w') : argRow w' v L.length 1 (L.map strV) := argRow_below (argRow_owns h) hb

set_option maxRecDepth 100000 in
set_option maxHeartbeats 2000000 in
theorem words_walk (s : ByteArray) (w : World) (hsh : w.ShapedOpen Try.prog) (hs : s.size ≤ 1048576) :
    Calls Try.prog 3 #[.string s] w fun e w' => e = .returned (.bool true) ∧ Below w.heap.size w w' := by
  have l1 := words_len s.data.toList
  have l2 := inners_len s.data.toList
  have l3 := onceL_len (words s.data.toList)
  have l4 := onceL_len (inners s.data.toList)
  rw [size_list] at l1 l2
  have cW := fun W => text_Words' s W (by omega)
  have cS := fun W => text_Set s W (by omega)
  have cI := fun W => text_Inner s W (by omega)
  have cA := fun W => ref_All0 s W (by omega)
  have cB := fun W => ref_All1 s W (by omega)
  generalize words s.data.toList = A at *
  generalize inners s.data.toList = I at *
  go_enter Try.func3, Try.ntmps3
  go_wp2_with fail
  refine (awake_true _ hsh).mono ?_
  rintro e w1 ⟨rfl, hb1⟩
  go_wp2_with fail
  refine (cA _).mono ?_
  rintro e w2 ⟨v2, rfl, t2, hb2⟩
  go_wp2_with fail
  refine (cW _).mono ?_
  rintro e w3 ⟨v3, rfl, t3, hb3⟩
  go_wp2_with fail
  refine (same_true _ _ A _ (argRow_owns t3) (rowT t2 hb3) (by omega)).mono ?_
  rintro e w4 ⟨rfl, hb4⟩
  go_wp2_with fail
  refine (cS _).mono ?_
  rintro e w5 ⟨v5, rfl, t5, hb5⟩
  have h45 := below_seq hb4 hb5
  go_wp2_with fail
  refine (ref_Once _ A _ (rowT t2 (below_seq hb3 h45)) (by omega)).mono ?_
  rintro e w6 ⟨v6, rfl, t6, hb6⟩
  go_wp2_with fail
  refine (same_true _ _ (onceL A) _ (rowT t5 hb6) (argRow_owns t6) (by omega)).mono ?_
  rintro e w7 ⟨rfl, hb7⟩
  go_wp2_with fail
  refine (cI _).mono ?_
  rintro e w8 ⟨v8, rfl, t8, hb8⟩
  go_wp2_with fail
  refine (cB _).mono ?_
  rintro e w9 ⟨v9, rfl, t9, hb9⟩
  go_wp2_with fail
  refine (ref_Once _ I _ (argRow_owns t9) (by omega)).mono ?_
  rintro e w10 ⟨v10, rfl, t10, hb10⟩
  go_wp2_with fail
  refine (same_true _ _ (onceL I) _ (rowT t8 (below_seq hb9 hb10)) (argRow_owns t10) (by omega)).mono ?_
  rintro e w11 ⟨rfl, hb11⟩
  go_wp2_with fail
  go_ret
  exact ⟨rfl, below_seq (below_seq (below_seq (below_seq (below_seq (below_seq (below_seq (below_seq (below_seq hb1 hb2) hb3) h45) hb6) hb7) hb8) hb9) hb10) hb11⟩

set_option maxRecDepth 100000 in
set_option maxHeartbeats 1000000 in
theorem law_has (s t : ByteArray) (w : World) (hsh : w.ShapedOpen Try.prog) (hs : s.size ≤ 1000000000) (ht : t.size ≤ 1000000000) :
    Calls Try.prog 15 #[.string s, .string t] w fun e w' => e = .returned (.bool true) ∧ w = w' := by
  have c1 := text_Has s t w hsh hs
  have c2 := ref_Has s t w hs ht
  generalize Lib.contains s.data.toList t.data.toList = C at *
  have hbe : (C == C) = true := by simp
  go_enter Try.func15, Try.ntmps15
  go_wp2_with fail
  refine c1.mono ?_
  rintro e w' ⟨rfl, rfl⟩
  go_wp2_with fail
  refine c2.mono ?_
  rintro e w' ⟨rfl, rfl⟩
  go_wp2_with fail
  go_ret
  exact ⟨rfl, rfl⟩

set_option maxRecDepth 100000 in
set_option maxHeartbeats 1000000 in
theorem has_walk (s t : ByteArray) (a b : Int) (w : World) (hsh : w.ShapedOpen Try.prog) (hs : s.size ≤ 1048576) (ht : t.size ≤ 1048576) :
    Calls Try.prog 4 #[.string s, .string t, .agg #[.int .i64 a, .int .i64 b]] w fun e w' => e = .returned (.bool true) ∧ Below w.heap.size w w' := by
  have cC := fun W => law_cut s a b W (by omega)
  have cH := fun W hW => law_has s t W hW (by omega) (by omega)
  go_enter Try.func4, Try.ntmps4
  go_wp2_with fail
  refine (cC _).mono ?_
  rintro e w1 ⟨p, rfl, hp, ⟨K, M, hKM, hpe⟩, rfl⟩
  have hs1 : ∀ o, (w.alloc o).ShapedOpen Try.prog := fun o => shaped_below hsh ((Below.refl _ _).alloc (Nat.le_refl _) _)
  have cH2 := fun W hW => law_has s p W hW (by omega) (by omega)
  have cT := fun W hW => text_Has s p W hW (by omega)
  rw [hpe, contains_part _ _ _ (by rw [size_list]; exact hKM)] at cT
  clear hpe
  go_wp2_with fail
  refine (awake_true _ (hs1 _)).mono ?_
  rintro e w2 ⟨rfl, hb2⟩
  have hs2 := shaped_below (hs1 _) hb2
  go_wp2_with fail
  refine (cH _ hs2).mono ?_
  rintro e w' ⟨rfl, rfl⟩
  go_wp2_with fail
  refine (cH2 _ hs2).mono ?_
  rintro e w' ⟨rfl, rfl⟩
  go_wp2_with fail
  refine (cT _ hs2).mono ?_
  rintro e w' ⟨rfl, rfl⟩
  go_wp2_with fail
  go_ret
  exact ⟨rfl, below_seq ((Below.refl _ _).alloc (Nat.le_refl _) _) hb2⟩
end Go.Proofs.Ytgopmhfehobooaa
