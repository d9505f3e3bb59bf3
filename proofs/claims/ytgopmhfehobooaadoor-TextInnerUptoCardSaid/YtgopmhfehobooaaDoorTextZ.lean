/-
  The walks of the laws: awake, TextWords, TextHas.
-/
import Derived.Test.YtgopmhfehobooaaDoorTextY
import Derived.Test.YtgopmhfehobooaaDoorTextD
import Derived.Test.YtgopmhfehobooaaDoorTextS
import Derived.ChangeAgain
namespace Go.Proofs.YtgopmhfehobooaaDoor
open Go.RowKit

theorem shaped_below {P : Program} {W w' : World} (h : W.ShapedOpen P) (hb : Below W.heap.size W w') : w'.ShapedOpen P := h.keptBut (hb.frame fun _ => False) (fun _ h => h.elim)
theorem map_mk_eq (xs ys : List Txt) : (xs.map (fun l => (⟨l.toArray⟩ : ByteArray)) = ys.map (fun l => (⟨l.toArray⟩ : ByteArray))) ↔ xs = ys := by
  constructor
  · intro h
    have := congrArg (List.map fun s : ByteArray => s.data.toList) h
    rw [List.map_map, List.map_map] at this
    have e : ((fun s : ByteArray => s.data.toList) ∘ fun l : Txt => (⟨l.toArray⟩ : ByteArray)) = id := funext fun _ => rfl
    rwa [e, List.map_id, List.map_id] at this
  · intro h; rw [h]
theorem ref_Same' (va vb : Value) (xs ys : List Txt) (w : World) (hx : argRow w va xs.length 1 (xs.map strV)) (hy : argRow w vb ys.length 1 (ys.map strV)) (hlx : xs.length ≤ 1000000000) (hly : ys.length ≤ 1000000000) :
    Calls Tryd.prog 10 #[va, vb] w fun e w' => e = .returned (.bool (decide (xs = ys))) ∧ Below w.heap.size w w' := by
  have h := ref_Same va vb (xs.map fun l => (⟨l.toArray⟩ : ByteArray)) (ys.map fun l => (⟨l.toArray⟩ : ByteArray)) w (by unfold strRow; rw [List.length_map, List.map_map]; exact hx) (by unfold strRow; rw [List.length_map, List.map_map]; exact hy) (by rwa [List.length_map]) (by rwa [List.length_map])
  rw [show decide (xs.map (fun l => (⟨l.toArray⟩ : ByteArray)) = ys.map (fun l => (⟨l.toArray⟩ : ByteArray))) = decide (xs = ys) from decide_eq_decide.2 (map_mk_eq xs ys)] at h
  exact h
theorem same_true (va vb : Value) (xs : List Txt) (w : World) (hx : argRow w va xs.length 1 (xs.map strV)) (hy : argRow w vb xs.length 1 (xs.map strV)) (hlx : xs.length ≤ 1000000000) :
    Calls Tryd.prog 10 #[va, vb] w fun e w' => e = .returned (.bool true) ∧ Below w.heap.size w w' := by
  have h := ref_Same' va vb xs xs w hx hy hlx hlx
  rwa [decide_eq_true rfl] at h
theorem argRow_new {W : World} {cs : Array Value} {t : TypeId} {n B : Nat} (hn : cs.toList.length = n) (hB : W.heap.size = B) (hm : n ≤ maxLen) : argRow (W.alloc (.cells cs t)) (.slice (some ⟨B, 0, none⟩) n n) n 1 cs.toList := by
  subst hB
  exact argRow_owns (owns_new W cs t n (by simpa using hn) hm)
theorem mkB (l : List UInt8) : (⟨l.toArray⟩ : ByteArray).data.toList = l := rfl
theorem words_awake (w : World) : Calls Tryd.prog 11 #[.string ⟨#[71, 69, 84, 32, 47, 97, 112, 105, 47, 118, 49, 32, 71, 69, 84]⟩] w fun e w' => ∃ v, e = .returned v ∧ Texts w' w.heap.size v [[103, 101, 116], [97, 112, 105], [118, 49], [103, 101, 116]] ∧ Below w.heap.size w w' := by
  have h := text_Words' ⟨#[71, 69, 84, 32, 47, 97, 112, 105, 47, 118, 49, 32, 71, 69, 84]⟩ w (by decide)
  rw [show words (⟨#[71, 69, 84, 32, 47, 97, 112, 105, 47, 118, 49, 32, 71, 69, 84]⟩ : ByteArray).data.toList = [[103, 101, 116], [97, 112, 105], [118, 49], [103, 101, 116]] by decide +kernel] at h
  exact h
theorem set_awake (w : World) : Calls Tryd.prog 9 #[.string ⟨#[98, 32, 97, 32, 98]⟩] w fun e w' => ∃ v, e = .returned v ∧ Texts w' w.heap.size v [[97], [98]] ∧ Below w.heap.size w w' := by
  have h := text_Set ⟨#[98, 32, 97, 32, 98]⟩ w (by decide)
  rw [show onceL (words (⟨#[98, 32, 97, 32, 98]⟩ : ByteArray).data.toList) = [[97], [98]] by decide +kernel] at h
  exact h
theorem inner_awake (w : World) : Calls Tryd.prog 8 #[.string ⟨#[120, 61, 70, 111, 111, 32, 98, 97, 114]⟩] w fun e w' => ∃ v, e = .returned v ∧ Texts w' w.heap.size v [[102, 111, 111]] ∧ Below w.heap.size w w' := by
  have h := text_Inner ⟨#[120, 61, 70, 111, 111, 32, 98, 97, 114]⟩ w (by decide)
  rw [show onceL (inners (⟨#[120, 61, 70, 111, 111, 32, 98, 97, 114]⟩ : ByteArray).data.toList) = [[102, 111, 111]] by decide +kernel] at h
  exact h
theorem has_awake (w : World) (hsh : w.ShapedOpen Tryd.prog) : Calls Tryd.prog 12 #[.string ⟨#[97, 98, 99]⟩, .string ⟨#[98, 99]⟩] w fun e w' => e = .returned (.bool true) ∧ w = w' := by
  have h := text_Has ⟨#[97, 98, 99]⟩ ⟨#[98, 99]⟩ w hsh (by decide)
  rw [show Lib.contains (⟨#[97, 98, 99]⟩ : ByteArray).data.toList (⟨#[98, 99]⟩ : ByteArray).data.toList = true by decide +kernel] at h
  exact h
theorem has_awake' (w : World) (hsh : w.ShapedOpen Tryd.prog) : Calls Tryd.prog 12 #[.string ⟨#[97, 98, 99]⟩, .string ⟨#[99, 98]⟩] w fun e w' => e = .returned (.bool false) ∧ w = w' := by
  have h := text_Has ⟨#[97, 98, 99]⟩ ⟨#[99, 98]⟩ w hsh (by decide)
  rw [show Lib.contains (⟨#[97, 98, 99]⟩ : ByteArray).data.toList (⟨#[99, 98]⟩ : ByteArray).data.toList = false by decide +kernel] at h
  exact h

set_option maxRecDepth 100000 in
set_option maxHeartbeats 2000000 in
theorem awake_true (w : World) (hsh : w.ShapedOpen Tryd.prog) :
    Calls Tryd.prog 4 #[] w fun e w' => e = .returned (.bool true) ∧ Below w.heap.size w w' := by
  go_enter Tryd.func4, Tryd.ntmps4
  go_wp2_with fail
  refine (words_awake _).mono ?_
  rintro e w1 ⟨v1, rfl, ht1, hb1⟩
  have hr1 := argRow_owns ht1
  go_wp2_with fail
  refine (same_true _ _ _ _ (argRow_below hr1 ((Below.refl _ _).alloc (Nat.le_refl _) _)) (argRow_new rfl rfl (by decide)) (by decide)).mono ?_
  rintro e w2 ⟨rfl, hb2⟩
  go_wp2_with fail
  refine (set_awake _).mono ?_
  rintro e w3 ⟨v3, rfl, ht3, hb3⟩
  have hr3 := argRow_owns ht3
  go_wp2_with fail
  refine (same_true _ _ _ _ (argRow_below hr3 ((Below.refl _ _).alloc (Nat.le_refl _) _)) (argRow_new rfl rfl (by decide)) (by decide)).mono ?_
  rintro e w4 ⟨rfl, hb4⟩
  go_wp2_with fail
  refine (inner_awake _).mono ?_
  rintro e w5 ⟨v5, rfl, ht5, hb5⟩
  have hr5 := argRow_owns ht5
  go_wp2_with fail
  refine (same_true _ _ _ _ (argRow_below hr5 ((Below.refl _ _).alloc (Nat.le_refl _) _)) (argRow_new rfl rfl (by decide)) (by decide)).mono ?_
  rintro e w6 ⟨rfl, hb6⟩
  have hA := fun {a b : World} {o : Obj} (h : Below (a.alloc o).heap.size (a.alloc o) b) => below_seq ((Below.refl _ _).alloc (Nat.le_refl _) o) h
  have hb := below_seq (below_seq (below_seq (below_seq (below_seq hb1 (hA hb2)) hb3) (hA hb4)) hb5) (hA hb6)
  have hs6 := shaped_below hsh hb
  go_wp2_with fail
  refine (has_awake _ hs6).mono ?_
  rintro e w7 ⟨rfl, rfl⟩
  go_wp2_with fail
  refine (has_awake' _ hs6).mono ?_
  rintro e w7 ⟨rfl, rfl⟩
  go_wp2_with fail
  go_ret
  exact ⟨rfl, hb⟩

theorem words_len (l : List UInt8) : (words l).length ≤ l.length := by
  have := runsOfText_len l
  rw [← runsOfText_words, List.length_map]; omega
theorem inners_len (l : List UInt8) : (inners l).length ≤ l.length := by
  have h1 := segs_len (runes l) 0
  have h2 := runes_length l
  unfold inners
  rw [List.length_map]
  have := List.length_filter_le (innerR (runes l).length) (segs 0 (runes l))
  omega
theorem insU_len (x : Txt) (O : List Txt) : (insU x O).length ≤ O.length + 1 := by
  induction O with
  | nil => simp [insU_nil]
  | cons y O ih =>
    rw [insU_cons]
    split
    · simp; omega
    · split <;> simp
theorem onceL_len (L : List Txt) : (onceL L).length ≤ L.length := by
  have : ∀ (L out : List Txt), (L.foldl (fun out x => insU x out) out).length ≤ out.length + L.length := by
    intro L
    induction L with
    | nil => intro out; simp
    | cons x L ih =>
      intro out
      have h1 := ih (insU x out)
      have h2 := insU_len x out
      rw [List.foldl_cons, List.length_cons]; omega
  have h := this L []
  simpa [onceL] using h
theorem pickW_false (l : List UInt8) : pickW false (runes l).length (segs 0 (runes l)) = words l := by
  unfold pickW words
  rw [List.filter_eq_self.2 (fun _ _ => by simp)]
theorem pickW_true (l : List UInt8) : pickW true (runes l).length (segs 0 (runes l)) = inners l := by
  unfold pickW inners
  simp
theorem rowT {w w' : World} {B : Nat} {v : Value} {L : List Txt} (h : Texts w B v L) (hb : Below w.heap.size w w') : argRow w' v L.length 1 (L.map strV) := argRow_below (argRow_owns h) hb

end Go.Proofs.YtgopmhfehobooaaDoor
