/-
  The contract of text.Words, of that of text.runs.
-/
import Derived.Test.YtgopmhfehobooaaDoorTextC
import Derived.Laws.Cover4
namespace Go.Proofs.YtgopmhfehobooaaDoor
open Go.RowKit

/-- A list of runs that can be read: of each its runes, and where it begins and ends. -/
def RunsRow (w : World) (v : Value) (L : List (List Nat × Nat × Nat)) : Prop :=
  ∃ a cap, v = .slice a L.length cap ∧ L.length ≤ cap ∧ cap ≤ maxLen ∧ (0 < L.length → ∃ b off, a = some ⟨b, off, none⟩ ∧ b < w.heap.size ∧ ∀ j (h : j < L.length),
    ∃ wv, w.cell? ⟨b, off + j * 3, none⟩ = some wv ∧ w.cell? ⟨b, off + j * 3 + 1, none⟩ = some (.int .i64 (L[j].2.1 : Int)) ∧ w.cell? ⟨b, off + j * 3 + 2, none⟩ = some (.int .i64 (L[j].2.2 : Int)) ∧
      argRow w wv L[j].1.length 1 (L[j].1.map runeCell))

theorem cell_new2 (w : World) (o : Obj) (v : Value) (t : TypeId) : ∀ j u, [v][j]? = some u → ((w.alloc o).alloc (.cells #[v] t)).cell? ((⟨w.heap.size + 1, 0, none⟩ : Addr).add j) = some u := by
  have h := cell_one_new (w.alloc o) v t
  rw [World.size_alloc] at h
  exact h
theorem u8_of (n : Nat) (a : UInt8) (h : a.toNat = n) : UInt8.ofNat n = a := by
  subst h; simp
theorem utf8_encode (r : Nat) (h : scalar r) : Utf8.encode (r : Int) = ⟨(encR r).toArray⟩ := by
  have hv : Utf8.valid (r : Int) = true := by
    unfold scalar at h
    simp only [Utf8.valid, Bool.or_eq_true, Bool.and_eq_true, decide_eq_true_eq]
    omega
  unfold Utf8.encode
  simp only [hv, if_true, Int.toNat_natCast]
  rcases encR_shape r h with ⟨hr, a, e, ha⟩ | ⟨hr, hr', a, b, e, ha, hb⟩ | ⟨hr, hr', a, b, c, e, ha, hb, hc⟩ | ⟨hr, hr', a, b, c, d, e, ha, hb, hc, hd⟩
  · rw [if_pos (by omega), e, u8_of _ a ha]
  · rw [if_neg (by omega), if_pos (by omega), e, u8_of _ a ha, u8_of _ b hb]
  · rw [if_neg (by omega), if_neg (by omega), if_pos (by omega), e, u8_of _ a ha, u8_of _ b hb, u8_of _ c hc]
  · rw [if_neg (by omega), if_neg (by omega), if_neg (by omega), e, u8_of _ a ha, u8_of _ b hb, u8_of _ c hc, u8_of _ d hd]
theorem runesBytes_go (rs : List Nat) (h : scalars rs) : ∀ s : ByteArray, (rs.map fun (r : Nat) => (r : Int)).foldl (fun r n => r ++ Utf8.encode n) s = s ++ ⟨(enc rs).toArray⟩ := by
  induction rs with
  | nil =>
    intro s
    apply ByteArray.ext
    rw [ByteArray.data_append]
    simp [enc]
  | cons r rs ih =>
    intro s
    rw [scalars_cons] at h
    rw [List.map_cons, List.foldl_cons, utf8_encode r h.1, ih h.2, enc_cons, app_mk']
    apply ByteArray.ext
    simp only [ByteArray.data_append]
    simp
theorem conv_runes {P : Program} {w : World} {src dst e : TypeId} {v : Value} {rs : List Nat} (hs : P.underlying src = some (.slice e)) (he : P.underlying e = some (.int .i32)) (hd : P.underlying dst = some .string)
    (hrow : argRow w v rs.length 1 (rs.map runeCell)) (hsc : scalars rs) : (convert src dst v).run P w = .ok (.string ⟨(enc rs).toArray⟩) w := by
  have hrb : runesBytes (rs.map fun (r : Nat) => (r : Int)) = ⟨(enc rs).toArray⟩ := by
    unfold runesBytes
    rw [runesBytes_go rs hsc]
    apply ByteArray.ext
    rw [ByteArray.data_append]
    simp
  obtain ⟨_, a, cap, rfl, _, _, hc⟩ := hrow
  by_cases h0 : rs.length = 0
  · have : rs = [] := List.eq_nil_of_length_eq_zero h0
    subst this
    cases a with
    | none =>
      rw [show (([] : List Nat).length) = 0 from rfl, run_convert_runes_nil w src dst e 0 cap hs he hd]
      rfl
    | some a =>
      have := run_convert_runes w src dst e a 0 cap [] (Nat.le_refl _) hs he hd (fun j hj => by simp at hj)
      rw [show (([] : List Nat).length) = 0 from rfl, this]
      rfl
  · obtain ⟨b, off, rfl, _, hcl⟩ := hc (by omega)
    have := run_convert_runes w src dst e ⟨b, off, none⟩ rs.length cap (rs.map fun (r : Nat) => (r : Int)) (by simp) hs he hd (fun j hj => by
      rw [WideShapes.add_plain, hcl j (by simpa using hj)]
      simp at hj
      simp [runeCell, List.getD_eq_getElem?_getD, List.getElem?_eq_getElem hj])
    rw [this, List.take_of_length_le (by simp), hrb]

set_option maxRecDepth 100000 in
set_option maxHeartbeats 2000000 in
theorem text_Words (s : ByteArray) (L : List (List Nat × Nat × Nat)) (w : World) (hL : L.length ≤ 1000000000) (hsc : ∀ x ∈ L, scalars x.1)
    (cR : Calls Tryd.prog 14 #[.string s] w fun e w' => ∃ v, e = .returned v ∧ RunsRow w' v L ∧ Below w.heap.size w w') :
    Calls Tryd.prog 11 #[.string s] w fun e w' => ∃ v, e = .returned v ∧ w'.ownsRow w.heap.size 9 1 v L.length (L.map fun x => strV (enc x.1)) ∧ Below w.heap.size w w' := by
  obtain ⟨i0, hi, hz0, hz1, hz2⟩ := info_parts info_str
  go_enter Tryd.func11, Tryd.ntmps11
  go_wp2_with (go_at_call 14; refine cR.mono ?_; rintro e w1 ⟨v, rfl, ⟨a, cap, rfl, hlc, hcm, hcell⟩, hb⟩; have HC := Lib.hid hcell; clear hcell)
  clear cR hcm
  have hb1 := hb.size
  go_loopw [3, 9] (fun l i wr => ∃ k : Nat, k ≤ L.length ∧ i = .int .i64 k ∧ wr.ownsRow w1.heap.size 9 1 l k ((L.take k).map fun x => strV (enc x.1)) ∧ Below w1.heap.size w1 wr) (fun _ i _ => L.length - (intOf i).toNat)
  case atStart => exact ⟨0, by omega, rfl, World.ownsRow_nil _ _ _ _, Below.refl _ _⟩
  case round =>
    obtain ⟨k, hk, rfl, hown, hbr⟩ := hrel
    by_cases hlt : k < L.length
    · obtain ⟨b, off, rfl, hbl, hcs⟩ := HC.out (by omega)
      obtain ⟨wv, h0, h1, h2, hrow⟩ := hcs k hlt
      have g0 : wr.cell? ⟨b, off + k * 3, none⟩ = some wv := by rw [hbr.cell (p := ⟨b, _, none⟩) hbl]; exact h0
      have g1 : wr.cell? ⟨b, off + k * 3 + 1, none⟩ = some (.int .i64 (L[k].2.1 : Int)) := by rw [hbr.cell (p := ⟨b, _, none⟩) hbl]; exact h1
      have g2 : wr.cell? ⟨b, off + k * 3 + 2, none⟩ = some (.int .i64 (L[k].2.2 : Int)) := by rw [hbr.cell (p := ⟨b, _, none⟩) hbl]; exact h2
      clear h0 h1 h2 hcs
      obtain ⟨_, ra, rc, rfl, _, _, hrc⟩ := hrow
      have HRC := Lib.hid hrc
      clear hrc
      have hcv : ∀ o, (convert 33 9 (.slice ra L[k].1.length rc)).run Tryd.prog (wr.alloc o) = .ok (.string ⟨(enc L[k].1).toArray⟩) (wr.alloc o) := fun o =>
        conv_runes Tryd.underlying33 Tryd.underlying21 Tryd.underlying9 (argRow_below (w := w1) ⟨by simp, _, _, rfl, by omega, by assumption, HRC.out⟩ ((hbr).alloc (hbr.size) o)) (hsc _ (List.getElem_mem _))
      have htk : (L.take (k + 1)).map (fun x => strV (enc x.1)) = (L.take k).map (fun x => strV (enc x.1)) ++ [strV (enc L[k].1)] := by rw [List.take_succ_eq_append_getElem hlt, List.map_append]; rfl
      have HTK := Lib.hid htk
      clear htk
      generalize L[k] = x at *
      have hszr := hbr.size
      go_wp2_with (at_builtin; refine wpList_append_own _ rfl _ _ 26 rfl w1.heap.size 9 i0 (.string ⟨#[]⟩) 1 16 Tryd.underlying26 hi hz0 hz1 hz2 rfl (by decide) _ _ _ rfl ((hown.alloc _).alloc _) ⟨wr.heap.size + 1, 0, none⟩ 1 1 [strV (enc x.1)] rfl rfl (cell_new2 _ _ _ _) (by simp [strV, Value.oneCell']) (by unfold maxLen; omega) (by omega) (by simp; omega) ?_; intro v' w3 hown3 hgr _)
      go_roundw
      case rel => exact ⟨k + 1, by omega, by go_num, by rw [HTK.out]; exact hown3, (((hbr.alloc hszr _).alloc (by simp; omega) _)).grown hgr (by simp; omega) (fun j hj => (hown.lt j hj).1)⟩
      case measure => simp [intOf]; omega
    · obtain rfl : k = L.length := by omega
      rw [List.take_length] at hown
      go_wp2
      go_ret
      exact ⟨_, rfl, owns_base hown hb1, hb.trans (hbr.mono hb1)⟩

end Go.Proofs.YtgopmhfehobooaaDoor
