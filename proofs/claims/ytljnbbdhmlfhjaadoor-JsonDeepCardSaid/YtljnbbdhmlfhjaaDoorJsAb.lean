/-
  The program's JSON parser: a word.
-/
import Derived.Test.YtljnbbdhmlfhjaaDoorJsA
import Derived.Test.YtljnbbdhmlfhjaaDoorKitB
namespace Go.Proofs.YtljnbbdhmlfhjaaDoor
open Go.RowKit
theorem JSt.shape {w : World} {p : Nat} {sv : Value} {s : Bs} {deep most : Nat} (h : JSt w p sv s deep most) : ∃ a cap, sv = .slice a s.length cap ∧ s.length ≤ cap ∧ cap ≤ maxLen := by
  obtain ⟨hl, a, cap, e, h1, h2, hc⟩ := h.row w (Below.refl _ _)
  exact ⟨a, cap, e, h1, h2⟩
/-- The bytes at hand, and what is behind k of them. -/
theorem JSt.frontK {w : World} {p : Nat} {sv : Value} {s : Bs} {deep most : Nat} (h : JSt w p sv s deep most) (k : Nat) (hk : k ≤ s.length) (hs : 0 < s.length) :
    ∃ b off cap, sv = .slice (some ⟨b, off, none⟩) s.length cap ∧ s.length ≤ cap ∧ cap ≤ maxLen ∧ (∀ j (hj : j < s.length), w.cell? ⟨b, off + j, none⟩ = some (.int .u8 (s[j].toNat : Int))) ∧
      ∀ a' c', s.length - k ≤ c' → c' ≤ cap → (k < s.length → a' = some ⟨b, off + k, none⟩) → ∀ W, Below p w W → argRow W (.slice a' (s.length - k) c') (s.drop k).length 1 ((s.drop k).map bCell) := by
  obtain ⟨hl, a, cap, e, h1, h2, hc⟩ := h.row w (Below.refl _ _)
  obtain ⟨b, off, rfl, hb, hcs⟩ := hc (by simpa using hs)
  refine ⟨b, off, cap, e, h1, h2, fun j hj => ?_, fun a' c' g1 g2 ha W hW => ?_⟩
  · have := hcs j (by simpa using hj)
    rw [this, List.getElem_map]; rfl
  · have hr := h.row W hW
    rw [e] at hr
    have := argRow_drop (k := k) (a' := a') (c' := c') hr hk ⟨g1, g2⟩ (fun b' off' e' hlt => by
      cases e'
      rw [ha hlt, Nat.mul_one])
    simpa using this
theorem JSt.nextK {w w' : World} {p : Nat} {sv sv' : Value} {s : Bs} {deep most k : Nat} (h : JSt w p sv s deep most)
    (hd : ∀ W, Below p w W → argRow W sv' (s.drop k).length 1 ((s.drop k).map bCell)) (e : w' = w.setCell ⟨p, 0, none⟩ sv') : JS w' p (s.drop k) deep most ∧ w.grownBy w' (some p) := by
  subst e
  have hg := gset w p 0 sv'
  refine ⟨⟨_, ?_, fun W hW => hd W (Below.trans (grown_low hg (Nat.le_of_lt h.lt)) hW)⟩, hg⟩
  rw [heap_setCell_same _ _ _ _ _ _ h.own]
  rfl
theorem word_if : ∀ (wl : Bs) (j : J) (s : Bs), wordP wl j s = if wl.length ≤ s.length ∧ s.take wl.length = wl then some (j, s.drop wl.length) else none
  | [], j, s => by simp [wordP]
  | c :: wl, j, [] => by simp [wordP, nextB]
  | c :: wl, j, d :: s => by
    simp only [wordP, nextB, List.length_cons, List.take_succ_cons, List.drop_succ_cons]
    by_cases h : d = c
    · subst h
      rw [if_pos rfl]
      simp only []
      rw [word_if wl j s]
      simp
    · rw [if_neg h]
      simp [h]
def Word (p : Nat) (w : World) (v : Value) (deep most : Nat) : Option (J × Bs) → Ending → World → Prop
  | none, e, w' => Fell p w e w'
  | some (_, r), e, w' => e = .returned v ∧ JS w' p r deep most ∧ w.grownBy w' (some p)
set_option maxRecDepth 100000 in
set_option maxHeartbeats 8000000 in
theorem js_word (p : Nat) (w : World) (s : Bs) (deep most : Nat) (t : ByteArray) (v : Value) (j : J) (ht : 0 < t.size) (ht2 : t.size ≤ 1000) (h : JS w p s deep most) :
    Calls Tryd.prog 40 #[.pointer (some ⟨p, 0, none⟩), .string t, v] w (Word p w v deep most (wordP t.data.toList j s)) := by
  have hwl : t.data.toList.length = t.size := by simp [ByteArray.size_data]
  rw [word_if, hwl]
  obtain ⟨sv, h⟩ := h
  have HF := Lib.hid (grown_refl w (some p))
  obtain ⟨⟨c0, -, -⟩, f0, -, -⟩ := h.cells
  by_cases h1 : t.size ≤ s.length
  · obtain ⟨b, off, cap, rfl, g1, g2, hc, hd⟩ := h.frontK t.size h1 (by omega)
    have hcv : (convert 22 9 (.slice (some ⟨b, off, none⟩) t.size cap)).run Tryd.prog w = .ok (.string ⟨(s.take t.size).toArray⟩) w := by
      have := conv_cells (P := Tryd.prog) (w := w) (cap := cap) (src := 22) (dst := 9) (g := b) (off := off) (l := s.take t.size) Tryd.underlying22 Tryd.underlying5 Tryd.underlying9 (fun j hj => by
        rw [hc j (by simp only [List.length_take] at hj; omega)]; simp)
      rwa [List.length_take, Nat.min_eq_left h1] at this
    have d1 : decide (t.size ≤ s.length) = true := decide_eq_true h1
    by_cases h2 : s.take t.size = t.data.toList
    · rw [if_pos ⟨h1, h2⟩]
      have HN := Lib.hid (fun sv' hh w' e => JSt.nextK (w' := w') (sv' := sv') (k := t.size) h hh e)
      have HD := Lib.hid hd
      rw [h2, show (⟨t.data.toList.toArray⟩ : ByteArray) = t from by simp] at hcv
      have e1 : (t.toList == t.toList) = true := by simp
      clear h h2 hc hd hwl
      unfold maxLen at g2
      obtain ⟨n, hn⟩ : ∃ n, s.length = n := ⟨_, rfl⟩
      rw [hn] at HD c0 h1 d1 g1
      clear hn
      by_cases hcap : cap = t.size
      · subst hcap
        obtain rfl : n = t.size := by omega
        go_enter Tryd.func40, Tryd.ntmps40
        go_wp2_with (first | (go_at_call 24; refine (js_must p _).mono ?_; rintro e w3 ⟨rfl, rfl⟩))
        go_ret
        have HD' := HD.out
        rw [Nat.sub_self] at HD'
        exact ⟨rfl, HN.out _ (HD' _ 0 (by omega) (by omega) (by omega)) _ rfl⟩
      · have hcap2 : t.size < cap := by omega
        go_enter Tryd.func40, Tryd.ntmps40
        go_wp2_with (first | (go_at_call 24; refine (js_must p _).mono ?_; rintro e w3 ⟨rfl, rfl⟩))
        go_ret
        exact ⟨rfl, HN.out _ (HD.out _ (cap - t.size) (by omega) (by omega) (fun _ => rfl)) _ rfl⟩
    · rw [if_neg (fun hh => h2 hh.2)]
      show Calls _ _ _ _ (Fell p w)
      obtain ⟨t', ht'⟩ : ∃ t' : ByteArray, (⟨(s.take t.size).toArray⟩ : ByteArray) = t' := ⟨_, rfl⟩
      have hne : t' ≠ t := fun e => h2 (by have := congrArg (fun x : ByteArray => x.data.toList) (ht'.trans e); exact this)
      rw [ht'] at hcv
      have e1 : (t'.toList == t.toList) = false := by
        rw [beq_eq_false_iff_ne, ByteArray.toList_eq, ByteArray.toList_eq]
        exact fun e => hne (ByteArray.ext (Array.ext' e))
      clear h h2 hc hd hwl ht' hne
      unfold maxLen at g2
      generalize s.length = n at *
      generalize hm : t.size = m at *
      go_enter Tryd.func40, Tryd.ntmps40
      go_wp2_with (first | (go_at_call 24; refine (js_mustnt p _).mono ?_; rintro e w3 ⟨rfl, rfl⟩))
      exact ⟨rfl, rfl, HF.out⟩
  · obtain ⟨a, cap, rfl, g1, g2⟩ := h.shape
    rw [if_neg (fun hh => h1 hh.1)]
    have d1 : decide (t.size ≤ s.length) = false := decide_eq_false h1
    show Calls _ _ _ _ (Fell p w)
    clear h h1 hwl
    generalize s.length = n at *
    go_enter Tryd.func40, Tryd.ntmps40
    go_wp2_with (first | (go_at_call 24; refine (js_mustnt p _).mono ?_; rintro e w3 ⟨rfl, rfl⟩))
    exact ⟨rfl, rfl, HF.out⟩
end Go.Proofs.YtljnbbdhmlfhjaaDoor
