/-
  Names of labels: what they are; the contracts of label.name and of the reference's Name.
-/
import Derived.Test.YtaimldndooijdaaGreatDoorUtfE
import Derived.Test.YtaimldndooijdaaGreatDoorKit
namespace Go.Proofs.YtaimldndooijdaaGreatDoor
open Go.RowKit

theorem decodeN_big (n b0 b1 b2 b3 : Nat) (h : 128 ≤ b0) : 128 ≤ (Lib.decodeN n b0 b1 b2 b3).1 := by
  unfold Lib.decodeN
  rw [if_neg (by omega)]
  repeat' split
  all_goals first | omega | (simp only; omega)
theorem decode_big (s : ByteArray) (i : Nat) (h : 128 ≤ (s.get! i).toNat) : 128 ≤ (Utf8.decode s i).1 := by
  rw [Lib.decode_at]
  exact decodeN_big _ _ _ _ _ h
/-- A name's sign, by its place. -/
def nmC (first : Bool) (c : UInt8) : Bool := decide (c.toNat = 95 ∨ (97 ≤ c.toNat ∧ c.toNat ≤ 122) ∨ (first = false ∧ 48 ≤ c.toNat ∧ c.toNat ≤ 57))
def nmGo : Bool → List UInt8 → Bool
  | _, [] => true
  | f, c :: t => nmC f c && nmGo false t
def nameOk (s : ByteArray) : Bool := decide (1 ≤ s.size ∧ s.size ≤ 32) && nmGo true s.data.toList
theorem drop_byte (s : ByteArray) (i : Nat) (h : i < s.size) : s.data.toList.drop i = s[i] :: s.data.toList.drop (i + 1) := by
  have hl : i < s.data.toList.length := by simpa [ByteArray.size_data] using h
  rw [List.drop_eq_getElem_cons hl]
  rfl
theorem get_byte (s : ByteArray) (i : Nat) (h : i < s.size) : s.get! i = s[i] := by
  have e : s.get! i = s.data[i]! := rfl
  rw [e, getElem!_pos s.data i (by simpa [ByteArray.size_data] using h)]
  rfl
theorem nmGo_at (s : ByteArray) (i : Nat) (f : Bool) (h : i < s.size) : nmGo f (s.data.toList.drop i) = (nmC f s[i] && nmGo false (s.data.toList.drop (i + 1))) := by
  rw [drop_byte s i h]
  rfl
theorem nmGo_end (s : ByteArray) (i : Nat) (f : Bool) (h : ¬ i < s.size) : nmGo f (s.data.toList.drop i) = true := by
  rw [List.drop_of_length_le (by simp [ByteArray.size_data]; omega)]
  rfl

set_option maxRecDepth 100000 in
set_option maxHeartbeats 4000000 in
theorem ref_Name (s : ByteArray) (w : World) (hs : s.size ≤ maxLen) :
    Calls Tryz.prog 70 #[.string s] w fun e w' => e = .returned (.bool (nameOk s)) ∧ w = w' := by
  unfold maxLen at hs
  obtain ⟨R, hR⟩ : ∃ R, nameOk s = R := ⟨_, rfl⟩
  rw [hR]
  have HR := Lib.hid hR
  clear hR
  go_enter Tryz.func70, Tryz.ntmps70
  by_cases hsz : 1 ≤ s.size ∧ s.size ≤ 32
  · obtain ⟨h1, h32⟩ := hsz
    have hRG : nmGo true s.data.toList = R := by rw [← HR.out, nameOk, decide_eq_true ⟨h1, h32⟩, Bool.true_and]
    have HRG := Lib.hid hRG
    clear hRG
    go_wp2
    go_loop [3] (fun iv => ∃ k : Nat, iv = .int .i64 k ∧ k ≤ s.size ∧ nmGo (decide (k = 0)) (s.data.toList.drop k) = R) (fun iv => s.size - (intOf iv).toNat)
    case atStart => exact ⟨0, rfl, Nat.zero_le _, HRG.out⟩
    case round =>
      obtain ⟨k, rfl, hk, hG⟩ := hrel
      by_cases hlt : k < s.size
      · have hst := nmGo_at s k (decide (k = 0)) hlt
        rw [hG] at hst
        obtain ⟨c, hc⟩ : ∃ c, s[k] = c := ⟨_, rfl⟩
        rw [hc] at hst
        have hT : nmC (decide (k = 0)) c = true → nmGo (decide (k + 1 = 0)) (s.data.toList.drop (k + 1)) = R := fun h => by
          rw [hst, h, Bool.true_and]
          rfl
        have hF : nmC (decide (k = 0)) c = false → R = false := fun h => by rw [hst, h, Bool.false_and]
        have HT := Lib.hid hT
        have HF := Lib.hid hF
        clear hT hF hst hG
        have hc256 := c.toNat_lt
        have i0 : (0 : Int) ≤ (k : Int) := by omega
        have i1 : (k : Int) < (s.size : Int) := by omega
        go_wp2
        all_goals simp only [Bool.not_eq_true', Bool.not_eq_false', decide_eq_true_eq, decide_eq_false_iff_not, beq_iff_eq, beq_eq_false_iff_ne, ne_eq] at *
        all_goals first
          | (refine ⟨⟨k + 1, by go_num, by omega, HT.out (decide_eq_true ?_)⟩, by simp [intOf]; omega⟩; simp only [decide_eq_false_iff_not]; omega)
          | (have hf : R = false := HF.out (decide_eq_false (by simp only [decide_eq_false_iff_not]; omega)); go_ret; exact ⟨by rw [hf]; rfl, rfl⟩)
      · have hfin : R = true := by rw [← hG, nmGo_end s k _ hlt]
        have hq : ¬ (k : Int) < (s.size : Int) := by omega
        go_wp2
        go_ret
        exact ⟨by first | rfl | (rw [hfin]; rfl), rfl⟩
  · have hfin : R = false := by rw [← HR.out, nameOk, decide_eq_false hsz, Bool.false_and]
    by_cases h1 : s.size < 1
    · have h1' : (s.size : Int) < 1 := by omega
      go_wp2
      go_ret
      exact ⟨by first | rfl | (rw [hfin]; rfl), rfl⟩
    · have h1' : ¬ (s.size : Int) < 1 := by omega
      have h2' : (32 : Int) < (s.size : Int) := by omega
      have h2n : 32 < s.size := by omega
      go_wp2
      go_ret
      exact ⟨by first | rfl | (rw [hfin]; rfl), rfl⟩

set_option maxRecDepth 100000 in
set_option maxHeartbeats 4000000 in
theorem label_name (s : ByteArray) (w : World) (hs : s.size ≤ maxLen) :
    Calls Tryz.prog 53 #[.string s] w fun e w' => e = .returned (.bool (nameOk s)) ∧ Below w.heap.size w w' := by
  unfold maxLen at hs
  obtain ⟨R, hR⟩ : ∃ R, nameOk s = R := ⟨_, rfl⟩
  rw [hR]
  have HR := Lib.hid hR
  clear hR
  go_enter Tryz.func53, Tryz.ntmps53
  go_wp2
  go_loopw [] (fun wr => ∃ k : Nat, k ≤ s.size ∧ wr.heap[w.heap.size]? = some (.stringIter s k) ∧ nmGo (decide (k = 0)) (s.data.toList.drop k) = nmGo true s.data.toList ∧ Below w.heap.size w wr ∧ w.heap.size < wr.heap.size) (fun w' => s.size - w'.iterPos w.heap.size)
  case atStart => exact ⟨0, by omega, World.iter_heap _ _ _, rfl, below_iter w s 0, by simp [World.iter]⟩
  case round =>
    obtain ⟨k, hk, hit, hG, hb, hsz⟩ := hrel
    by_cases hlt : k < s.size
    · have hnx : ∀ ty, (Instr.next (.pointer (some ⟨w.heap.size, 0, none⟩)) true ty).run Tryz.prog wr = _ := fun ty => Lib.run_next_any_at wr w.heap.size s k ty hit hlt
      have hst := nmGo_at s k (decide (k = 0)) hlt
      rw [hG] at hst
      have hgb := get_byte s k hlt
      have hwd := width_pos' s k
      have hpl := pos_le s k hlt
      have h1c : s[k].toNat < 128 → Utf8.decode s k = (s[k].toNat, 1) := fun h => by rw [← hgb]; exact decode_one s k (by rw [hgb]; exact h)
      have h2c : 128 ≤ s[k].toNat → 128 ≤ (Utf8.decode s k).1 := fun h => decode_big s k (by rw [hgb]; exact h)
      have hsc := decodeL_scalar (s.data.toList.drop k)
      rw [← decode_drop] at hsc
      have hb2 := Lib.below_iterAt hb (Nat.le_refl _) s (k + (Utf8.decode s k).2)
      have hit2 := Lib.iterAt_heap wr w.heap.size s k (k + (Utf8.decode s k).2) hit
      have hsz2 : w.heap.size < (wr.iterAt w.heap.size s (k + (Utf8.decode s k).2)).heap.size := by rw [Lib.iterAt_size]; exact hsz
      have HM := Lib.hid (iterPos_of hit)
      obtain ⟨c, hc⟩ : ∃ c, s[k] = c := ⟨_, rfl⟩
      rw [hc] at hst h1c h2c
      have hT : nmC (decide (k = 0)) c = true → nmGo (decide (k + 1 = 0)) (s.data.toList.drop (k + 1)) = nmGo true s.data.toList := fun h => by
        rw [hst, h, Bool.true_and]
        rfl
      have hF : nmC (decide (k = 0)) c = false → R = false := fun h => by rw [← HR.out, nameOk, hst, h, Bool.false_and, Bool.and_false]
      have HT := Lib.hid hT
      have HF := Lib.hid hF
      have hcs : (c.toNat < 128 ∧ (Utf8.decode s k).1 = c.toNat ∧ (Utf8.decode s k).2 = 1) ∨ (128 ≤ c.toNat ∧ 128 ≤ (Utf8.decode s k).1) := by
        by_cases h : c.toNat < 128
        · exact .inl ⟨h, by rw [h1c h], by rw [h1c h]⟩
        · exact .inr ⟨by omega, h2c (by omega)⟩
      have HCS := Lib.hid hcs
      have hc256 := c.toNat_lt
      have HC := Lib.hid hc
      clear hT hF hst hG h1c h2c hit hb hsz hgb hc hcs
      unfold scalar at hsc
      generalize Utf8.decode s k = d at *
      obtain ⟨r, m⟩ := d
      simp only at *
      generalize hW2 : wr.iterAt w.heap.size s (k + m) = W2 at *
      have HW2 := Lib.hid hW2; clear hW2
      go_wp2
      all_goals try simp only [beq_iff_eq, beq_eq_false_iff_ne, ne_eq, bne_iff_ne, bne_eq_false_iff_eq] at *
      all_goals have hcs := HCS.out
      all_goals first
        | (have hr : c.toNat < 128 ∧ r = c.toNat ∧ m = 1 := by omega
           obtain ⟨_, rfl, rfl⟩ := hr
           refine ⟨⟨k + 1, by omega, hit2, HT.out (decide_eq_true ?_), hb2, hsz2⟩, by rw [HM.out, iterPos_of hit2]; omega⟩
           simp only [decide_eq_false_iff_not]
           omega)
        | (have hf : R = false := HF.out (decide_eq_false (by simp only [decide_eq_false_iff_not]; omega)); go_ret; exact ⟨by rw [hf]; rfl, hb2⟩)
    · have hnx : ∀ ty, (Instr.next (.pointer (some ⟨w.heap.size, 0, none⟩)) true ty).run Tryz.prog wr = _ := fun ty => Lib.run_next_end_at wr w.heap.size s k ty hit hlt
      have hfin : nmGo true s.data.toList = true := by rw [← hG, nmGo_end s k _ hlt]
      have hR : R = decide (1 ≤ s.size ∧ s.size ≤ 32) := by rw [← HR.out, nameOk, hfin, Bool.and_true]
      by_cases h0 : 0 < s.size
      · by_cases h32 : s.size ≤ 32
        · have h0' : (0 : Int) < (s.size : Int) := by omega
          have h32' : (s.size : Int) ≤ 32 := by omega
          have hf : R = true := by rw [hR]; exact decide_eq_true ⟨by omega, h32⟩
          clear hR
          go_wp2
          go_ret
          exact ⟨by first | rfl | (rw [hf]; simp [h0, h32]; done) | (rw [hf]; rfl), hb⟩
        · have h0' : (0 : Int) < (s.size : Int) := by omega
          have h32' : ¬ (s.size : Int) ≤ 32 := by omega
          have hf : R = false := by rw [hR]; exact decide_eq_false (by omega)
          clear hR
          go_wp2
          go_ret
          exact ⟨by first | rfl | (rw [hf]; simp [h0, h32]; done) | (rw [hf]; rfl), hb⟩
      · have h0' : ¬ (0 : Int) < (s.size : Int) := by omega
        have hf : R = false := by rw [hR]; exact decide_eq_false (by omega)
        clear hR
        go_wp2
        go_ret
        exact ⟨by first | rfl | (rw [hf]; simp [h0]; done) | (rw [hf]; rfl), hb⟩
end Go.Proofs.YtaimldndooijdaaGreatDoor
