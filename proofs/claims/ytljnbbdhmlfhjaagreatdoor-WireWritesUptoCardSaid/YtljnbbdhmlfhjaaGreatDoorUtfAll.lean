/-
  The contracts of utf.Word, utf.Small and of the reference's Word, Small.
-/
import Derived.Test.YtljnbbdhmlfhjaaGreatDoorProg
import Derived.WalkKit
import Derived.WalkSpells
import Derived.WalkLawsBesides
import Derived.Test.YtljnbbdhmlfhjaaGreatDoorUtfP
import Derived.Lib.RuneCountTail
import Derived.Lib.Hide
import Derived.Lib.RuneBytes
import Derived.Test.YtljnbbdhmlfhjaaGreatDoorKit
namespace Go.Proofs.YtljnbbdhmlfhjaaGreatDoor
open Go.RowKit

def wordRP (r : Int) : Prop := (48 ≤ r ∧ r ≤ 57) ∨ (97 ≤ r ∧ r ≤ 122) ∨ (65 ≤ r ∧ r ≤ 90) ∨ r = 95 ∨ (192 ≤ r ∧ r ≠ 215 ∧ r ≠ 247 ∧ ¬ (8192 ≤ r ∧ r ≤ 8303) ∧ ¬ (12288 ≤ r ∧ r ≤ 12351) ∧ r ≠ 65533 ∧ ¬ (55296 ≤ r ∧ r ≤ 57343) ∧ r ≤ 1114111)
instance (r : Int) : Decidable (wordRP r) := by unfold wordRP; exact inferInstance
end Go.Proofs.YtljnbbdhmlfhjaaGreatDoor
/-
  The contracts of utf.Count and of the reference's One.
-/
namespace Go.Proofs.YtljnbbdhmlfhjaaGreatDoor
open Go.RowKit

theorem ofList (s : ByteArray) : (⟨s.data.toList.toArray⟩ : ByteArray) = s := by cases s; simp
theorem ext_list' (t : ByteArray) (k : Nat) : (t.extract k t.size).data.toList = t.data.toList.drop k := by
  rw [ByteArray.data_extract, Array.toList_extract, List.extract_eq_take_drop, List.take_of_length_le]
  rw [List.length_drop, Array.length_toList]
  exact Nat.le_refl _
theorem decode_drop (s : ByteArray) (pos : Nat) : Utf8.decode s pos = Lib.decodeL (s.data.toList.drop pos) := by
  have h := Lib.tail_decode s pos 0
  rw [Nat.add_zero] at h
  rw [← h]
  unfold Lib.decodeL
  rw [← ext_list', ofList]
theorem runes_pos (s : ByteArray) (pos : Nat) (h : pos < s.size) :
    runes (s.data.toList.drop pos) = (Utf8.decode s pos).1 :: runes (s.data.toList.drop (pos + (Utf8.decode s pos).2)) := by
  have hl : s.data.toList.length = s.size := by simp [ByteArray.size_data]
  rw [runes_step _ (by intro e; have := congrArg List.length e; simp only [List.length_drop, List.length_nil, hl] at this; omega), ← decode_drop, List.drop_drop]
theorem runes_end (s : ByteArray) (pos : Nat) (h : ¬ pos < s.size) : runes (s.data.toList.drop pos) = [] := by
  have hl : s.data.toList.length = s.size := by simp [ByteArray.size_data]
  rw [List.drop_of_length_le (by omega)]; rfl
theorem width_pos' (s : ByteArray) (pos : Nat) : 1 ≤ (Utf8.decode s pos).2 := Lib.width_pos s pos

theorem below_iter (w : World) (s : ByteArray) (pos : Nat) : Below w.heap.size w (w.iter s pos) := (Below.refl _ _).alloc (Nat.le_refl _) _

end Go.Proofs.YtljnbbdhmlfhjaaGreatDoor
/-
  Plain laws of the reference's One: its loop is the model's decoder.
-/
namespace Go.Proofs.YtljnbbdhmlfhjaaGreatDoor
open Go.RowKit

/-- What the reference has read behind j inner bytes. -/
def acc (s : ByteArray) (i c0 : Nat) : Nat → Nat
  | 0 => c0
  | j + 1 => acc s i c0 j * 64 + (s.get! (i + (j + 1))).toNat % 64
def conts (s : ByteArray) (i j : Nat) : Prop := ∀ m, 1 ≤ m → m ≤ j → i + m < s.size ∧ (s.get! (i + m)).toNat / 64 = 2
theorem acc_lt (s : ByteArray) (i c0 : Nat) (h : c0 < 32) : ∀ j, acc s i c0 j < 32 * 64 ^ j
  | 0 => by simpa [acc] using h
  | j + 1 => by
    have := acc_lt s i c0 h j
    rw [acc, Nat.pow_succ]
    omega
theorem conts_succ {s : ByteArray} {i j : Nat} (h : conts s i j) (h1 : i + (j + 1) < s.size) (h2 : (s.get! (i + (j + 1))).toNat / 64 = 2) : conts s i (j + 1) := by
  intro m a b
  by_cases e : m = j + 1
  · subst e; exact ⟨h1, h2⟩
  · exact h m a (by omega)
def OneRel (s : ByteArray) (i n c0 : Nat) (cv kv : Value) : Prop := ∃ j : Nat, j ≤ n ∧ kv = .int .i64 ((j : Int) + 1) ∧ cv = .int .i64 (acc s i c0 j) ∧ conts s i j

theorem decode_one (s : ByteArray) (i : Nat) (h : (s.get! i).toNat < 128) : Utf8.decode s i = ((s.get! i).toNat, 1) := by
  rw [Lib.decode_at, decodeN_one _ _ _ _ _ h]
theorem decode_bad (s : ByteArray) (i : Nat) (h : 128 ≤ (s.get! i).toNat) (h' : (s.get! i).toNat < 192 ∨ 248 ≤ (s.get! i).toNat) : Utf8.decode s i = (65533, 1) := by
  have hlt : (s.get! i).toNat < 256 := (s.get! i).toNat_lt
  have hb : (128 ≤ (s.get! i).toNat ∧ (s.get! i).toNat < 194) ∨ (245 ≤ (s.get! i).toNat ∧ (s.get! i).toNat < 256) := by omega
  rw [Lib.decode_at]
  exact Lib.decodeN_bad _ _ _ _ _ hb

/-- The reference's answer behind its loop. -/
theorem decode_fin (s : ByteArray) (i n c0 low : Nat) (hi : i < s.size)
    (hn : (n = 1 ∧ 192 ≤ (s.get! i).toNat ∧ (s.get! i).toNat < 224 ∧ c0 = (s.get! i).toNat - 192 ∧ low = 128) ∨ (n = 2 ∧ 224 ≤ (s.get! i).toNat ∧ (s.get! i).toNat < 240 ∧ c0 = (s.get! i).toNat - 224 ∧ low = 2048) ∨
      (n = 3 ∧ 240 ≤ (s.get! i).toNat ∧ (s.get! i).toNat < 248 ∧ c0 = (s.get! i).toNat - 240 ∧ low = 65536)) :
    (∀ j, j < n → ¬ (i + (j + 1) < s.size ∧ (s.get! (i + (j + 1))).toNat / 64 = 2) → Utf8.decode s i = (65533, 1)) ∧
    (conts s i n → Utf8.decode s i = if acc s i c0 n < low ∨ 1114111 < acc s i c0 n ∨ (55296 ≤ acc s i c0 n ∧ acc s i c0 n ≤ 57343) then (65533, 1) else (acc s i c0 n, n + 1)) := by
  rw [Lib.decode_at]
  have k0 := (s.get! i).toNat_lt
  rcases hn with ⟨hn, h1, h2, hc, hl⟩ | ⟨hn, h1, h2, hc, hl⟩ | ⟨hn, h1, h2, hc, hl⟩
  all_goals subst hn
  · constructor
    · intro j hj hno
      obtain rfl : j = 0 := by omega
      unfold Lib.decodeN
      simp only [Nat.zero_add] at hno
      rw [if_neg (by omega), if_neg (by omega), if_neg (by omega), if_neg (by omega)]
    · intro hc
      obtain ⟨a1, a2⟩ := hc 1 (by omega) (by omega)
      simp only [acc, Nat.zero_add]
      unfold Lib.decodeN
      rw [if_neg (by omega), if_pos (by omega)]
      have e : (s.get! i).toNat % 32 * 64 + (s.get! (i + 1)).toNat % 64 = c0 * 64 + (s.get! (i + 1)).toNat % 64 := by omega
      rw [e]
      generalize c0 * 64 + (s.get! (i + 1)).toNat % 64 = c at e
      by_cases hb : c < low ∨ 1114111 < c ∨ (55296 ≤ c ∧ c ≤ 57343)
      · rw [if_pos hb, if_neg (by omega)]
      · rw [if_neg hb, if_pos (by omega)]
  · constructor
    · intro j hj hno
      unfold Lib.decodeN
      rcases (by omega : j = 0 ∨ j = 1) with rfl | rfl
      all_goals (simp only [Nat.zero_add, Nat.reduceAdd] at hno; rw [if_neg (by omega), if_neg (by omega), if_neg (by omega), if_neg (by omega)])
    · intro hc
      obtain ⟨a1, a2⟩ := hc 1 (by omega) (by omega)
      obtain ⟨b1, b2⟩ := hc 2 (by omega) (by omega)
      simp only [acc, Nat.zero_add, Nat.reduceAdd]
      unfold Lib.decodeN
      rw [if_neg (by omega), if_neg (by omega), if_pos (by omega)]
      have e : (s.get! i).toNat % 16 * 4096 + (s.get! (i + 1)).toNat % 64 * 64 + (s.get! (i + 2)).toNat % 64 = (c0 * 64 + (s.get! (i + 1)).toNat % 64) * 64 + (s.get! (i + 2)).toNat % 64 := by omega
      rw [e]
      generalize (c0 * 64 + (s.get! (i + 1)).toNat % 64) * 64 + (s.get! (i + 2)).toNat % 64 = c at e
      by_cases hb : c < low ∨ 1114111 < c ∨ (55296 ≤ c ∧ c ≤ 57343)
      · rw [if_pos hb, if_neg (by omega)]
      · rw [if_neg hb, if_pos (by omega)]
  · constructor
    · intro j hj hno
      unfold Lib.decodeN
      rcases (by omega : j = 0 ∨ j = 1 ∨ j = 2) with rfl | rfl | rfl
      all_goals (simp only [Nat.zero_add, Nat.reduceAdd] at hno; rw [if_neg (by omega), if_neg (by omega), if_neg (by omega), if_neg (by omega)])
    · intro hc
      obtain ⟨a1, a2⟩ := hc 1 (by omega) (by omega)
      obtain ⟨b1, b2⟩ := hc 2 (by omega) (by omega)
      obtain ⟨c1, c2⟩ := hc 3 (by omega) (by omega)
      simp only [acc, Nat.zero_add, Nat.reduceAdd]
      unfold Lib.decodeN
      rw [if_neg (by omega), if_neg (by omega), if_neg (by omega), if_pos (by omega)]
      have e : (s.get! i).toNat % 8 * 262144 + (s.get! (i + 1)).toNat % 64 * 4096 + (s.get! (i + 2)).toNat % 64 * 64 + (s.get! (i + 3)).toNat % 64 = ((c0 * 64 + (s.get! (i + 1)).toNat % 64) * 64 + (s.get! (i + 2)).toNat % 64) * 64 + (s.get! (i + 3)).toNat % 64 := by omega
      rw [e]
      generalize ((c0 * 64 + (s.get! (i + 1)).toNat % 64) * 64 + (s.get! (i + 2)).toNat % 64) * 64 + (s.get! (i + 3)).toNat % 64 = c at e
      by_cases hb : c < low ∨ 1114111 < c ∨ (55296 ≤ c ∧ c ≤ 57343)
      · rw [if_pos hb, if_neg (by omega)]
      · rw [if_neg hb, if_pos (by omega)]

theorem get_get! (s : ByteArray) (i : Nat) (h : i < s.size) : s[i] = s.get! i := by
  show _ = s.get! i
  simp [ByteArray.get!, getElem!_pos, h]
  rfl


end Go.Proofs.YtljnbbdhmlfhjaaGreatDoor
/-
  The contract of the reference's One: it is the model's own decoder.
-/
namespace Go.Proofs.YtljnbbdhmlfhjaaGreatDoor
open Go.RowKit

theorem ret_pair {k k' : IntKind} {a b : Int} {p : Nat × Nat} {x y : Nat} (h : p = (x, y)) (ha : a = x) (hb : b = y) : Ending.returned (.tuple #[.int k a, .int k' b]) = .returned (.tuple #[.int k (p.1 : Int), .int k' (p.2 : Int)]) := by rw [h, ha, hb]

set_option maxRecDepth 100000 in
set_option maxHeartbeats 1000000 in
theorem ref_One (s : ByteArray) (i : Nat) (w : World) (hs : s.size ≤ 140737488355328) (hi : i < s.size) :
    Calls Tryz.prog 92 #[.string s, .int .i64 i] w fun e w' => e = .returned (.tuple #[.int .i32 (Utf8.decode s i).1, .int .i64 (Utf8.decode s i).2]) ∧ w = w' := by
  have hg := get_get! s i hi
  have k0 := (s.get! i).toNat_lt
  by_cases h128 : (s.get! i).toNat < 128
  · have hd := decode_one s i h128
    rw [← hg] at hd k0 h128
    clear hg
    have HD := Lib.hid hd; clear hd
    go_enter Tryz.func92, Tryz.ntmps92
    go_wp2
    go_ret2
    exact ⟨ret_pair HD.out rfl rfl, rfl⟩
  by_cases hbad : (s.get! i).toNat < 192 ∨ 248 ≤ (s.get! i).toNat
  · have hd := decode_bad s i (by omega) hbad
    rw [← hg] at k0 h128 hbad
    clear hg
    have HD := Lib.hid hd; clear hd
    go_enter Tryz.func92, Tryz.ntmps92
    rcases hbad with hbad | hbad
    all_goals
      go_wp2
      go_ret2
      exact ⟨ret_pair HD.out rfl rfl, rfl⟩
  have hcls : ∃ n c0 low : Nat, (n = 1 ∧ 192 ≤ (s.get! i).toNat ∧ (s.get! i).toNat < 224 ∧ c0 = (s.get! i).toNat - 192 ∧ low = 128) ∨ (n = 2 ∧ 224 ≤ (s.get! i).toNat ∧ (s.get! i).toNat < 240 ∧ c0 = (s.get! i).toNat - 224 ∧ low = 2048) ∨
      (n = 3 ∧ 240 ≤ (s.get! i).toNat ∧ (s.get! i).toNat < 248 ∧ c0 = (s.get! i).toNat - 240 ∧ low = 65536) := by
    by_cases h1 : (s.get! i).toNat < 224
    · exact ⟨_, _, _, .inl ⟨rfl, by omega, h1, rfl, rfl⟩⟩
    · by_cases h2 : (s.get! i).toNat < 240
      · exact ⟨_, _, _, .inr (.inl ⟨rfl, by omega, h2, rfl, rfl⟩)⟩
      · exact ⟨_, _, _, .inr (.inr ⟨rfl, by omega, by omega, rfl, rfl⟩)⟩
  obtain ⟨n, c0, low, hn⟩ := hcls
  obtain ⟨f1, f2⟩ := decode_fin s i n c0 low hi hn
  have hc0 : c0 < 32 := by omega
  have ha := acc_lt s i c0 hc0
  have F1 := Lib.hid f1
  have F2 := Lib.hid f2
  have HA := Lib.hid ha
  clear f1 f2 ha h128 hbad
  rw [← hg] at hn k0
  clear hg
  rcases hn with ⟨hn, h1, h2, hc, hlow⟩ | ⟨hn, h1, h2, hc, hlow⟩ | ⟨hn, h1, h2, hc, hlow⟩
  all_goals
    have HC := Lib.hid hc
    have HN := Lib.hid hn
    have HL := Lib.hid hlow
    clear hc hn hlow
    obtain ⟨t1, hT1⟩ : ∃ t, decide ((s[i].toNat : Int) < 128) = t := ⟨_, rfl⟩
    obtain ⟨t2, hT2⟩ : ∃ t, decide (192 ≤ (s[i].toNat : Int)) = t := ⟨_, rfl⟩
    obtain ⟨t3, hT3⟩ : ∃ t, decide ((s[i].toNat : Int) < 224) = t := ⟨_, rfl⟩
    obtain ⟨t4, hT4⟩ : ∃ t, decide (224 ≤ (s[i].toNat : Int)) = t := ⟨_, rfl⟩
    obtain ⟨t5, hT5⟩ : ∃ t, decide ((s[i].toNat : Int) < 240) = t := ⟨_, rfl⟩
    obtain ⟨t6, hT6⟩ : ∃ t, decide (240 ≤ (s[i].toNat : Int)) = t := ⟨_, rfl⟩
    obtain ⟨t7, hT7⟩ : ∃ t, decide ((s[i].toNat : Int) < 248) = t := ⟨_, rfl⟩
    cases t1
    any_goals (exfalso; have h := hT1; simp only [decide_eq_true_eq, decide_eq_false_iff_not] at h; omega)
    cases t2
    any_goals (exfalso; have h := hT2; simp only [decide_eq_true_eq, decide_eq_false_iff_not] at h; omega)
    cases t3
    any_goals (exfalso; have h := hT3; simp only [decide_eq_true_eq, decide_eq_false_iff_not] at h; omega)
    cases t4
    any_goals (exfalso; have h := hT4; simp only [decide_eq_true_eq, decide_eq_false_iff_not] at h; omega)
    cases t5
    any_goals (exfalso; have h := hT5; simp only [decide_eq_true_eq, decide_eq_false_iff_not] at h; omega)
    cases t6
    any_goals (exfalso; have h := hT6; simp only [decide_eq_true_eq, decide_eq_false_iff_not] at h; omega)
    cases t7
    any_goals (exfalso; have h := hT7; simp only [decide_eq_true_eq, decide_eq_false_iff_not] at h; omega)
    go_enter Tryz.func92, Tryz.ntmps92
    go_wp2
    go_loop [6, 9] (OneRel s i n c0) (fun _ k => n + 1 - (intOf k).toNat)
    case atStart => exact ⟨0, by omega, rfl, by rw [acc, HC.out]; go_num, fun m a b => by omega⟩
    case round =>
      obtain ⟨j, hj, rfl, rfl, hcn⟩ := hrel
      have hcl : conts s i j := hcn
      have HCN := Lib.hid hcl; clear hcn hcl
      have hacc := HA.out j
      have hj3 : j ≤ 3 := by have := HN.out; omega
      have hacc' : acc s i c0 j < 8388608 := Nat.lt_of_lt_of_le hacc (by rcases (by omega : j = 0 ∨ j = 1 ∨ j = 2 ∨ j = 3) with rfl | rfl | rfl | rfl <;> decide)
      clear hacc
      by_cases hjn : j < n
      · have hjn' := hjn
        rw [HN.out] at hjn'
        by_cases hlt : i + (j + 1) < s.size
        · have e := get_get! s (i + (j + 1)) hlt
          have kx := (s.get! (i + (j + 1))).toNat_lt
          by_cases hq : (s.get! (i + (j + 1))).toNat / 64 = 2
          · have hnew := conts_succ HCN.out hlt hq
            have HNEW := Lib.hid hnew; clear hnew
            have hac : acc s i c0 (j + 1) = acc s i c0 j * 64 + s[i + (j + 1)].toNat % 64 := by rw [e]; rfl
            rw [← e] at hq kx
            clear e
            have HAC := Lib.hid hac; clear hac
            have hb : (((s[i + (j + 1)]).toNat : Int) / 64 % 256 != 2) = false := by simp; omega
            have hb' : (((s[i + (j + 1)]).toNat : Int) / 64 != 2) = false := by simp; omega
            clear hq
            go_wp2
            go_round
            case rel => exact ⟨j + 1, by omega, by go_num, by rw [HAC.out]; go_num, HNEW.out⟩
            case measure => simp [intOf]; omega
          · have hd := F1.out j hjn (fun h => hq h.2)
            rw [← e] at hq kx
            clear e
            have HD := Lib.hid hd; clear hd
            have hb : (((s[i + (j + 1)]).toNat : Int) / 64 % 256 != 2) = true := by simp; omega
            have hb' : (((s[i + (j + 1)]).toNat : Int) / 64 != 2) = true := by simp; omega
            clear hq
            go_wp2
            go_ret2
            exact ⟨ret_pair HD.out rfl rfl, rfl⟩
        · have hd := F1.out j hjn (fun h => hlt h.1)
          have HD := Lib.hid hd; clear hd
          go_wp2
          go_ret2
          exact ⟨ret_pair HD.out rfl rfl, rfl⟩
      · have hje : j = n := by omega
        have hd := F2.out (by rw [← hje]; exact HCN.out)
        rw [← hje, HL.out] at hd
        have HJ := Lib.hid hje
        have hjn' := hjn
        rw [HN.out] at hjn'
        clear hje
        generalize acc s i c0 j = C at hd hacc' ⊢
        have HD := Lib.hid hd; clear hd
        go_wp2
        all_goals go_ret2
        all_goals first
          | exact ⟨ret_pair (HD.out.trans (if_pos (by omega))) rfl rfl, rfl⟩
          | exact ⟨ret_pair (HD.out.trans (if_neg (by omega))) rfl (by have := HJ.out; have := HN.out; omega), rfl⟩

end Go.Proofs.YtljnbbdhmlfhjaaGreatDoor
/-
  The contract of the reference's Bytes.
-/
namespace Go.Proofs.YtljnbbdhmlfhjaaGreatDoor
open Go.RowKit

end Go.Proofs.YtljnbbdhmlfhjaaGreatDoor
/-
  The contract of the reference's Runes.
-/
namespace Go.Proofs.YtljnbbdhmlfhjaaGreatDoor
open Go.RowKit

theorem info_i32 : (Tryz.prog.info? 21).map (fun i => (i.zero, i.size, i.bytes)) = some (some (.int .i32 0), 1, 4) := by kernel_rfl

def runeCell (r : Nat) : Value := .int .i32 (r : Int)
/-- A text's validity, step by step: no step yields U+FFFD of one byte. -/
def okTo (s : ByteArray) (v : Bool) (pos : Nat) : Prop := Lib.validD s.data.toList = (v && Lib.validD (s.data.toList.drop pos))

theorem okTo_step (s : ByteArray) (v : Bool) (pos : Nat) (h : okTo s v pos) (hp : pos < s.size) :
    okTo s (if (Utf8.decode s pos).1 = 65533 ∧ (Utf8.decode s pos).2 = 1 then false else v) (pos + (Utf8.decode s pos).2) := by
  have hl : s.data.toList.length = s.size := by simp [ByteArray.size_data]
  unfold okTo at *
  rw [h, Lib.validD_step (s.data.toList.drop pos) (by intro e; have := congrArg List.length e; simp only [List.length_drop, List.length_nil, hl] at this; omega), ← decode_drop, List.drop_drop]
  by_cases hc : (Utf8.decode s pos).1 = 65533 ∧ (Utf8.decode s pos).2 = 1
  · simp [hc]
  · rw [if_neg hc, if_neg hc]
theorem okTo_end (s : ByteArray) (v : Bool) (pos : Nat) (h : okTo s v pos) (hp : ¬ pos < s.size) : Lib.validD s.data.toList = v := by
  have hl : s.data.toList.length = s.size := by simp [ByteArray.size_data]
  unfold okTo at h
  rw [h, List.drop_of_length_le (by omega), Lib.validD_nil, Bool.and_true]
theorem okSel (r n : Nat) (t1 t2 bb : Bool) (h1 : ((n : Int) == 1) = t1) (h2 : ((r : Int) == 65533) = t2) : (if r = 65533 ∧ n = 1 then false else bb) = (if t1 && t2 then false else bb) := by
  have a : n = 1 ↔ t1 = true := by
    rw [← h1]
    exact ⟨fun h => by rw [h]; rfl, fun h => by have := beq_iff_eq.1 h; omega⟩
  have b : r = 65533 ↔ t2 = true := by
    rw [← h2]
    exact ⟨fun h => by rw [h]; rfl, fun h => by have := beq_iff_eq.1 h; omega⟩
  by_cases c : r = 65533 ∧ n = 1
  · rw [if_pos c, a.1 c.2, b.1 c.1]; rfl
  · rw [if_neg c]
    have : (t1 && t2) = false := by
      cases t1 <;> cases t2 <;> simp_all
    rw [this]; rfl
/-- The width of what is read never passes the end. -/
theorem pos_le (s : ByteArray) (pos : Nat) (hp : pos < s.size) : pos + (Utf8.decode s pos).2 ≤ s.size := by
  have hl : s.data.toList.length = s.size := by simp [ByteArray.size_data]
  have hne : s.data.toList.drop pos ≠ [] := by intro e; have := congrArg List.length e; simp only [List.length_drop, List.length_nil, hl] at this; omega
  have := Lib.decodeL_le _ hne
  rw [← decode_drop, List.length_drop, hl] at this
  omega

set_option maxRecDepth 100000 in
set_option maxHeartbeats 2000000 in
theorem ref_Runes (s : ByteArray) (w : World) (hs : s.size ≤ 35184372088832) :
    Calls Tryz.prog 56 #[.string s] w fun e w' => ∃ v, e = .returned (.tuple #[v, .bool (Lib.validD s.data.toList)]) ∧
      w'.ownsRow w.heap.size 21 1 v (runes s.data.toList).length ((runes s.data.toList).map runeCell) ∧ Below w.heap.size w w' := by
  obtain ⟨i0, hi, hz0, hz1, hz2⟩ := info_parts info_i32
  have hrl := runes_length s.data.toList
  have hl : s.data.toList.length = s.size := by simp [ByteArray.size_data]
  rw [hl] at hrl
  clear hl
  go_enter Tryz.func56, Tryz.ntmps56
  go_wp2
  go_loopw [4, 5, 6] (fun v b i wr => ∃ (pos : Nat) (bb : Bool) (rs : List Nat), pos ≤ s.size ∧ i = .int .i64 pos ∧ b = .bool bb ∧ okTo s bb pos ∧ rs ++ runes (s.data.toList.drop pos) = runes s.data.toList ∧
    wr.ownsRow w.heap.size 21 1 v rs.length (rs.map runeCell) ∧ Below w.heap.size w wr) (fun _ _ i _ => s.size - (intOf i).toNat)
  case atStart => exact ⟨0, true, [], by omega, rfl, rfl, by unfold okTo; rw [Bool.true_and, List.drop_zero], by rw [List.drop_zero]; rfl, World.ownsRow_nil _ _ _ _, Below.refl _ _⟩
  case round =>
    obtain ⟨pos, bb, rs, hp, rfl, rfl, hok, hrs, hown, hb⟩ := hrel
    have HOK := Lib.hid hok
    have HRS := Lib.hid hrs
    clear hok hrs
    by_cases hlt : pos < s.size
    · have cO := fun W => ref_One s pos W (by omega) hlt
      have hw1 := width_pos' s pos
      have hw2 := pos_le s pos hlt
      have hsc := decodeL_scalar (s.data.toList.drop pos)
      rw [← decode_drop] at hsc
      have HSTEP := Lib.hid (okTo_step s bb pos HOK.out hlt)
      have HRUN := Lib.hid (runes_pos s pos hlt)
      generalize Utf8.decode s pos = d at *
      obtain ⟨r, n⟩ := d
      have hrl1 : rs.length + 1 ≤ s.size := by
        have h := congrArg List.length HRS.out
        rw [HRUN.out] at h
        simp only [List.length_append, List.length_cons] at h
        omega
      have hsz := hb.size
      obtain ⟨t1, ht1⟩ : ∃ t, ((n : Int) == 1) = t := ⟨_, rfl⟩
      obtain ⟨t2, ht2⟩ : ∃ t, ((r : Int) == 65533) = t := ⟨_, rfl⟩
      clear hsc
      cases t1 <;> cases t2
      all_goals
        go_wp2_with (first | (go_at_call 92; refine (cO _).mono ?_; rintro e w' ⟨rfl, rfl⟩) | (at_builtin; refine wpList_append_own _ rfl _ _ 116 rfl w.heap.size 21 i0 (.int .i32 0) 1 4 Tryz.underlying116 hi hz0 hz1 hz2 rfl (by decide) _ _ _ rfl (hown.alloc _) ⟨wr.heap.size, 0, none⟩ 1 1 [runeCell r] rfl rfl (cell_one_new _ _ _) (by simp [runeCell, Value.oneCell']) (by unfold maxLen; omega) (by omega) (by simp; omega) ?_; intro v' w1 hown1 hgrow _))
        go_roundw
        case rel => exact ⟨pos + n, _, rs ++ [r], hw2, by go_num, rfl, by have h := HSTEP.out; rw [okSel r n _ _ bb ht1 ht2] at h; exact h, by rw [List.append_assoc, ← HRS.out, HRUN.out]; rfl, by rw [List.length_append, List.map_append]; exact hown1, grown_below hb hsz _ hown hgrow⟩
        case measure => simp [intOf]; omega
    · go_wp2
      go_ret2
      have e1 := okTo_end s bb pos HOK.out hlt
      have e2 := HRS.out
      rw [runes_end s pos hlt, List.append_nil] at e2
      exact ⟨u4, by rw [e1]; rfl, by rw [← e2]; exact hown, hb⟩

end Go.Proofs.YtljnbbdhmlfhjaaGreatDoor
