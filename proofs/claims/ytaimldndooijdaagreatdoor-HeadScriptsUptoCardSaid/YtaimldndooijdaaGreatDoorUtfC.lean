/-
  The contract of the reference's One: it is the model's own decoder.
-/
import Derived.Test.YtaimldndooijdaaGreatDoorUtfQ
namespace Go.Proofs.YtaimldndooijdaaGreatDoor
open Go.RowKit

theorem ret_pair {k k' : IntKind} {a b : Int} {p : Nat × Nat} {x y : Nat} (h : p = (x, y)) (ha : a = x) (hb : b = y) : Ending.returned (.tuple #[.int k a, .int k' b]) = .returned (.tuple #[.int k (p.1 : Int), .int k' (p.2 : Int)]) := by rw [h, ha, hb]

set_option maxRecDepth 100000 in
set_option maxHeartbeats 1000000 in
theorem ref_One (s : ByteArray) (i : Nat) (w : World) (hs : s.size ≤ 140737488355328) (hi : i < s.size) :
    Calls Tryz.prog 72 #[.string s, .int .i64 i] w fun e w' => e = .returned (.tuple #[.int .i32 (Utf8.decode s i).1, .int .i64 (Utf8.decode s i).2]) ∧ w = w' := by
  have hg := get_get! s i hi
  have k0 := (s.get! i).toNat_lt
  by_cases h128 : (s.get! i).toNat < 128
  · have hd := decode_one s i h128
    rw [← hg] at hd k0 h128
    clear hg
    have HD := Lib.hid hd; clear hd
    go_enter Tryz.func72, Tryz.ntmps72
    go_wp2
    go_ret2
    exact ⟨ret_pair HD.out rfl rfl, rfl⟩
  by_cases hbad : (s.get! i).toNat < 192 ∨ 248 ≤ (s.get! i).toNat
  · have hd := decode_bad s i (by omega) hbad
    rw [← hg] at k0 h128 hbad
    clear hg
    have HD := Lib.hid hd; clear hd
    go_enter Tryz.func72, Tryz.ntmps72
    rcases hbad with hbad | hbad
    all_goals
      go_wp2
      go_ret2
      exact ⟨ret_pair HD.out rfl rfl, rfl⟩
  have hcls : ∃ n c0 low : Nat, (n = 1 ∧ 192 ≤ (s.get! i).toNat ∧ (s.get! i).toNat < 224 ∧ c0 = (s.get! i).toNat - 192 ∧ low = 128) ∨ (n = 2 ∧ 224 ≤ (s.get! i).toNat ∧ (s.get! i).toNat < 240 ∧ c0 = (s.get! i).toNat - 224 ∧ low = 2048) ∨
      (n = 3 ∧ 240 ≤ (s.get! i).toNat ∧ (s.get! i).toNat < 248 ∧ c0 = (s.get! i).toNat - 240 ∧ low = 65536) := by
    by_cases h1 : (s.get! i).toNat < 224
    · exact ⟨_, _, _, .inl ⟨rfl, by omega, h1, rfl, rfl⟩⟩
    · by_cases h2 : (s.get! i).toNat < 240
      · exact ⟨_, _, _, .inr (.inl ⟨rfl, by omega, h2, rfl, rfl⟩)⟩
      · exact ⟨_, _, _, .inr (.inr ⟨rfl, by omega, by omega, rfl, rfl⟩)⟩
  obtain ⟨n, c0, low, hn⟩ := hcls
  obtain ⟨f1, f2⟩ := decode_fin s i n c0 low hi hn
  have hc0 : c0 < 32 := by omega
  have ha := acc_lt s i c0 hc0
  have F1 := Lib.hid f1
  have F2 := Lib.hid f2
  have HA := Lib.hid ha
  clear f1 f2 ha h128 hbad
  rw [← hg] at hn k0
  clear hg
  rcases hn with ⟨hn, h1, h2, hc, hlow⟩ | ⟨hn, h1, h2, hc, hlow⟩ | ⟨hn, h1, h2, hc, hlow⟩
  all_goals
    have HC := Lib.hid hc
    have HN := Lib.hid hn
    have HL := Lib.hid hlow
    clear hc hn hlow
    obtain ⟨t1, hT1⟩ : ∃ t, decide ((s[i].toNat : Int) < 128) = t := ⟨_, rfl⟩
    obtain ⟨t2, hT2⟩ : ∃ t, decide (192 ≤ (s[i].toNat : Int)) = t := ⟨_, rfl⟩
    obtain ⟨t3, hT3⟩ : ∃ t, decide ((s[i].toNat : Int) < 224) = t := ⟨_, rfl⟩
    obtain ⟨t4, hT4⟩ : ∃ t, decide (224 ≤ (s[i].toNat : Int)) = t := ⟨_, rfl⟩
    obtain ⟨t5, hT5⟩ : ∃ t, decide ((s[i].toNat : Int) < 240) = t := ⟨_, rfl⟩
    obtain ⟨t6, hT6⟩ : ∃ t, decide (240 ≤ (s[i].toNat : Int)) = t := ⟨_, rfl⟩
    obtain ⟨t7, hT7⟩ : ∃ t, decide ((s[i].toNat : Int) < 248) = t := ⟨_, rfl⟩
    cases t1
    any_goals (exfalso; have h := hT1; simp only [decide_eq_true_eq, decide_eq_false_iff_not] at h; omega)
    cases t2
    any_goals (exfalso; have h := hT2; simp only [decide_eq_true_eq, decide_eq_false_iff_not] at h; omega)
    cases t3
    any_goals (exfalso; have h := hT3; simp only [decide_eq_true_eq, decide_eq_false_iff_not] at h; omega)
    cases t4
    any_goals (exfalso; have h := hT4; simp only [decide_eq_true_eq, decide_eq_false_iff_not] at h; omega)
    cases t5
    any_goals (exfalso; have h := hT5; simp only [decide_eq_true_eq, decide_eq_false_iff_not] at h; omega)
    cases t6
    any_goals (exfalso; have h := hT6; simp only [decide_eq_true_eq, decide_eq_false_iff_not] at h; omega)
    cases t7
    any_goals (exfalso; have h := hT7; simp only [decide_eq_true_eq, decide_eq_false_iff_not] at h; omega)
    go_enter Tryz.func72, Tryz.ntmps72
    go_wp2
    go_loop [6, 9] (OneRel s i n c0) (fun _ k => n + 1 - (intOf k).toNat)
    case atStart => exact ⟨0, by omega, rfl, by rw [acc, HC.out]; go_num, fun m a b => by omega⟩
    case round =>
      obtain ⟨j, hj, rfl, rfl, hcn⟩ := hrel
      have hcl : conts s i j := hcn
      have HCN := Lib.hid hcl; clear hcn hcl
      have hacc := HA.out j
      have hj3 : j ≤ 3 := by have := HN.out; omega
      have hacc' : acc s i c0 j < 8388608 := Nat.lt_of_lt_of_le hacc (by rcases (by omega : j = 0 ∨ j = 1 ∨ j = 2 ∨ j = 3) with rfl | rfl | rfl | rfl <;> decide)
      clear hacc
      by_cases hjn : j < n
      · have hjn' := hjn
        rw [HN.out] at hjn'
        by_cases hlt : i + (j + 1) < s.size
        · have e := get_get! s (i + (j + 1)) hlt
          have kx := (s.get! (i + (j + 1))).toNat_lt
          by_cases hq : (s.get! (i + (j + 1))).toNat / 64 = 2
          · have hnew := conts_succ HCN.out hlt hq
            have HNEW := Lib.hid hnew; clear hnew
            have hac : acc s i c0 (j + 1) = acc s i c0 j * 64 + s[i + (j + 1)].toNat % 64 := by rw [e]; rfl
            rw [← e] at hq kx
            clear e
            have HAC := Lib.hid hac; clear hac
            have hb : (((s[i + (j + 1)]).toNat : Int) / 64 % 256 != 2) = false := by simp; omega
            have hb' : (((s[i + (j + 1)]).toNat : Int) / 64 != 2) = false := by simp; omega
            clear hq
            go_wp2
            go_round
            case rel => exact ⟨j + 1, by omega, by go_num, by rw [HAC.out]; go_num, HNEW.out⟩
            case measure => simp [intOf]; omega
          · have hd := F1.out j hjn (fun h => hq h.2)
            rw [← e] at hq kx
            clear e
            have HD := Lib.hid hd; clear hd
            have hb : (((s[i + (j + 1)]).toNat : Int) / 64 % 256 != 2) = true := by simp; omega
            have hb' : (((s[i + (j + 1)]).toNat : Int) / 64 != 2) = true := by simp; omega
            clear hq
            go_wp2
            go_ret2
            exact ⟨ret_pair HD.out rfl rfl, rfl⟩
        · have hd := F1.out j hjn (fun h => hlt h.1)
          have HD := Lib.hid hd; clear hd
          go_wp2
          go_ret2
          exact ⟨ret_pair HD.out rfl rfl, rfl⟩
      · have hje : j = n := by omega
        have hd := F2.out (by rw [← hje]; exact HCN.out)
        rw [← hje, HL.out] at hd
        have HJ := Lib.hid hje
        have hjn' := hjn
        rw [HN.out] at hjn'
        clear hje
        generalize acc s i c0 j = C at hd hacc' ⊢
        have HD := Lib.hid hd; clear hd
        go_wp2
        all_goals go_ret2
        all_goals first
          | exact ⟨ret_pair (HD.out.trans (if_pos (by omega))) rfl rfl, rfl⟩
          | exact ⟨ret_pair (HD.out.trans (if_neg (by omega))) rfl (by have := HJ.out; have := HN.out; omega), rfl⟩

end Go.Proofs.YtaimldndooijdaaGreatDoor
