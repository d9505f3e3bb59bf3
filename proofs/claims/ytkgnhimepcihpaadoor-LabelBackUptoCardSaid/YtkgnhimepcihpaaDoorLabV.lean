/-
  label.value.
-/
import Derived.Test.YtkgnhimepcihpaaDoorKitC
import Derived.Test.YtkgnhimepcihpaaDoorLabE
namespace Go.Proofs.YtkgnhimepcihpaaDoor
open Go.RowKit

/-- A value up to its closing quote, and what stands behind. -/
def valGo : List UInt8 → List UInt8 → Option (List UInt8 × List UInt8)
  | _, [] => none
  | acc, c :: t =>
    if c = 34 then some (acc, t)
    else if c = 92 then (match t with
      | [] => none
      | d :: t' => valGo (acc ++ [if d = 110 then 10 else d]) t')
    else valGo (acc ++ [c]) t
def ValEnd (r : Option (List UInt8 × List UInt8)) (e : Ending) : Prop := match r with
  | none => e = .returned (.tuple #[.string ⟨#[]⟩, .string ⟨#[]⟩, .bool false])
  | some p => e = .returned (.tuple #[.string ⟨p.1.toArray⟩, .string ⟨p.2.toArray⟩, .bool true])
theorem val_quote {s : ByteArray} {k : Nat} (h : k < s.size) (acc : List UInt8) (hc : s[k] = 34) : valGo acc (s.data.toList.drop k) = some (acc, s.data.toList.drop (k + 1)) := by
  rw [drop_byte s k h, hc]
  unfold valGo
  rw [if_pos rfl]
theorem val_esc {s : ByteArray} {k : Nat} (h : k + 1 < s.size) (acc : List UInt8) (hc : s[k] = 92) : valGo acc (s.data.toList.drop k) = valGo (acc ++ [if s[k + 1] = 110 then 10 else s[k + 1]]) (s.data.toList.drop (k + 1 + 1)) := by
  rw [drop_byte s k (by omega), hc, drop_byte s (k + 1) h]
  conv => lhs; unfold valGo
  rw [if_neg (by decide), if_pos rfl]
theorem val_last {s : ByteArray} {k : Nat} (h : k < s.size) (h1 : ¬ k + 1 < s.size) (acc : List UInt8) (hc : s[k] = 92) : valGo acc (s.data.toList.drop k) = none := by
  rw [drop_byte s k h, hc, List.drop_of_length_le (by simp [ByteArray.size_data]; omega)]
  unfold valGo
  rw [if_neg (by decide), if_pos rfl]
theorem val_sign {s : ByteArray} {k : Nat} (h : k < s.size) (acc : List UInt8) (h1 : s[k] ≠ 34) (h2 : s[k] ≠ 92) : valGo acc (s.data.toList.drop k) = valGo (acc ++ [s[k]]) (s.data.toList.drop (k + 1)) := by
  rw [drop_byte s k h]
  conv => lhs; unfold valGo
  rw [if_neg h1, if_neg h2]
theorem ext_tail (s : ByteArray) (k : Nat) : s.extract k s.size = ⟨(s.data.toList.drop k).toArray⟩ := by
  apply ByteArray.ext
  have h := ext_list' s k
  rw [← h]
theorem conv_part {w : World} {B : Nat} {v : Value} {l : List UInt8} (h : w.ownsRow B 5 1 v l.length (Lib.byteCells l)) : (convert 22 9 v).run Tryd.prog w = .ok (.string ⟨l.toArray⟩) w :=
  conv_owned Tryd.underlying22 Tryd.underlying5 Tryd.underlying9 h

set_option maxRecDepth 100000 in
set_option maxHeartbeats 4000000 in
theorem label_value (s : ByteArray) (w : World) (hs : s.size ≤ 1000000000) :
    Calls Tryd.prog 81 #[.string s] w fun e w' => ValEnd (valGo [] s.data.toList) e ∧ Below w.heap.size w w' := by
  have E8 : ElemT Tryd.prog 22 5 (.int .u8 0) 1 1 := ⟨Tryd.underlying22, by kernel_rfl, rfl, by decide⟩
  obtain ⟨R, hR⟩ : ∃ R, valGo [] s.data.toList = R := ⟨_, rfl⟩
  rw [hR]
  have HR := Lib.hid hR
  clear hR
  go_enter Tryd.func81, Tryd.ntmps81
  go_wp2
  go_loopw [5, 6] (fun vv iv wr => ∃ (k : Nat) (acc : List UInt8), iv = .int .i64 k ∧ k ≤ s.size ∧ acc.length ≤ k ∧ valGo acc (s.data.toList.drop k) = R ∧ wr.ownsRow w.heap.size 5 1 vv acc.length (Lib.byteCells acc) ∧ Below w.heap.size w wr) (fun _ iv _ => s.size - (intOf iv).toNat)
  case atStart => exact ⟨0, [], rfl, Nat.zero_le _, Nat.zero_le _, HR.out, World.ownsRow_nil _ _ _ _, Below.refl _ _⟩
  case round =>
    obtain ⟨k, acc, rfl, hk, hal, hv, hown, hb⟩ := hrel
    obtain ⟨va, vc, rfl⟩ := owns_slice hown
    have HV := Lib.hid hv
    have HO := Lib.hid hown
    clear hv hown
    have hsz := hb.size
    by_cases hlt : k < s.size
    · have i0 : (0 : Int) ≤ (k : Int) := by omega
      have i1 : (k : Int) < (s.size : Int) := by omega
      obtain ⟨c, hc⟩ : ∃ c, s[k] = c := ⟨_, rfl⟩
      have k34 : c.toNat = 34 ↔ c = 34 := ⟨fun h => UInt8.toNat_inj.1 h, fun h => by rw [h]; rfl⟩
      have k92 : c.toNat = 92 ↔ c = 92 := ⟨fun h => UInt8.toNat_inj.1 h, fun h => by rw [h]; rfl⟩
      by_cases h34 : c = 34
      · subst h34
        have hfin := val_quote hlt acc hc
        rw [HV.out] at hfin
        have HFIN := Lib.hid hfin
        have hx := ext_tail s (k + 1)
        have HX := Lib.hid hx
        have hdn : ∀ n, Below wr.heap.size wr (wr.drewN n) := fun n => ⟨rfl, rfl, rfl, Nat.le_refl _, fun _ _ => rfl⟩
        have hcv := fun n => conv_part (owns_below HO.out (hdn n))
        have HDN := Lib.hid hdn
        have i2 : (k : Int) + 1 ≤ (s.size : Int) := by omega
        have i3 : (0 : Int) ≤ (k : Int) + 1 := by omega
        clear hfin hx hdn k34 k92
        go_wp2_with fail
        go_quiet (fail)
        go_wp2_with fail
        go_ret3
        exact ⟨by rw [HFIN.out]; simp only [ValEnd, ← HX.out]; first | rfl | (simp; done), below_seq hb (HDN.out _)⟩
      · have n34 : c.toNat ≠ 34 := fun h => h34 (k34.1 h)
        have e34 : ((c.toNat : Int) == 34) = false := by simp; omega
        by_cases h92 : c = 92
        · subst h92
          by_cases hk1 : k + 1 < s.size
          · have hst := val_esc hk1 acc hc
            rw [HV.out] at hst
            obtain ⟨d, hd⟩ : ∃ d, s[k + 1] = d := ⟨_, rfl⟩
            rw [hd] at hst
            have i2 : (k : Int) + 1 < (s.size : Int) := by omega
            have i3 : (0 : Int) ≤ (k : Int) + 1 := by omega
            have kd : d.toNat = 110 ↔ d = 110 := ⟨fun h => UInt8.toNat_inj.1 h, fun h => by rw [h]; rfl⟩
            by_cases h110 : d = 110
            · rw [if_pos h110] at hst
              subst h110
              have HST := Lib.hid hst
              clear hst kd k34 k92 n34 h34
              go_wp2_with (at_builtin; refine wpList_append_src rfl _ _ _ _ rfl w.heap.size E8 (.slice va acc.length vc) acc.length (Lib.byteCells acc) rfl (HO.out.alloc _) _ 1 [.int .u8 (10)] rfl (by exact src_last (cs := #[.int .u8 (10)]) Tryd.underlying22 1 1 1 rfl rfl (by simp [Value.oneCell'])) (by unfold maxLen; omega) (by omega) (by simp; omega) ?_; intro v1 w1 hown1 hgr1 _ _)
              go_roundw
              case rel => exact ⟨k + 1 + 1, acc ++ [10], by go_num, by omega, by simp; omega, HST.out.symm, by simpa [Lib.byteCells] using hown1, (belowA hb).grown hgr1 (by simp; omega) (fun q hq => (HO.out.lt q hq).1)⟩
              case measure => simp [intOf]; omega
            · rw [if_neg h110] at hst
              have nd : d.toNat ≠ 110 := fun h => h110 (kd.1 h)
              have ed : ((d.toNat : Int) == 110) = false := by simp; omega
              have HST := Lib.hid hst
              clear hst kd k34 k92 n34 h34 nd
              go_wp2_with (at_builtin; refine wpList_append_src rfl _ _ _ _ rfl w.heap.size E8 (.slice va acc.length vc) acc.length (Lib.byteCells acc) rfl (HO.out.alloc _) _ 1 [.int .u8 (d.toNat : Int)] rfl (by exact src_last (cs := #[.int .u8 (d.toNat : Int)]) Tryd.underlying22 1 1 1 rfl rfl (by simp [Value.oneCell'])) (by unfold maxLen; omega) (by omega) (by simp; omega) ?_; intro v1 w1 hown1 hgr1 _ _)
              go_roundw
              case rel => exact ⟨k + 1 + 1, acc ++ [d], by go_num, by omega, by simp; omega, HST.out.symm, by simpa [Lib.byteCells] using hown1, (belowA hb).grown hgr1 (by simp; omega) (fun q hq => (HO.out.lt q hq).1)⟩
              case measure => simp [intOf]; omega
          · have hst := val_last hlt hk1 acc hc
            rw [HV.out] at hst
            have HST := Lib.hid hst
            have i2 : ¬ (k : Int) + 1 < (s.size : Int) := by omega
            clear hst k34 k92 n34 h34
            go_wp2_with (at_builtin; refine wpList_append_src rfl _ _ _ _ rfl w.heap.size E8 (.slice va acc.length vc) acc.length (Lib.byteCells acc) rfl (HO.out.alloc _) _ 1 [.int .u8 (92)] rfl (by exact src_last (cs := #[.int .u8 (92)]) Tryd.underlying22 1 1 1 rfl rfl (by simp [Value.oneCell'])) (by unfold maxLen; omega) (by omega) (by simp; omega) ?_; intro v1 w1 hown1 hgr1 _ _)
            go_roundw
            case rel => exact ⟨k + 1, acc ++ [92], by go_num, by omega, by simp; omega, by (rw [HST.out, List.drop_of_length_le (by simp [ByteArray.size_data]; omega)]; rfl), by simpa [Lib.byteCells] using hown1, (belowA hb).grown hgr1 (by simp; omega) (fun q hq => (HO.out.lt q hq).1)⟩
            case measure => simp [intOf]; omega
        · have n92 : c.toNat ≠ 92 := fun h => h92 (k92.1 h)
          have e92 : ((c.toNat : Int) == 92) = false := by simp; omega
          have hst := val_sign hlt acc (by rw [hc]; exact h34) (by rw [hc]; exact h92)
          rw [HV.out, hc] at hst
          have HST := Lib.hid hst
          clear hst k34 k92 n34 h34 n92 h92
          go_wp2_with (at_builtin; refine wpList_append_src rfl _ _ _ _ rfl w.heap.size E8 (.slice va acc.length vc) acc.length (Lib.byteCells acc) rfl (HO.out.alloc _) _ 1 [.int .u8 (c.toNat : Int)] rfl (by exact src_last (cs := #[.int .u8 (c.toNat : Int)]) Tryd.underlying22 1 1 1 rfl rfl (by simp [Value.oneCell'])) (by unfold maxLen; omega) (by omega) (by simp; omega) ?_; intro v1 w1 hown1 hgr1 _ _)
          go_roundw
          case rel => exact ⟨k + 1, acc ++ [c], by go_num, by omega, by simp; omega, HST.out.symm, by simpa [Lib.byteCells] using hown1, (belowA hb).grown hgr1 (by simp; omega) (fun q hq => (HO.out.lt q hq).1)⟩
          case measure => simp [intOf]; omega
    · have hv := HV.out
      rw [List.drop_of_length_le (by simp [ByteArray.size_data]; omega)] at hv
      have hfin : R = none := by rw [← hv]; rfl
      have i1 : ¬ (k : Int) < (s.size : Int) := by omega
      have HFIN := Lib.hid hfin
      clear hv hfin
      go_wp2
      go_ret3
      exact ⟨by rw [HFIN.out]; rfl, hb⟩
end Go.Proofs.YtkgnhimepcihpaaDoor
