/-
  The program's JSON parser: digits, is.
-/
import Derived.Test.YtljnbbdhmlfhjaaDoorJsAb
namespace Go.Proofs.YtljnbbdhmlfhjaaDoor
open Go.RowKit
theorem digs_drop {b : Bs} {k : Nat} (h : k < b.length) : digs (b.drop k) = if isD b[k] then digs (b.drop (k + 1)) + 1 else 0 := by
  rw [List.drop_eq_getElem_cons h]
  rfl
theorem isD_int {c : UInt8} : isD c = (decide ((48 : Int) ≤ (c.toNat : Int)) && decide ((c.toNat : Int) ≤ 57)) := by
  unfold isD
  rw [Bool.eq_iff_iff]
  simp only [Bool.and_eq_true, decide_eq_true_eq]
  omega
set_option maxRecDepth 100000 in
set_option maxHeartbeats 4000000 in
theorem js_digits (v : Value) (b : Bs) (a : Nat) (w : World) (hb : argRow w v b.length 1 (b.map bCell)) (hl : b.length ≤ 1099511627776) (ha : a ≤ b.length) :
    Calls Tryd.prog 53 #[v, .int .i64 (a : Int)] w fun e w' => e = .returned (.int .i64 ((a + digs (b.drop a) : Nat) : Int)) ∧ w = w' := by
  obtain ⟨R, hR⟩ : ∃ R, a + digs (b.drop a) = R := ⟨_, rfl⟩
  rw [hR]
  have HR := Lib.hid hR
  clear hR
  obtain ⟨_, aa, ca, rfl, hca, hca2, hcs⟩ := hb
  go_enter Tryd.func53, Tryd.ntmps53
  go_wp2
  go_loop [1] (fun kv => ∃ k : Nat, kv = .int .i64 k ∧ k ≤ b.length ∧ k + digs (b.drop k) = R) (fun kv => b.length - (intOf kv).toNat)
  case atStart => exact ⟨a, rfl, ha, HR.out⟩
  case round =>
    obtain ⟨k, rfl, hk, hr⟩ := hrel
    by_cases hlt : k < b.length
    · obtain ⟨b0, off, rfl, hb0, hcell⟩ := hcs (by first | omega | (simp; omega))
      have g0 : w.cell? ⟨b0, off + k, none⟩ = some (.int .u8 (b[k].toNat : Int)) := by
        have := hcell k (by simpa using hlt)
        rw [this, List.getElem_map]; rfl
      rw [digs_drop hlt, isD_int] at hr
      clear hcs hcell
      generalize hc : (b[k].toNat : Int) = c at *
      cases h1 : decide ((48 : Int) ≤ c) with
      | false =>
        rw [h1] at hr
        have hr' : k = R := by simpa using hr
        subst hr'
        clear hr
        go_wp2
        go_ret
        exact ⟨rfl, rfl⟩
      | true =>
        cases h2 : decide (c ≤ 57) with
        | false =>
          rw [h1, h2] at hr
          have hr' : k = R := by simpa using hr
          subst hr'
          clear hr
          go_wp2
          go_ret
          exact ⟨rfl, rfl⟩
        | true =>
          rw [h1, h2] at hr
          have hr' : k + 1 + digs (b.drop (k + 1)) = R := by simp at hr; omega
          have HR' := Lib.hid hr'
          clear hr hr'
          go_wp2
          go_round
          case rel => exact ⟨k + 1, by go_num, by omega, HR'.out⟩
          case measure => simp [intOf]; omega
    · have he : b.drop k = [] := List.drop_of_length_le (by omega)
      rw [he] at hr
      have hr' : k = R := hr
      subst hr'
      clear hr he
      have hd : decide (k < b.length) = false := decide_eq_false hlt
      go_wp2
      go_ret
      exact ⟨rfl, rfl⟩
/-- Does one of the bytes stand there? -/
def isAt (b : Bs) (a : Nat) (set : Bs) : Bool := match b.drop a with
  | [] => false
  | c :: _ => decide (c ∈ set)
theorem drop_byteJ (s : ByteArray) (i : Nat) (h : i < s.size) : s.data.toList.drop i = s[i] :: s.data.toList.drop (i + 1) := by
  have hl : i < s.data.toList.length := by simpa [ByteArray.size_data] using h
  rw [List.drop_eq_getElem_cons hl]
  rfl
set_option maxRecDepth 100000 in
set_option maxHeartbeats 4000000 in
theorem js_is (v : Value) (b : Bs) (a : Nat) (t : ByteArray) (w : World) (hb : argRow w v b.length 1 (b.map bCell)) (hl : b.length ≤ 1099511627776) (ha : a ≤ b.length) (ht : t.size ≤ 1000) :
    Calls Tryd.prog 52 #[v, .int .i64 (a : Int), .string t] w fun e w' => e = .returned (.bool (isAt b a t.data.toList)) ∧ Below w.heap.size w w' := by
  obtain ⟨_, aa, ca, rfl, hca, hca2, hcs⟩ := hb
  by_cases hlt : a < b.length
  · have hR : isAt b a t.data.toList = decide (b[a] ∈ t.data.toList.drop 0) := by
      unfold isAt
      rw [List.drop_eq_getElem_cons hlt]
      rfl
    obtain ⟨b0, off, rfl, hb0, hcell⟩ := hcs (by first | omega | (simp; omega))
    have g0 : w.cell? ⟨b0, off + a, none⟩ = some (.int .u8 (b[a].toNat : Int)) := by
      have := hcell a (by simpa using hlt)
      rw [this, List.getElem_map]; rfl
    rw [hR]
    clear hR hcs hcell
    obtain ⟨c, hc⟩ : ∃ c, b[a] = c := ⟨_, rfl⟩
    rw [hc] at g0 ⊢
    clear hc
    obtain ⟨R, hR⟩ : ∃ R, decide (c ∈ t.data.toList.drop 0) = R := ⟨_, rfl⟩
    rw [hR]
    have HR := Lib.hid hR
    clear hR
    go_enter Tryd.func52, Tryd.ntmps52
    go_wp2
    go_loopw [7, 10] (fun _ iv wr => ∃ k q : Nat, iv = .int .i64 k ∧ k ≤ t.size ∧ decide (c ∈ t.data.toList.drop k) = R ∧ wr = w.drewN q) (fun _ iv _ => t.size - (intOf iv).toNat)
    case atStart => exact ⟨0, 0, rfl, by omega, HR.out, rfl⟩
    case round =>
      obtain ⟨k, q, rfl, hk, hr, rfl⟩ := hrel
      by_cases hkt : k < t.size
      · rw [drop_byteJ t k hkt] at hr
        have i1 : (0 : Int) ≤ (k : Int) := by omega
        have i2 : (k : Int) < (t.size : Int) := by omega
        have j1 : (0 : Int) ≤ (a : Int) := by omega
        have j2 : (a : Int) < (b.length : Int) := by omega
        have d1 : decide ((a : Int) < (b.length : Int)) = true := decide_eq_true j2
        by_cases hx : c = t[k]
        · have hr' : R = true := by rw [← hr]; simp [hx]
          subst hr'
          have he : (((c.toNat : Nat) : Int) == ((t[k].toNat : Nat) : Int)) = true := by rw [hx]; simp
          clear hr HR
          go_upto_region 4 with fail
          go_quiet (fail)
          go_wp2
          go_ret
          exact ⟨rfl, below_drewN (below_drewN (Below.refl _ _) _) _⟩
        · have hr' : decide (c ∈ t.data.toList.drop (k + 1)) = R := by rw [← hr]; simp [hx]
          have HR' := Lib.hid hr'
          have he : (((c.toNat : Nat) : Int) == ((t[k].toNat : Nat) : Int)) = false := by
            rw [beq_eq_false_iff_ne]
            exact fun e => hx (UInt8.toNat_inj.1 (by omega))
          clear hr HR hr' hx
          go_upto_region 4 with fail
          go_quiet (fail)
          go_wp2
          go_roundw
          case rel => exact ⟨k + 1, _, by go_num, by omega, HR'.out, rfl⟩
          case measure => simp [intOf]; omega
      · have he : t.data.toList.drop k = [] := List.drop_of_length_le (by simp [ByteArray.size_data]; omega)
        rw [he] at hr
        have hr' : R = false := by rw [← hr]; simp
        subst hr'
        clear hr he HR
        have hd : decide (k < t.size) = false := decide_eq_false hkt
        go_wp2
        go_ret
        exact ⟨rfl, below_drewN (Below.refl _ _) _⟩
  · have hR : isAt b a t.data.toList = false := by
      unfold isAt
      rw [List.drop_of_length_le (by omega)]
    rw [hR]
    have d1 : decide ((a : Int) < (b.length : Int)) = false := decide_eq_false (by omega)
    have d2 : decide (a < b.length) = false := decide_eq_false hlt
    clear hR hcs
    go_enter Tryd.func52, Tryd.ntmps52
    go_wp2
    go_loopw [7, 10] (fun _ iv wr => ∃ k q : Nat, iv = .int .i64 k ∧ k ≤ t.size ∧ wr = w.drewN q) (fun _ iv _ => t.size - (intOf iv).toNat)
    case atStart => exact ⟨0, 0, rfl, by omega, rfl⟩
    case round =>
      obtain ⟨k, q, rfl, hk, rfl⟩ := hrel
      by_cases hkt : k < t.size
      · go_upto_region 4 with fail
        go_quiet (fail)
        go_wp2
        go_roundw
        case rel => exact ⟨k + 1, _, by go_num, by omega, rfl⟩
        case measure => simp [intOf]; omega
      · have hd : decide (k < t.size) = false := decide_eq_false hkt
        go_wp2
        go_ret
        exact ⟨rfl, below_drewN (Below.refl _ _) _⟩
end Go.Proofs.YtljnbbdhmlfhjaaDoor
