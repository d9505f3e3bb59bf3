/-
  The walk of the reference's Chunks (printed by wip/genRepG.py).
-/
import Derived.Test.YtknoimflimhcgaaDoorRepF
namespace Go.Proofs.YtknoimflimhcgaaDoor
open Go.RowKit

set_option maxRecDepth 100000 in
set_option maxHeartbeats 16000000 in
theorem ref_Chunks (va : Value) (l : Byt) (w : World) (hrow : argRow w va l.length 1 (Lib.byteCells l)) (hl : l.length ≤ 1000000000) :
    Calls Tryd.prog 9 #[va] w fun e w' => ChunksEnd (resR (runR st0 l)) w.heap.size w' e ∧ Below w.heap.size w w' := by
  have HROW := Lib.hid hrow
  obtain ⟨_, a0, cap, rfl, hlc, hcm, hc⟩ := hrow
  clear hc
  obtain ⟨R, hR⟩ : ∃ R, runR st0 l = R := ⟨_, rfl⟩
  rw [hR]
  have HR := Lib.hid hR
  clear hR
  have EL : ElemT Tryd.prog 24 22 (.slice none 0 0) 1 24 := ⟨Tryd.underlying24, info_row, rfl, by decide⟩
  have E8 : ElemT Tryd.prog 22 5 (.int .u8 0) 1 1 := ⟨Tryd.underlying22, info_u8', rfl, by decide⟩
  go_enter Tryd.func9, Tryd.ntmps9
  go_wp2
  go_loopw [5, 6, 7, 8, 9, 10, 11] (fun v pv sv nv dv zv i wr => ∃ (k s n dg : Nat) (z : Bool) (part : Byt) (acc : List Byt), i = .int .i64 k ∧ k ≤ l.length ∧ sv = .int .i64 s ∧ nv = .int .i64 n ∧ dv = .int .i64 dg ∧ zv = .bool z ∧ s ≤ 6 ∧ dg ≤ 8 ∧ n < 16 ^ dg ∧ part.length ≤ k ∧ acc.length ≤ k ∧
    RMem wr w.heap.size v pv ⟨s, n, dg, z, part, acc⟩ ∧ runR ⟨s, n, dg, z, part, acc⟩ (l.drop k) = R ∧ Below w.heap.size w wr) (fun _ _ _ _ _ _ i _ => l.length - (intOf i).toNat)
  case atStart => exact ⟨0, 0, 0, 0, false, [], [], rfl, Nat.zero_le _, rfl, rfl, rfl, rfl, by omega, by omega, by decide, Nat.le_refl _, Nat.le_refl _, RMem.zero _, HR.out, Below.refl _ _⟩
  case round =>
    obtain ⟨k, s, n, dg, z, part, acc, rfl, hk, hsv, rfl, rfl, rfl, hs6, hdg, hn, hpl, hac, hmem, hrun, hbr⟩ := hrel
    have HM := Lib.hid hmem
    have HRUN := Lib.hid hrun
    have HN := Lib.hid hn
    have hn32 : n < 4294967296 := Nat.lt_of_lt_of_le hn (Nat.le_trans (Nat.pow_le_pow_right (by decide) hdg) (by decide))
    clear hmem hrun hn
    by_cases hlt : k < l.length
    · have hst := run_step hlt HRUN.out
      obtain ⟨b0, off, rfl⟩ : ∃ b off, a0 = some ⟨b, off, none⟩ := by
        obtain ⟨_, a, c, e, _, _, hc⟩ := HROW.out
        cases e
        obtain ⟨b, off, e, _⟩ := hc (by omega)
        exact ⟨b, off, e⟩
      obtain ⟨c, hc⟩ : ∃ c, l[k] = c := ⟨_, rfl⟩
      have hcell : wr.cell? ⟨b0, off + k, none⟩ = some (.int .u8 (c.toNat : Int)) := by
        obtain ⟨_, a, c', e, _, _, h⟩ := (argRow_below HROW.out hbr)
        cases e
        obtain ⟨b, o, e, _, h⟩ := h (by omega)
        cases e
        rw [h k (by simpa [Lib.byteCells] using hlt)]
        simp [Lib.byteCells, hc]
      rw [hc] at hst
      have HST := Lib.hid hst
      clear hst hc
      have hc256 : c.toNat < 256 := c.toNat_lt
      have i1 : (0 : Int) ≤ (k : Int) := by omega
      have i2 : (k : Int) < (l.length : Int) := by omega
      have hcases : s = 0 ∨ s = 1 ∨ s = 2 ∨ s = 3 ∨ s = 4 ∨ s = 5 ∨ s = 6 := by omega
      have hszr := hbr.size
      rcases hcases with rfl | rfl | rfl | rfl | rfl | rfl | rfl
      · have hsv' : _ = Value.int .i64 0 := hsv
        clear hsv
        subst hsv'
        by_cases hx : isHex c = true
        · skip
          have hs : stepR ⟨0, n, dg, z, part, acc⟩ c = some ⟨1, hexV c, 1, hexV c == 0, [], acc⟩ := by simp [stepR, hx]
          have hfin := HST.out
          rw [hs] at hfin
          have HFIN := Lib.hid hfin
          clear hfin hs
          have hzv : ((hexV c : Int) == 0) = (hexV c == 0) := by rw [Bool.eq_iff_iff]; simp
          have HMNH := Lib.hid (HM.out.fresh (st' := ⟨1, hexV c, 1, hexV c == 0, [], acc⟩) rfl rfl)
          rcases hex_tests2 hx with ⟨x1, x2, x3, x4, x5⟩ | ⟨x1, x2, x3, x4, x5⟩
          all_goals
            have hv := hexV_lt hx
            clear hx
            generalize hexV c = v at *
            generalize (v == 0) = zv at *
          all_goals
            go_wp2
            go_roundw
            case rel => exact ⟨k + 1, _, _, _, _, _, _, by go_num, by omega, by rfl, by first | rfl | go_num, by first | rfl | go_num, rfl, by omega, by omega, by simpa using hv, by simp, by first | omega | (simp; omega), HMNH.out, HFIN.out, hbr⟩
            case measure => simp [intOf]; omega
        · skip
          have hs : stepR ⟨0, n, dg, z, part, acc⟩ c = none := by simp [stepR, hx]
          have hfin := HST.out
          rw [hs] at hfin
          have HFIN := Lib.hid hfin.symm
          clear hfin hs
          rcases nohex_tests hx with ⟨x1, x2, x3, x4⟩ | ⟨x1, x2, x3, x4⟩ | ⟨x1, x2, x3, x4⟩
          all_goals clear hx
          all_goals
            go_wp2
            go_ret3
            exact ⟨.none' HFIN.out rfl, hbr⟩
      · have hsv' : _ = Value.int .i64 1 := hsv
        clear hsv
        subst hsv'
        by_cases hx : isHex c = true
        · by_cases hd : dg = 8
          · have d8 : decide ((dg : Int) < 8) = false := decide_eq_false (by omega)
            have e13 : ((c.toNat : Int) == 13) = false := by have := of_decide_eq_true hx; simp; omega
            have hs : stepR ⟨1, n, dg, z, part, acc⟩ c = none := by simp [stepR, hx, hd, isHex_not13 hx]
            have hfin := HST.out
            rw [hs] at hfin
            have HFIN := Lib.hid hfin.symm
            clear hfin hs
            rcases hex_tests2 hx with ⟨x1, x2, x3, x4, x5⟩ | ⟨x1, x2, x3, x4, x5⟩
            all_goals clear hx
            all_goals clear hd
            all_goals
              go_wp2
              go_ret3
              exact ⟨.none' HFIN.out rfl, hbr⟩
          · have d8 : decide ((dg : Int) < 8) = true := decide_eq_true (by omega)
            have hd8 : dg < 8 := by omega
            cases z
            · skip
              have hs : stepR ⟨1, n, dg, false, part, acc⟩ c = some ⟨1, 16 * n + hexV c, dg + 1, false, part, acc⟩ := by simp [stepR, hx, hd8]
              have hfin := HST.out
              rw [hs] at hfin
              have HFIN := Lib.hid hfin
              clear hfin hs
              have HMNH := Lib.hid (HM.out.same (st' := ⟨1, 16 * n + hexV c, dg + 1, false, part, acc⟩) rfl rfl (by simp))
              clear hd
              rcases hex_tests2 hx with ⟨x1, x2, x3, x4, x5⟩ | ⟨x1, x2, x3, x4, x5⟩
              all_goals
                have hv := hexV_lt hx
                clear hx
                generalize hexV c = v at *
              
              all_goals
                go_wp2
                go_roundw
                case rel => exact ⟨k + 1, _, _, _, _, _, _, by go_num, by omega, by rfl, by first | rfl | go_num, by first | rfl | go_num, rfl, by omega, by omega, pow_next HN.out hv, by omega, by first | omega | (simp; omega), HMNH.out, HFIN.out, hbr⟩
                case measure => simp [intOf]; omega
            · have e13 : ((c.toNat : Int) == 13) = false := by have := of_decide_eq_true hx; simp; omega
              have hs : stepR ⟨1, n, dg, true, part, acc⟩ c = none := by simp [stepR, isHex_not13 hx]
              have hfin := HST.out
              rw [hs] at hfin
              have HFIN := Lib.hid hfin.symm
              clear hfin hs
              rcases hex_tests2 hx with ⟨x1, x2, x3, x4, x5⟩ | ⟨x1, x2, x3, x4, x5⟩
              all_goals clear hx
              all_goals clear hd hd8
              all_goals
                go_wp2
                go_ret3
                exact ⟨.none' HFIN.out rfl, hbr⟩
        · by_cases h13 : c.toNat = 13
          · skip
            have e13 : ((c.toNat : Int) == 13) = true := by simp; omega
            have hc13 : c = 13 := UInt8.toNat_inj.1 h13
            have HMNH := Lib.hid (HM.out.same (st' := ⟨2, n, dg, z, part, acc⟩) rfl rfl (by simp))
            have hs : stepR ⟨1, n, dg, z, part, acc⟩ c = some ⟨2, n, dg, z, part, acc⟩ := by simp [stepR, hc13, show isHex 13 = false from by decide]
            have hfin := HST.out
            rw [hs] at hfin
            have HFIN := Lib.hid hfin
            clear hfin hs
            obtain ⟨x1, x2, x3, x4⟩ := low_tests (c := c) (by omega)
            clear hx hc13 h13
            all_goals
              go_wp2
              go_roundw
              case rel => exact ⟨k + 1, _, _, _, _, _, _, by go_num, by omega, by rfl, by first | rfl | go_num, by first | rfl | go_num, rfl, by omega, by omega, HN.out, by omega, by first | omega | (simp; omega), HMNH.out, HFIN.out, hbr⟩
              case measure => simp [intOf]; omega
          · skip
            have e13 : ((c.toNat : Int) == 13) = false := by simp; omega
            have hc13 : c ≠ 13 := fun e => h13 (by rw [e]; rfl)
            have hs : stepR ⟨1, n, dg, z, part, acc⟩ c = none := by simp [stepR, hx, hc13]
            have hfin := HST.out
            rw [hs] at hfin
            have HFIN := Lib.hid hfin.symm
            clear hfin hs
            rcases nohex_tests hx with ⟨x1, x2, x3, x4⟩ | ⟨x1, x2, x3, x4⟩ | ⟨x1, x2, x3, x4⟩
            all_goals clear hx
            all_goals clear hc13 h13
            all_goals
              go_wp2
              go_ret3
              exact ⟨.none' HFIN.out rfl, hbr⟩
      · have hsv' : _ = Value.int .i64 2 := hsv
        clear hsv
        subst hsv'
        by_cases h10 : c.toNat = 10
        · skip
          have e10 : ((c.toNat : Int) == 10) = true := by simp; omega
          have hc10 : c = 10 := UInt8.toNat_inj.1 h10
          cases z
          · skip
            have HMNH := Lib.hid (HM.out.same (st' := ⟨3, n, dg, false, part, acc⟩) rfl rfl (by simp))
            have hs : stepR ⟨2, n, dg, false, part, acc⟩ c = some ⟨3, n, dg, false, part, acc⟩ := by simp [stepR, hc10]
            have hfin := HST.out
            rw [hs] at hfin
            have HFIN := Lib.hid hfin
            clear hfin hs
            obtain ⟨x1, x2, x3, x4⟩ := low_tests (c := c) (by omega)
            clear hc10 h10
            all_goals
              go_wp2
              go_roundw
              case rel => exact ⟨k + 1, _, _, _, _, _, _, by go_num, by omega, by rfl, by first | rfl | go_num, by first | rfl | go_num, rfl, by omega, by omega, HN.out, by omega, by first | omega | (simp; omega), HMNH.out, HFIN.out, hbr⟩
              case measure => simp [intOf]; omega
          · skip
            have HMNH := Lib.hid (HM.out.same (st' := ⟨4, n, dg, true, part, acc⟩) rfl rfl (by simp))
            have hs : stepR ⟨2, n, dg, true, part, acc⟩ c = some ⟨4, n, dg, true, part, acc⟩ := by simp [stepR, hc10]
            have hfin := HST.out
            rw [hs] at hfin
            have HFIN := Lib.hid hfin
            clear hfin hs
            obtain ⟨x1, x2, x3, x4⟩ := low_tests (c := c) (by omega)
            clear hc10 h10
            all_goals
              go_wp2
              go_roundw
              case rel => exact ⟨k + 1, _, _, _, _, _, _, by go_num, by omega, by rfl, by first | rfl | go_num, by first | rfl | go_num, rfl, by omega, by omega, HN.out, by omega, by first | omega | (simp; omega), HMNH.out, HFIN.out, hbr⟩
              case measure => simp [intOf]; omega
        · skip
          have e10 : ((c.toNat : Int) == 10) = false := by simp; omega
          have hc10 : c ≠ 10 := fun e => h10 (by rw [e]; rfl)
          have hs : stepR ⟨2, n, dg, z, part, acc⟩ c = none := by simp [stepR, hc10]
          have hfin := HST.out
          rw [hs] at hfin
          have HFIN := Lib.hid hfin.symm
          clear hfin hs
          rcases any_tests c with ⟨x1, x2, x3, x4⟩ | ⟨x1, x2, x3, x4⟩ | ⟨x1, x2, x3, x4⟩ | ⟨x1, x2, x3, x4⟩ | ⟨x1, x2, x3, x4⟩
          all_goals clear hc10 h10
          all_goals
            go_wp2
            go_ret3
            exact ⟨.none' HFIN.out rfl, hbr⟩
      · have hsv' : _ = Value.int .i64 3 := hsv
        clear hsv
        subst hsv'
        have hown := HM.out.owns (by simp)
        obtain ⟨pa, pc, rfl⟩ := owns_slice hown
        clear hown
        simp only at HM
        by_cases hp : part.length < n
        · have hs : stepR ⟨3, n, dg, z, part, acc⟩ c = some ⟨3, n, dg, z, part ++ [c], acc⟩ := by simp [stepR, hp]
          have hfin := HST.out
          rw [hs] at hfin
          have HFIN := Lib.hid hfin
          clear hfin hs
          have d3 : decide ((part.length : Int) < (n : Int)) = true := decide_eq_true (by omega)
          obtain ⟨K, hK1, hK2, hown, hmore⟩ := HM.out.more (by simp)
          have HMO := Lib.hid hmore
          clear hmore
          simp only at hown
          have hone : ∀ u ∈ #[Value.int .u8 (c.toNat : Int)].toList, u.oneCell' = true := by simp [Value.oneCell']
          rcases any_tests c with ⟨x1, x2, x3, x4⟩ | ⟨x1, x2, x3, x4⟩ | ⟨x1, x2, x3, x4⟩ | ⟨x1, x2, x3, x4⟩ | ⟨x1, x2, x3, x4⟩
          all_goals
            go_wp2_with (at_builtin; refine wpList_append_src rfl _ _ _ _ rfl K E8 (.slice pa part.length pc) part.length (Lib.byteCells part) rfl (hown.alloc _) _ 1 [.int .u8 (c.toNat : Int)] rfl (by exact src_last (cs := #[.int .u8 (c.toNat : Int)]) Tryd.underlying22 1 1 1 rfl rfl hone) (by unfold maxLen; omega) (by omega) (by simp; omega) ?_; intro v1 w1 hown1 hgr1 _ _)
            go_roundw
            case rel =>
              have hm1 := HMO.out ⟨3, n, dg, z, part ++ [c], acc⟩ w1 v1 c _ rfl rfl hgr1 (by rw [byteCells_append]; exact hown1)
              exact ⟨k + 1, _, _, _, _, _, _, by go_num, by omega, by rfl, rfl, rfl, rfl, by omega, by omega, HN.out, by simp; omega, by omega, hm1, HFIN.out, (hbr.alloc hszr _).grown hgr1 (by simp; omega) (fun j hj => by have := (hown.lt j hj).1; omega)⟩
            case measure => simp [intOf]; omega
        · have d3 : decide ((part.length : Int) < (n : Int)) = false := decide_eq_false (by omega)
          by_cases h13 : c.toNat = 13
          · skip
            have e13 : ((c.toNat : Int) == 13) = true := by simp; omega
            have hc13 : c = 13 := UInt8.toNat_inj.1 h13
            have HMNH := Lib.hid (HM.out.same (st' := ⟨5, n, dg, z, part, acc⟩) rfl rfl (by simp))
            have hs : stepR ⟨3, n, dg, z, part, acc⟩ c = some ⟨5, n, dg, z, part, acc⟩ := by simp [stepR, hp, hc13]
            have hfin := HST.out
            rw [hs] at hfin
            have HFIN := Lib.hid hfin
            clear hfin hs
            obtain ⟨x1, x2, x3, x4⟩ := low_tests (c := c) (by omega)
            clear hc13 h13
            all_goals
              go_wp2
              go_roundw
              case rel => exact ⟨k + 1, _, _, _, _, _, _, by go_num, by omega, by rfl, by first | rfl | go_num, by first | rfl | go_num, rfl, by omega, by omega, HN.out, by omega, by first | omega | (simp; omega), HMNH.out, HFIN.out, hbr⟩
              case measure => simp [intOf]; omega
          · skip
            have e13 : ((c.toNat : Int) == 13) = false := by simp; omega
            have hc13 : c ≠ 13 := fun e => h13 (by rw [e]; rfl)
            have hs : stepR ⟨3, n, dg, z, part, acc⟩ c = none := by simp [stepR, hp, hc13]
            have hfin := HST.out
            rw [hs] at hfin
            have HFIN := Lib.hid hfin.symm
            clear hfin hs
            rcases any_tests c with ⟨x1, x2, x3, x4⟩ | ⟨x1, x2, x3, x4⟩ | ⟨x1, x2, x3, x4⟩ | ⟨x1, x2, x3, x4⟩ | ⟨x1, x2, x3, x4⟩
            all_goals clear hc13 h13
            all_goals
              go_wp2
              go_ret3
              exact ⟨.none' HFIN.out rfl, hbr⟩
      · have hsv' : _ = Value.int .i64 4 := hsv
        clear hsv
        subst hsv'
        by_cases h13 : c.toNat = 13
        · skip
          have e13 : ((c.toNat : Int) == 13) = true := by simp; omega
          have hc13 : c = 13 := UInt8.toNat_inj.1 h13
          have HMNH := Lib.hid (HM.out.same (st' := ⟨5, n, dg, z, part, acc⟩) rfl rfl (by simp))
          have hs : stepR ⟨4, n, dg, z, part, acc⟩ c = some ⟨5, n, dg, z, part, acc⟩ := by simp [stepR, hc13]
          have hfin := HST.out
          rw [hs] at hfin
          have HFIN := Lib.hid hfin
          clear hfin hs
          obtain ⟨x1, x2, x3, x4⟩ := low_tests (c := c) (by omega)
          clear hc13 h13
          all_goals
            go_wp2
            go_roundw
            case rel => exact ⟨k + 1, _, _, _, _, _, _, by go_num, by omega, by rfl, by first | rfl | go_num, by first | rfl | go_num, rfl, by omega, by omega, HN.out, by omega, by first | omega | (simp; omega), HMNH.out, HFIN.out, hbr⟩
            case measure => simp [intOf]; omega
        · skip
          have e13 : ((c.toNat : Int) == 13) = false := by simp; omega
          have hc13 : c ≠ 13 := fun e => h13 (by rw [e]; rfl)
          have hs : stepR ⟨4, n, dg, z, part, acc⟩ c = none := by simp [stepR, hc13]
          have hfin := HST.out
          rw [hs] at hfin
          have HFIN := Lib.hid hfin.symm
          clear hfin hs
          rcases any_tests c with ⟨x1, x2, x3, x4⟩ | ⟨x1, x2, x3, x4⟩ | ⟨x1, x2, x3, x4⟩ | ⟨x1, x2, x3, x4⟩ | ⟨x1, x2, x3, x4⟩
          all_goals clear hc13 h13
          all_goals
            go_wp2
            go_ret3
            exact ⟨.none' HFIN.out rfl, hbr⟩
      · have hsv' : _ = Value.int .i64 5 := hsv
        clear hsv
        subst hsv'
        by_cases h10 : c.toNat = 10
        · skip
          have e10 : ((c.toNat : Int) == 10) = true := by simp; omega
          have hc10 : c = 10 := UInt8.toNat_inj.1 h10
          cases z
          · skip
            have hs : stepR ⟨5, n, dg, false, part, acc⟩ c = some ⟨0, n, dg, false, part, acc ++ [part]⟩ := by simp [stepR, hc10]
            have hfin := HST.out
            rw [hs] at hfin
            have HFIN := Lib.hid hfin
            clear hfin hs
            obtain ⟨x1, x2, x3, x4⟩ := low_tests (c := c) (by omega)
            
            clear hc10 h10
            have hown : wr.ownsRow w.heap.size 5 1 _ part.length (Lib.byteCells part) := HM.out.owns (by simp)
            obtain ⟨pa, pc, rfl⟩ := owns_slice hown
            clear hown
            obtain ⟨E, hE, hpush⟩ := HM.out.push (by simp)
            have HMP := Lib.hid hpush
            clear hpush
            simp only at hE
            go_wp2_with (at_builtin; refine wpList_append_src rfl _ _ _ _ rfl w.heap.size EL _ _ _ rfl (hE.alloc _) _ 1 [.slice pa part.length pc] rfl (by exact src_last (cs := #[.slice pa part.length pc]) Tryd.underlying24 1 1 1 rfl rfl (by simp [Value.oneCell'])) (by unfold maxLen; omega) (by omega) (by simp; omega) ?_; intro v1 w1 hown1 hgr1 _ _)
            go_roundw
            case rel =>
              have hm1 := HMP.out ⟨0, n, dg, false, part, acc ++ [part]⟩ w1 v1 _ rfl rfl hgr1 hown1
              exact ⟨k + 1, _, _, _, _, _, _, by go_num, by omega, by rfl, rfl, rfl, rfl, by omega, by omega, HN.out, by omega, by simp; omega, hm1, HFIN.out, (hbr.alloc hszr _).grown hgr1 (by simp; omega) (fun j hj => (hE.lt j hj).1)⟩
            case measure => simp [intOf]; omega
          · skip
            have HMNH := Lib.hid (HM.out.same (st' := ⟨6, n, dg, true, part, acc⟩) rfl rfl (by simp))
            have hs : stepR ⟨5, n, dg, true, part, acc⟩ c = some ⟨6, n, dg, true, part, acc⟩ := by simp [stepR, hc10]
            have hfin := HST.out
            rw [hs] at hfin
            have HFIN := Lib.hid hfin
            clear hfin hs
            obtain ⟨x1, x2, x3, x4⟩ := low_tests (c := c) (by omega)
            clear hc10 h10
            all_goals
              go_wp2
              go_roundw
              case rel => exact ⟨k + 1, _, _, _, _, _, _, by go_num, by omega, by rfl, by first | rfl | go_num, by first | rfl | go_num, rfl, by omega, by omega, HN.out, by omega, by first | omega | (simp; omega), HMNH.out, HFIN.out, hbr⟩
              case measure => simp [intOf]; omega
        · skip
          have e10 : ((c.toNat : Int) == 10) = false := by simp; omega
          have hc10 : c ≠ 10 := fun e => h10 (by rw [e]; rfl)
          have hs : stepR ⟨5, n, dg, z, part, acc⟩ c = none := by simp [stepR, hc10]
          have hfin := HST.out
          rw [hs] at hfin
          have HFIN := Lib.hid hfin.symm
          clear hfin hs
          rcases any_tests c with ⟨x1, x2, x3, x4⟩ | ⟨x1, x2, x3, x4⟩ | ⟨x1, x2, x3, x4⟩ | ⟨x1, x2, x3, x4⟩ | ⟨x1, x2, x3, x4⟩
          all_goals clear hc10 h10
          all_goals
            go_wp2
            go_ret3
            exact ⟨.none' HFIN.out rfl, hbr⟩
      · have hsv' : _ = Value.int .i64 6 := hsv
        clear hsv
        subst hsv'
        have hs : stepR ⟨6, n, dg, z, part, acc⟩ c = none := by simp [stepR]
        have hfin := HST.out
        rw [hs] at hfin
        have HFIN := Lib.hid hfin.symm
        clear hfin hs
        rcases any_tests c with ⟨x1, x2, x3, x4⟩ | ⟨x1, x2, x3, x4⟩ | ⟨x1, x2, x3, x4⟩ | ⟨x1, x2, x3, x4⟩ | ⟨x1, x2, x3, x4⟩
        all_goals
          go_wp2
          go_ret3
          exact ⟨.none' HFIN.out rfl, hbr⟩
    · obtain rfl : k = l.length := by omega
      subst hsv
      have hq1 : ¬ (l.length : Int) < (l.length : Int) := by omega
      have e6 : ((s : Int) == 6) = (s == 6) := by rw [Bool.eq_iff_iff]; simp; omega
      have hfin := HRUN.out
      rw [List.drop_length] at hfin
      have HFIN := Lib.hid hfin.symm
      clear hfin
      go_wp2
      go_ret3
      exact ⟨.mk (by rw [HFIN.out]; rfl) (by rw [← e6]; rfl) HM.out.parts, hbr⟩
end Go.Proofs.YtknoimflimhcgaaDoor
