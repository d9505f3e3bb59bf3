/-
  wire.Counts.
-/
import Derived.Test.YtljnbbdhmlfhjaaGreatDoorWirTri
import Derived.Test.YtljnbbdhmlfhjaaGreatDoorWwAll
import Derived.Deep.RegionHeld3
import Derived.Test.YtljnbbdhmlfhjaaGreatDoorWrA
namespace Go.Proofs.YtljnbbdhmlfhjaaGreatDoor
open Go.RowKit
def iCell (n : Int) : Value := .int .i64 n
def kCounts : Bs := [99, 111, 117, 110, 116, 115]
def numJ (n : Int) : J := .num (Lib.itoa n)
def isI64 (n : Int) : Prop := -9223372036854775808 ≤ n ∧ n ≤ 9223372036854775807
theorem int_at {w : World} {a : Option Addr} {n c : Nat} {l : List Int} (h : argRow w (.slice a n c) l.length 1 (l.map iCell)) {k : Nat} (hk : k < l.length) :
    ∃ b off, a = some ⟨b, off, none⟩ ∧ b < w.heap.size ∧ w.cell? ⟨b, off + k, none⟩ = some (.int .i64 l[k]) := by
  obtain ⟨hl, a', c', e, _, _, hc⟩ := h
  cases e
  obtain ⟨b, off, rfl, hb, hcs⟩ := hc (by omega)
  have h1 := hcs k (by rw [List.length_map]; exact hk)
  rw [List.getElem_map] at h1
  exact ⟨b, off, rfl, hb, h1⟩
theorem numsL_nums : ∀ l : List Int, numsL (l.map numJ)
  | [] => trivial
  | n :: l => ⟨itoa_num n, numsL_nums l⟩
theorem okWL_nums (d : Nat) : ∀ l : List Int, okWL d (l.map numJ) = true
  | [] => rfl
  | n :: l => by
    have h1 := okNum (itoa_num n) d
    have h2 := okWL_nums d l
    simp only [List.map_cons, okWL]
    rw [h2]
    simp only [numJ, h1, Bool.and_self]
theorem okW_under {k : Bs} {l : List J} (hk : Lib.validD k = true) (h : okWL 2 l = true) : okW 0 (underJ k l) = true := by
  have e : okW 0 (underJ k l) = (decide (0 < 16) && (Lib.validD k && (decide (1 < 16) && okWL 2 l) && true)) := rfl
  rw [e, hk, h]
  decide
theorem formT_nums : ∀ l : List Int, (∀ n ∈ l, isI64 n) → (formT (l.map numJ)).length ≤ 22 * l.length
  | [], _ => Nat.zero_le _
  | n :: l, h => by
    have h1 := formT_nums l fun x hx => h x (by simp [hx])
    have h2 := Lib.itoa_length_le n (h n (by simp)).1 (h n (by simp)).2
    simp only [List.map_cons, formT, numJ, formJ, List.length_cons, List.length_append] at h1 ⊢
    omega
set_option maxRecDepth 100000 in
set_option maxHeartbeats 20000000 in
theorem wire_Counts (sv : Value) (l : List Int) (w : World) (hT : T23 w) (hZ : argRow w sv l.length 1 (l.map iCell)) (hin : ∀ n ∈ l, isI64 n) (hlen : l.length ≤ 100000000) :
    Calls Tryz.prog 54 #[sv] w (JustX w (underJ kCounts (l.map numJ))) := by
  have EI : ElemT Tryz.prog 42 20 .nilIface 1 16 := ⟨Tryz.underlying42, by kernel_rfl, rfl, by decide⟩
  have hform : (formJ (underJ kCounts (l.map numJ))).length ≤ 10000001000 := by
    have h1 := under_form kCounts (l.map numJ)
    have h2 := formT_nums l hin
    have h3 : kCounts.length = 6 := rfl
    omega
  have hnums := nums_under kCounts (numsL_nums l)
  have hok : okW 0 (underJ kCounts (l.map numJ)) = true := okW_under (by decide) (okWL_nums 2 l)
  have CW := Lib.hid (fun (W : World) (v : Value) (S : Nat → Prop) (hS : ∀ k, S k → k < W.heap.size) (hW : Below w.heap.size w W) (h : RepJ W S (underJ kCounts (l.map numJ)) v) => write_out _ hnums S v W (hT.to hW).tabs h hS (by omega))
  have CN := Lib.hid (fun (W : World) (hW : Below w.heap.size w W) (n : Int) (hn : n ∈ l) => wire_number n (hin n hn).1 (hin n hn).2 W (hT.to hW))
  have HZ := Lib.hid (fun (W : World) (hW : Below w.heap.size w W) => argRow_below hZ hW)
  have hsv : ∃ a c, sv = .slice a l.length c := by
    obtain ⟨_, a, c, rfl, -⟩ := hZ
    exact ⟨a, c, rfl⟩
  obtain ⟨sa, sc, rfl⟩ := hsv
  obtain ⟨n, hn⟩ : ∃ n, l.length = n := ⟨_, rfl⟩
  have HN := Lib.hid hn
  have HOK := Lib.hid hok
  have hst := WIt.start w (belowAJ (Below.refl _ _) (Nat.le_refl _))
  rw [hn] at hlen HZ ⊢
  clear hT hZ hin hform hnums hn hok
  go_enter Tryz.func54, Tryz.ntmps54
  go_wp2
  go_loopw [3, 11] (fun ov iv wr => ∃ (k : Nat) (vs : List Value), iv = .int .i64 k ∧ k ≤ n ∧ WIt w wr ov ((l.take k).map numJ) vs) (fun _ iv _ => n - (intOf iv).toNat)
  case atStart => exact ⟨0, [], rfl, by omega, hst⟩
  case round =>
    obtain ⟨k, vs, rfl, hk, ho⟩ := hrel
    have HO := Lib.hid ho
    have hown := ho.own
    have hb := ho.below
    have hsz := hb.size
    by_cases hkl : k < n
    · have hkz : k < l.length := by rw [HN.out]; exact hkl
      have hlk : ((l.take k).map numJ).length = k := by rw [List.length_map, List.length_take, Nat.min_eq_left (by omega)]
      have HLK := Lib.hid hlk
      rw [hlk] at hown
      obtain ⟨va, vc, rfl⟩ := owns_slice hown
      have d1 : decide ((k : Int) < (n : Int)) = true := decide_eq_true (by omega)
      obtain ⟨b, off, rfl, hbl, c0⟩ := int_at (HN.out.symm ▸ HZ.out wr hb) hkz
      obtain ⟨z, hz⟩ : ∃ z, l[k] = z := ⟨_, rfl⟩
      rw [hz] at c0
      have hzm : z ∈ l := by rw [← hz]; exact List.getElem_mem hkz
      have htk : (l.take (k + 1)).map numJ = (l.take k).map numJ ++ [numJ z] := by
        rw [List.take_succ_eq_append_getElem hkz, List.map_append, hz]
        rfl
      have HTK := Lib.hid htk
      have CN1 := CN.out wr hb z hzm
      obtain ⟨I, hI⟩ : ∃ I : ByteArray, (⟨(Lib.itoa z).toArray⟩ : ByteArray) = I := ⟨_, rfl⟩
      rw [hI] at CN1
      have HI := Lib.hid hI
      clear htk hz hlk ho hst hI
      go_wp2_with (first
        | (go_at_call 57; refine CN1.mono ?_; rintro e w4 ⟨rfl, hb34⟩; have HR4 := Lib.hid hb34; have hown4 := fun o => (own_kept hown (grown_of_below hb34 none) (fun k hk => by cases hk)).alloc o; have hsz4 := hb34.size; clear hb34)
        | (at_builtin; go_loud (refine wpList_append_src rfl _ _ _ _ rfl w.heap.size EI _ k vs rfl (hown4 _) _ 1 [.iface 95 (.string I)] rfl (by exact src_last (cs := #[.iface 95 (.string I)]) Tryz.underlying42 1 1 1 (by simp) rfl (by simp [Value.oneCell'])) (by unfold maxLen; omega) (by omega) (by simp; omega) ?_); intro v9 w9 hown9 hgr9 _ hloc9; have H9 := Lib.hid (And.intro hown9 (And.intro hgr9 hloc9)); clear hown9 hgr9 hloc9))
      go_roundw
      case rel =>
        refine ⟨k + 1, vs ++ [.iface 95 (.string I)], by go_num, by omega, ?_⟩
        rw [HTK.out]
        exact HO.out.more HR4.out (show RepJ w4 _ (.num (Lib.itoa z)) (.iface 95 (.string I)) by rw [← HI.out]; rfl) H9.out.1 H9.out.2.1 H9.out.2.2 (by rw [HLK.out]) rfl
      case measure => simp [intOf]; omega
    · have hkn : k = n := by omega
      subst hkn
      have d1 : decide ((k : Int) < (k : Int)) = false := decide_eq_false (by omega)
      have htk : (l.take k).map numJ = l.map numJ := by rw [List.take_of_length_le (by rw [HN.out]; omega)]
      have hlk : ((l.take k).map numJ).length = k := by rw [htk, List.length_map, HN.out]
      rw [hlk] at hown
      obtain ⟨va, vc, rfl⟩ := owns_slice hown
      have hrep := ho.done
      rw [htk] at hrep
      have hun := rep_under kCounts hb.size hrep
      have hbu := belowAJ (o := .cells #[.string ⟨#[99, 111, 117, 110, 116, 115]⟩, .iface 42 (.slice va k vc)] 93) hb hb.size
      have CW2 := CW.out _ _ _ (fun k hk => hk.2) hbu hun
      have CU := wire_under ⟨#[99, 111, 117, 110, 116, 115]⟩ va k vc wr
      have HBU := Lib.hid hbu
      clear hrep hun hbu htk hlk hown ho hst
      obtain ⟨j, hj⟩ : ∃ j, underJ kCounts (l.map numJ) = j := ⟨_, rfl⟩
      rw [hj] at CW2
      have HJ := Lib.hid hj
      clear hj
      go_wp2_with (first
        | (go_at_call 40; refine CU.mono ?_; rintro e w4 ⟨rfl, rfl⟩)
        | (go_at_call 22; refine CW2.mono ?_; rintro e w5 ⟨xa, xn, xc, E, rfl, hxo, hb5⟩; have HX := Lib.hid hxo; clear hxo))
      go_ret
      refine ⟨xa, xn, xc, rfl, ?_, HBU.out.trans (hb5.mono HBU.out.size)⟩
      have h := HX.out
      unfold WOut at h
      rw [if_pos (by rw [← HJ.out]; exact HOK.out)] at h
      rw [HJ.out]
      exact h.2
end Go.Proofs.YtljnbbdhmlfhjaaGreatDoor
/-
  wire.Alerts.
-/
namespace Go.Proofs.YtljnbbdhmlfhjaaGreatDoor
open Go.RowKit
def kAlerts : Bs := [97, 108, 101, 114, 116, 115]
def kNameA : Bs := [110, 97, 109, 101]
def kFiring : Bs := [102, 105, 114, 105, 110, 103]
def alertJ (x : Bs × Bool) : J := .obj [(kNameA, .str x.1), (kFiring, .bool x.2)]
def alertsJ (L : List Bs) (F : List Bool) : J := underJ kAlerts ((L.zip F).map alertJ)
theorem texts_sum : ∀ L : List Bs, L.length ≤ (L.map fun b => b.length + 1).sum ∧ ∀ b ∈ L, b.length ≤ (L.map fun b => b.length + 1).sum
  | [] => ⟨Nat.le_refl _, fun b hb => absurd hb (by simp)⟩
  | x :: L => by
    obtain ⟨h1, h2⟩ := texts_sum L
    simp only [List.map_cons, List.sum_cons, List.length_cons]
    refine ⟨by omega, fun b hb => ?_⟩
    rcases List.mem_cons.1 hb with rfl | hb
    · omega
    · have := h2 b hb
      omega
theorem row1_at {w : World} {a : Option Addr} {n c : Nat} {xs : List Value} (h : argRow w (.slice a n c) n 1 xs) {k : Nat} (hk : k < n) :
    ∃ (hx : k < xs.length) (b off : Nat), a = some ⟨b, off, none⟩ ∧ b < w.heap.size ∧ w.cell? ⟨b, off + k, none⟩ = some xs[k] := by
  obtain ⟨hl, a', c', e, _, _, hc⟩ := h
  cases e
  have hx : k < xs.length := by omega
  obtain ⟨b, off, rfl, hb, hcs⟩ := hc (by omega)
  exact ⟨hx, b, off, rfl, hb, hcs k hx⟩
theorem nums_alerts : ∀ l : List (Bs × Bool), numsL (l.map alertJ)
  | [] => trivial
  | _ :: l => ⟨⟨trivial, trivial, trivial⟩, nums_alerts l⟩
theorem okWL_alerts : ∀ l : List (Bs × Bool), okWL 2 (l.map alertJ) = l.all fun x => Lib.validD x.1
  | [] => rfl
  | x :: l => by
    have e : okW 2 (alertJ x) = (decide (2 < 16) && (Lib.validD kNameA && Lib.validD x.1 && (Lib.validD kFiring && true && true))) := rfl
    simp only [List.map_cons, okWL, List.all_cons]
    rw [e, okWL_alerts l, show Lib.validD kNameA = true by decide, show Lib.validD kFiring = true by decide]
    simp
theorem okW_alerts (L : List Bs) (F : List Bool) : okW 0 (alertsJ L F) = (L.zip F).all fun x => Lib.validD x.1 := by
  have h : okW 0 (alertsJ L F) = (decide (0 < 16) && (Lib.validD kAlerts && (decide (1 < 16) && okWL 2 ((L.zip F).map alertJ)) && true)) := rfl
  rw [h, okWL_alerts, show Lib.validD kAlerts = true by decide]
  simp
theorem alert_len (x : Bs × Bool) : (formJ (alertJ x)).length ≤ 6 * x.1.length + 40 := by
  obtain ⟨a, b⟩ := x
  have h1 := quote_len a
  have q1 : (quote kNameA).length = 6 := by decide
  have q2 : (quote kFiring).length = 8 := by decide
  have q3 : trueB.length = 4 := rfl
  have q4 : falseB.length = 5 := rfl
  cases b <;> simp only [alertJ, formJ, formM, formU, formE, List.length_cons, List.length_append, List.length_nil, q1, q2, q3, q4] <;> omega
theorem alerts_form : ∀ (L : List Bs) (F : List Bool), (formT ((L.zip F).map alertJ)).length ≤ 50 * (L.map fun b => b.length + 1).sum
  | [], _ => Nat.zero_le _
  | x :: L, [] => Nat.zero_le _
  | x :: L, y :: F => by
    have ih := alerts_form L F
    have h1 := alert_len (x, y)
    simp only [List.zip_cons_cons, List.map_cons, formT, List.sum_cons, List.length_cons, List.length_append] at ih h1 ⊢
    omega
theorem rep_alert {lo : Nat} {W : World} (x : Bs × Bool) (hlo : lo ≤ W.heap.size) :
    RepJ (W.alloc (.cells #[.string ⟨#[110, 97, 109, 101]⟩, .iface 9 (.string ⟨x.1.toArray⟩), .string ⟨#[102, 105, 114, 105, 110, 103]⟩, .iface 4 (.bool x.2)] 93))
      (Nw lo (W.alloc (.cells #[.string ⟨#[110, 97, 109, 101]⟩, .iface 9 (.string ⟨x.1.toArray⟩), .string ⟨#[102, 105, 114, 105, 110, 103]⟩, .iface 4 (.bool x.2)] 93))) (alertJ x) (.iface 79 (.slice (some ⟨W.heap.size, 0, none⟩) 2 2)) := by
  have ho := World.ownsRow_lit (base := lo) (e := 93) (size := 2) W #[.string ⟨#[110, 97, 109, 101]⟩, .iface 9 (.string ⟨x.1.toArray⟩), .string ⟨#[102, 105, 114, 105, 110, 103]⟩, .iface 4 (.bool x.2)] 2 hlo (by decide) rfl
  exact ⟨_, [.string ⟨#[110, 97, 109, 101]⟩, .iface 9 (.string ⟨x.1.toArray⟩), .string ⟨#[102, 105, 114, 105, 110, 103]⟩, .iface 4 (.bool x.2)], rfl, rowS_own ho, _, _, rfl, rfl, _, _, rfl, rfl, rfl⟩
def AlertX (w : World) (L : List Bs) (F : List Bool) (e : Ending) (w' : World) : Prop :=
  if L.length = F.length then WrittenX w (alertsJ L F) e w' else e = .returned (.tuple #[.slice none 0 0, .int .i64 1]) ∧ Below w.heap.size w w'
set_option maxRecDepth 100000 in
set_option maxHeartbeats 20000000 in
theorem wire_Alerts (sv fv : Value) (L : List Bs) (F : List Bool) (w : World) (hT : T23 w) (hZ : argRow w sv L.length 1 (L.map strV)) (hF : argRow w fv F.length 1 (F.map .bool)) (hbk : (L.map fun b => b.length + 1).sum ≤ 1000000000) :
    Calls Tryz.prog 55 #[sv, fv] w (AlertX w L F) := by
  have hlen : L.length ≤ 1000000000 := by
    have h := (texts_sum L).1
    omega
  have hsv : ∃ a c, sv = .slice a L.length c := by
    obtain ⟨_, a, c, rfl, -⟩ := hZ
    exact ⟨a, c, rfl⟩
  have hfv : ∃ a c, fv = .slice a F.length c := by
    obtain ⟨_, a, c, rfl, -⟩ := hF
    exact ⟨a, c, rfl⟩
  obtain ⟨sa, sc, rfl⟩ := hsv
  obtain ⟨fa, fc, rfl⟩ := hfv
  by_cases hLF : L.length = F.length
  · suffices hsu : Calls Tryz.prog 55 #[.slice sa L.length sc, .slice fa F.length fc] w (WrittenX w (alertsJ L F)) from hsu.mono fun e w' h => by
      unfold AlertX
      rw [if_pos hLF]
      exact h
    have EI : ElemT Tryz.prog 42 20 .nilIface 1 16 := ⟨Tryz.underlying42, by kernel_rfl, rfl, by decide⟩
    have hform : (formJ (alertsJ L F)).length ≤ 50000001000 := by
      have h1 := under_form kAlerts ((L.zip F).map alertJ)
      have h2 := alerts_form L F
      have h3 : kAlerts.length = 6 := rfl
      unfold alertsJ
      omega
    have hnums := nums_under kAlerts (nums_alerts (L.zip F))
    have CW := Lib.hid (fun (W : World) (v : Value) (S : Nat → Prop) (hS : ∀ k, S k → k < W.heap.size) (hW : Below w.heap.size w W) (h : RepJ W S (alertsJ L F) v) => write_out (alertsJ L F) hnums S v W (hT.to hW).tabs h hS (by omega))
    have HZ := Lib.hid (fun (W : World) (hW : Below w.heap.size w W) => argRow_below hZ hW)
    have HF := Lib.hid (fun (W : World) (hW : Below w.heap.size w W) => argRow_below hF hW)
    obtain ⟨l, hl⟩ : ∃ l, L.zip F = l := ⟨_, rfl⟩
    have hll : l.length = L.length := by rw [← hl, List.length_zip]; omega
    have HG := Lib.hid (fun (k : Nat) (h : k < l.length) (h1 : k < L.length) (h2 : k < F.length) => (by subst hl; rw [List.getElem_zip] : l[k] = (L[k], F[k])))
    obtain ⟨n, hn⟩ : ∃ n, L.length = n := ⟨_, rfl⟩
    have hn2 : F.length = n := by omega
    have hn3 : l.length = n := by omega
    have HN := Lib.hid (And.intro hn (And.intro hn2 hn3))
    have hst := WIt.start w (belowAJ (Below.refl _ _) (Nat.le_refl _))
    have HJ := Lib.hid (show alertsJ L F = underJ kAlerts (l.map alertJ) by rw [← hl]; rfl)
    rw [hn] at hlen HZ ⊢
    rw [hn2] at HF ⊢
    have b1 : ((n : Int) != (n : Int)) = false := by simp
    clear hT hZ hF hbk hform hnums hn hn2 hn3 hll hl hLF
    go_enter Tryz.func55, Tryz.ntmps55
    go_wp2
    go_loopw [6, 17] (fun ov iv wr => ∃ (k : Nat) (vs : List Value), iv = .int .i64 k ∧ k ≤ n ∧ WIt w wr ov ((l.take k).map alertJ) vs) (fun _ iv _ => n - (intOf iv).toNat)
    case atStart => exact ⟨0, [], rfl, by omega, hst⟩
    case round =>
      obtain ⟨k, vs, rfl, hk, ho⟩ := hrel
      have HO := Lib.hid ho
      have hown := ho.own
      have hb := ho.below
      have hsz := hb.size
      by_cases hkl : k < n
      · have hkz : k < l.length := by rw [HN.out.2.2]; exact hkl
        have hk1 : k < L.length := by rw [HN.out.1]; exact hkl
        have hk2 : k < F.length := by rw [HN.out.2.1]; exact hkl
        have hlk : ((l.take k).map alertJ).length = k := by rw [List.length_map, List.length_take, Nat.min_eq_left (by omega)]
        have HLK := Lib.hid hlk
        rw [hlk] at hown
        obtain ⟨va, vc, rfl⟩ := owns_slice hown
        have d1 : decide ((k : Int) < (n : Int)) = true := decide_eq_true (by omega)
        obtain ⟨hx1, b1, off1, rfl, hbl1, c1⟩ := row1_at (HZ.out wr hb) hkl
        obtain ⟨hx2, b2, off2, rfl, hbl2, c2⟩ := row1_at (HF.out wr hb) hkl
        rw [List.getElem_map] at c1 c2
        have HF2 := Lib.hid (fun (o : Obj) => (belowAJ (o := o) (Below.refl wr.heap.size wr) (Nat.le_refl _)).cell (p := ⟨b2, off2 + k, none⟩) hbl2)
        have hgk := HG.out k hkz hk1 hk2
        obtain ⟨x, hx⟩ : ∃ x, L[k] = x := ⟨_, rfl⟩
        obtain ⟨y, hy⟩ : ∃ y, F[k] = y := ⟨_, rfl⟩
        rw [hx] at c1
        rw [hy] at c2
        unfold strV at c1
        rw [hx, hy] at hgk
        have htk : (l.take (k + 1)).map alertJ = (l.take k).map alertJ ++ [alertJ (x, y)] := by
          rw [List.take_succ_eq_append_getElem hkz, List.map_append, hgk]
          rfl
        have HTK := Lib.hid htk
        have j0 : (0 : Int) ≤ (k : Int) := by omega
        have j1 : (k : Int) < (n : Int) := by omega
        have hrep := rep_alert (lo := wr.heap.size) (W := wr) (x, y) (Nat.le_refl _)
        have hba := belowAJ (o := .cells #[.string ⟨#[110, 97, 109, 101]⟩, .iface 9 (.string ⟨x.toArray⟩), .string ⟨#[102, 105, 114, 105, 110, 103]⟩, .iface 4 (.bool y)] 93) (Below.refl wr.heap.size wr) (Nat.le_refl _)
        obtain ⟨X, hX⟩ : ∃ X : ByteArray, (⟨x.toArray⟩ : ByteArray) = X := ⟨_, rfl⟩
        simp only at hrep
        rw [hX] at c1 hrep hba
        have HREP := Lib.hid (And.intro hrep hba)
        clear htk hx hy hlk ho hst hgk hX hrep hba HG
        go_wp2_with (at_builtin; go_loud (refine wpList_append_src rfl _ _ _ _ rfl w.heap.size EI _ k vs rfl ((hown.alloc _).alloc _) _ 1 [.iface 79 (.slice (some ⟨wr.heap.size, 0, none⟩) 2 2)] rfl (by exact src_last (cs := #[.iface 79 (.slice (some ⟨wr.heap.size, 0, none⟩) 2 2)]) Tryz.underlying42 1 1 1 (by simp) rfl (by simp [Value.oneCell'])) (by unfold maxLen; omega) (by omega) (by simp; omega) ?_); intro v9 w9 hown9 hgr9 _ hloc9; have H9 := Lib.hid (And.intro hown9 (And.intro hgr9 hloc9)); clear hown9 hgr9 hloc9)
        go_roundw
        case rel =>
          refine ⟨k + 1, vs ++ [.iface 79 (.slice (some ⟨wr.heap.size, 0, none⟩) 2 2)], by go_num, by omega, ?_⟩
          rw [HTK.out]
          exact HO.out.more HREP.out.2 HREP.out.1 H9.out.1 H9.out.2.1 H9.out.2.2 (by rw [HLK.out]) rfl
        case measure => simp [intOf]; omega
      · have hkn : k = n := by omega
        subst hkn
        have d1 : decide ((k : Int) < (k : Int)) = false := decide_eq_false (by omega)
        have htk : (l.take k).map alertJ = l.map alertJ := by rw [List.take_of_length_le (by rw [HN.out.2.2]; omega)]
        have hlk : ((l.take k).map alertJ).length = k := by rw [htk, List.length_map, HN.out.2.2]
        rw [hlk] at hown
        obtain ⟨va, vc, rfl⟩ := owns_slice hown
        have hrep := ho.done
        rw [htk] at hrep
        have hun := rep_under kAlerts hb.size hrep
        rw [← HJ.out] at hun
        have hbu := belowAJ (o := .cells #[.string ⟨#[97, 108, 101, 114, 116, 115]⟩, .iface 42 (.slice va k vc)] 93) hb hb.size
        have CW2 := CW.out _ _ _ (fun k hk => hk.2) hbu hun
        have CU := wire_under ⟨#[97, 108, 101, 114, 116, 115]⟩ va k vc wr
        have HBU := Lib.hid hbu
        clear hrep hun hbu htk hlk hown ho hst HJ CW
        obtain ⟨j, hj⟩ : ∃ j, alertsJ L F = j := ⟨_, rfl⟩
        rw [hj] at CW2
        have HJ2 := Lib.hid hj
        clear hj
        go_wp2_with (first
          | (go_at_call 40; refine CU.mono ?_; rintro e w4 ⟨rfl, rfl⟩)
          | (go_at_call 22; refine CW2.mono ?_; rintro e w5 ⟨xa, xn, xc, E, rfl, hxo, hb5⟩))
        go_ret2
        exact ⟨xa, xn, xc, E, rfl, by rw [HJ2.out]; exact hxo, HBU.out.trans (hb5.mono HBU.out.size)⟩
  · suffices hsu : Calls Tryz.prog 55 #[.slice sa L.length sc, .slice fa F.length fc] w (fun e w' => e = .returned (.tuple #[.slice none 0 0, .int .i64 1]) ∧ Below w.heap.size w w') from hsu.mono fun e w' h => by
      unfold AlertX
      rw [if_neg hLF]
      exact h
    have b1 : ((L.length : Int) != (F.length : Int)) = true := by simp; omega
    clear hZ hF hT hbk
    go_enter Tryz.func55, Tryz.ntmps55
    go_wp2
    go_ret2
    exact ⟨rfl, Below.refl _ _⟩
end Go.Proofs.YtljnbbdhmlfhjaaGreatDoor
/-
  The law WireWrites: alerts.
-/
namespace Go.Proofs.YtljnbbdhmlfhjaaGreatDoor
open Go.RowKit
theorem alerts_text (L : List Bs) (F : List Bool) : formJ (alertsJ L F) = ([123, 34, 97, 108, 101, 114, 116, 115, 34, 58, 91] : Bs) ++ (lstG true ((L.zip F).map alertJ) ++ [93, 125]) := by
  have e1 : quote kAlerts = [34, 97, 108, 101, 114, 116, 115, 34] := by decide
  simp [alertsJ, underJ, formJ, formM, formU, formE, e1, lstG]
def boolB (b : Bool) : Bs := if b then [116, 114, 117, 101, 125] else [102, 97, 108, 115, 101, 125]
theorem alert_text (x : Bs × Bool) : formJ (alertJ x) = ([123, 34, 110, 97, 109, 101, 34, 58] : Bs) ++ (quote x.1 ++ (([44, 34, 102, 105, 114, 105, 110, 103, 34, 58] : Bs) ++ boolB x.2)) := by
  have e1 : quote kNameA = [34, 110, 97, 109, 101, 34] := by decide
  have e2 : quote kFiring = [34, 102, 105, 114, 105, 110, 103, 34] := by decide
  cases hx : x.2 <;> simp [alertJ, formJ, formM, formU, formE, e1, e2, hx, boolB, trueB, falseB]
set_option maxRecDepth 100000 in
set_option maxHeartbeats 40000000 in
theorem law_alerts (sv fv : Value) (L : List Bs) (F : List Bool) (w : World) (hT : T23 w) (hZ : argRow w sv L.length 1 (L.map strV)) (hF : argRow w fv F.length 1 (F.map .bool)) (hbk : (L.map fun b => b.length + 1).sum ≤ 10000000) :
    Calls Tryz.prog 25 #[sv, fv] w fun e w' => e = .returned (.bool true) ∧ Below w.heap.size w w' := by
  have CA := Lib.hid (fun (W : World) (hW : Below w.heap.size w W) => wire_Alerts sv fv L F W (hT.to hW) (argRow_below hZ hW) (argRow_below hF hW) (by omega))
  obtain ⟨hs1, hs2⟩ := texts_sum L
  have hsv : ∃ a c, sv = .slice a L.length c := by
    obtain ⟨_, a, c, rfl, -⟩ := hZ
    exact ⟨a, c, rfl⟩
  have hfv : ∃ a c, fv = .slice a F.length c := by
    obtain ⟨_, a, c, rfl, -⟩ := hF
    exact ⟨a, c, rfl⟩
  obtain ⟨sa, sc, rfl⟩ := hsv
  obtain ⟨fa, fc, rfl⟩ := hfv
  have hll : L.length ≤ 10000000 := by omega
  by_cases hLF : L.length = F.length
  · have CA2 := Lib.hid (fun (W : World) (hW : Below w.heap.size w W) => (show Calls Tryz.prog 55 #[.slice sa L.length sc, .slice fa F.length fc] W (OutX W (outS (alertsJ L F)) (outE (alertsJ L F))) from (CA.out W hW).mono fun e w' h => by
      unfold AlertX at h
      rw [if_pos hLF] at h
      exact writtenX_out h))
    have hform : (formJ (alertsJ L F)).length ≤ 500001000 := by
      have h1 := under_form kAlerts ((L.zip F).map alertJ)
      have h2 := alerts_form L F
      have h3 : kAlerts.length = 6 := rfl
      unfold alertsJ
      omega
    have htx := alerts_text L F
    have hokE := okW_alerts L F
    obtain ⟨S, hS⟩ : ∃ S, outS (alertsJ L F) = S := ⟨_, rfl⟩
    obtain ⟨E, hE⟩ : ∃ E, outE (alertsJ L F) = E := ⟨_, rfl⟩
    rw [hS, hE] at CA2
    unfold OutX at CA2
    have HZ := Lib.hid (fun (W : World) (hW : Below w.heap.size w W) => argRow_below hZ hW)
    have HF := Lib.hid (fun (W : World) (hW : Below w.heap.size w W) => argRow_below hF hW)
    have HSZ := Lib.hid (fun (b : Bs) (hb : b ∈ L) => (by have := hs2 b hb; omega : b.length ≤ 10000000))
    obtain ⟨l, hl⟩ : ∃ l, L.zip F = l := ⟨_, rfl⟩
    have hll2 : l.length = L.length := by rw [← hl, List.length_zip]; omega
    have HG := Lib.hid (fun (k : Nat) (h : k < l.length) (h1 : k < L.length) (h2 : k < F.length) => (by subst hl; rw [List.getElem_zip] : l[k] = (L[k], F[k])))
    rw [hl] at htx hokE
    obtain ⟨R, hR⟩ : ∃ R, formJ (alertsJ L F) = R := ⟨_, rfl⟩
    obtain ⟨OK, hOK⟩ : ∃ b, (l.all fun x => Lib.validD x.1) = b := ⟨_, rfl⟩
    rw [hR] at hform htx
    rw [hOK] at hokE
    have HR := Lib.hid htx
    have HOK := Lib.hid (show ((l.drop 0).all fun x => Lib.validD x.1) = OK from hOK)
    have HSE := Lib.hid (show if OK = true then S = ⟨R.toArray⟩ ∧ E = 0 else S = ⟨#[]⟩ ∧ E = 1 by
      unfold outS at hS
      unfold outE at hE
      rw [hokE] at hS hE
      rw [hR] at hS
      split at hS
      · rename_i h
        rw [if_pos h] at hE ⊢
        exact ⟨hS.symm, hE.symm⟩
      · rename_i h
        rw [if_neg h] at hE ⊢
        exact ⟨hS.symm, hE.symm⟩)
    obtain ⟨n, hn⟩ : ∃ n, L.length = n := ⟨_, rfl⟩
    have hn2 : F.length = n := by omega
    have hn3 : l.length = n := by omega
    have HN := Lib.hid (And.intro hn (And.intro hn2 hn3))
    rw [hn] at HZ hll CA2 ⊢
    rw [hn2] at HF CA2 ⊢
    have b1 : ((n : Int) == (n : Int)) = true := by simp
    clear CA hT hZ hF hbk hn hn2 hn3 hll2 hl hLF hs1 hs2 hokE hS hE hR hOK htx
    go_enter Tryz.func25, Tryz.ntmps25
    have CA3 := CA2.out w (Below.refl _ _)
    go_upto_region 2 with (go_at_call 55; refine CA3.mono ?_; rintro e w1 ⟨a1, c1, rfl, hr1, hb1⟩)
    have HR1 := Lib.hid hr1
    have HB1 := Lib.hid hb1
    clear CA3 CA2 hr1 hb1
    go_wp2
    go_loopw [7, 8, 9] (fun sv bv iv wr => ∃ (k : Nat) (s : ByteArray) (v : Bool), sv = .string s ∧ bv = .bool v ∧ iv = .int .i64 k ∧ k ≤ n ∧ (v = true → s.data.toList ++ (lstG (decide (k = 0)) ((l.drop k).map alertJ) ++ [93, 125]) = R) ∧ (v && (l.drop k).all fun x => Lib.validD x.1) = OK ∧ Below w1.heap.size w1 wr) (fun _ _ iv _ => n - (intOf iv).toNat)
    case atStart => exact ⟨0, ⟨#[123, 34, 97, 108, 101, 114, 116, 115, 34, 58, 91]⟩, true, rfl, rfl, rfl, Nat.zero_le _, fun _ => HR.out.symm, by rw [Bool.true_and]; exact HOK.out, Below.refl _ _⟩
    case round =>
      obtain ⟨k, s, v, rfl, rfl, rfl, hk, hacc, hok, hb⟩ := hrel
      have hbw := below_seq HB1.out hb
      have hb0 := Lib.hid hb
      clear hb
      by_cases hgo : k < n ∧ v = true
      · obtain ⟨hkn, rfl⟩ := hgo
        have hkz : k < l.length := by rw [HN.out.2.2]; exact hkn
        have hk1 : k < L.length := by rw [HN.out.1]; exact hkn
        have hk2 : k < F.length := by rw [HN.out.2.1]; exact hkn
        have hacc := hacc rfl
        obtain ⟨hx1, b1', off1, rfl, hbl1, c1⟩ := row1_at (HZ.out wr hbw) hkn
        obtain ⟨hx2, b2', off2, rfl, hbl2, c2⟩ := row1_at (HF.out wr hbw) hkn
        rw [List.getElem_map] at c1 c2
        have HC := Lib.hid (fun W (hW : Below wr.heap.size wr W) => (⟨(hW.cell (p := ⟨b1', off1 + k, none⟩) hbl1).trans c1, (hW.cell (p := ⟨b2', off2 + k, none⟩) hbl2).trans c2⟩ : W.cell? ⟨b1', off1 + k, none⟩ = some (strV L[k]) ∧ W.cell? ⟨b2', off2 + k, none⟩ = some (.bool F[k])))
        have hgk := HG.out k hkz hk1 hk2
        rw [List.drop_eq_getElem_cons hkz, hgk] at hacc hok
        rw [List.map_cons, lstG_cons, alert_text] at hacc
        rw [List.all_cons, Bool.true_and] at hok
        have hzx := HSZ.out L[k] (List.getElem_mem hk1)
        obtain ⟨x, hx⟩ : ∃ x, L[k] = x := ⟨_, rfl⟩
        obtain ⟨y, hy⟩ : ∃ y, F[k] = y := ⟨_, rfl⟩
        rw [hx, hy] at hacc HC
        rw [hx] at hok hzx
        unfold strV at HC
        simp only at hacc hok
        clear hgk hx hy c1 c2 HG hx1 hx2
        obtain ⟨X, hX⟩ : ∃ X : ByteArray, (⟨x.toArray⟩ : ByteArray) = X := ⟨_, rfl⟩
        have hXl : x = bsOf X := by rw [← hX]; simp [bsOf]
        have hXs : X.size ≤ 10000000 := by rw [← hX]; simpa [ByteArray.size] using hzx
        rw [hX] at HC
        rw [hXl] at hacc hok
        clear hX hXl hzx
        have CR := Lib.hid (runes_calls X (by omega))
        have CQ := Lib.hid (fun W => ref_Quote X W (by omega))
        rw [show X.data.toList = bsOf X from rfl] at CQ
        obtain ⟨Q, hQ⟩ : ∃ Q : ByteArray, (⟨(quote (bsOf X)).toArray⟩ : ByteArray) = Q := ⟨_, rfl⟩
        have hQl : quote (bsOf X) = Q.data.toList := by rw [← hQ]
        rw [hQl] at hacc
        rw [hQ] at CQ
        obtain ⟨V, hV⟩ : ∃ V, Lib.validD (bsOf X) = V := ⟨_, rfl⟩
        rw [hV] at CR hok
        have HT : lstG false ((l.drop (k + 1)).map alertJ) = lstG (decide (k + 1 = 0)) ((l.drop (k + 1)).map alertJ) := rfl
        obtain ⟨T, hTd⟩ : ∃ T, lstG false ((l.drop (k + 1)).map alertJ) = T := ⟨_, rfl⟩
        rw [hTd] at HT hacc
        have HTT := Lib.hid HT
        obtain ⟨pre, hpre, hcase⟩ := pre_cases k
        rw [hpre] at hacc
        have hln := congrArg List.length hacc
        simp only [List.length_append, List.length_cons, List.length_nil, zlen_size] at hln
        have j0 : (0 : Int) ≤ (k : Int) := by omega
        have j1 : (k : Int) < (n : Int) := by omega
        have zQ : Q.size ≤ 600000000 := by omega
        have zs : s.size ≤ 600000000 := by omega
        have y0 : (s ++ (⟨#[44]⟩ : ByteArray)).size ≤ 600000001 := by rw [zcat_size, show (⟨#[44]⟩ : ByteArray).size = 1 from rfl]; omega
        have HACC := Lib.hid hacc
        have HOK3 := Lib.hid hok
        obtain ⟨g1, g2⟩ := HC.out wr (Below.refl _ _)
        have CR1 := CR.out wr
        clear hln hacc hok hV hQ hQl HT hTd hpre hbl1 hbl2 CR
        go_upto_region 8 with (go_at_call 56; refine CR1.mono ?_; rintro e w2 ⟨vv, rfl, hb2⟩)
        clear CR1 g1 g2
        go_upto_if 42 with fail
        go_cut [7] from 42 to 45 (fun xv wx => ∃ s' : ByteArray, xv = .string s' ∧ s'.data.toList = s.data.toList ++ pre ∧ w2 = wx)
        case first =>
          rcases hcase with ⟨hk0, rfl⟩ | ⟨hk0, rfl⟩
          · have i2 : ¬ (0 : Int) < (k : Int) := by omega
            clear hk0
            go_wp2_with fail
            go_meet
            exact ⟨s, rfl, by simp, rfl⟩
          · have i2 : (0 : Int) < (k : Int) := by omega
            clear hk0
            go_wp2_with fail
            go_meet
            exact ⟨_, rfl, by rw [zcat_list], rfl⟩
        case rest =>
          obtain ⟨s', rfl, hs', rfl⟩ := hcut
          have zs' : s'.size ≤ 600000001 := by
            have h := congrArg List.length hs'
            rw [List.length_append, zlen_size, zlen_size] at h
            have : pre.length ≤ 1 := by rcases hcase with ⟨_, rfl⟩ | ⟨_, rfl⟩ <;> simp
            omega
          have y1 : (s' ++ (⟨#[123, 34, 110, 97, 109, 101, 34, 58]⟩ : ByteArray)).size ≤ 600000009 := by rw [zcat_size, show (⟨#[123, 34, 110, 97, 109, 101, 34, 58]⟩ : ByteArray).size = 8 from rfl]; omega
          have y2 : (s' ++ (⟨#[123, 34, 110, 97, 109, 101, 34, 58]⟩ : ByteArray) ++ Q).size ≤ 1200000009 := by rw [zcat_size]; omega
          have y3 : (s' ++ (⟨#[123, 34, 110, 97, 109, 101, 34, 58]⟩ : ByteArray) ++ Q ++ (⟨#[44, 34, 102, 105, 114, 105, 110, 103, 34, 58]⟩ : ByteArray)).size ≤ 1200000019 := by rw [zcat_size, show (⟨#[44, 34, 102, 105, 114, 105, 110, 103, 34, 58]⟩ : ByteArray).size = 10 from rfl]; omega
          obtain ⟨g1, g2⟩ := HC.out w2 hb2
          have CQ1 := CQ.out w2
          clear hcase zs y0 CQ
          go_upto_region 12 with (go_at_call 38; refine CQ1.mono ?_; rintro e w3 ⟨rfl, hb3⟩)
          have hb23 := hb2.trans (hb3.mono hb2.size)
          clear g1 g2 CQ1
          obtain ⟨g1, g2⟩ := HC.out w3 hb23
          obtain ⟨s4, hs4⟩ : ∃ s4, s' ++ (⟨#[123, 34, 110, 97, 109, 101, 34, 58]⟩ : ByteArray) ++ Q ++ (⟨#[44, 34, 102, 105, 114, 105, 110, 103, 34, 58]⟩ : ByteArray) = s4 := ⟨_, rfl⟩
          rw [hs4] at y3 ⊢
          have HA1 := Lib.hid (show s4.data.toList ++ (boolB y ++ (T ++ [93, 125])) = R by
            rw [← HACC.out, ← hs4, zcat_list, zcat_list, zcat_list, hs']
            simp)
          have HS4 := Lib.hid hs4
          clear hs4 hs' y1 y2 HACC zs' zQ
          have hbq := Lib.hid (below_seq hb0.out hb23)
          cases y with
          | true =>
            go_wp2_with fail
            go_roundw
            case rel => exact ⟨k + 1, s4 ++ (⟨#[116, 114, 117, 101, 125]⟩ : ByteArray), V, rfl, rfl, by go_num, by omega, fun _ => by rw [← HTT.out, ← HA1.out, zcat_list]; simp [boolB], HOK3.out, hbq.out⟩
            case measure => simp [intOf]; omega
          | false =>
            go_wp2_with fail
            go_roundw
            case rel => exact ⟨k + 1, s4 ++ (⟨#[102, 97, 108, 115, 101, 125]⟩ : ByteArray), V, rfl, rfl, by go_num, by omega, fun _ => by rw [← HTT.out, ← HA1.out, zcat_list]; simp [boolB], HOK3.out, hbq.out⟩
            case measure => simp [intOf]; omega
      · have hend : v = OK := by
          cases v with
          | false => rw [← hok]; rfl
          | true =>
            have hkn : k = l.length := by
              have h1 := HN.out.2.2
              have : ¬ k < n := fun h => hgo ⟨h, rfl⟩
              omega
            rw [← hok, hkn, List.drop_length]
            rfl
        subst hend
        have hcv := conv_outX (argRow_below HR1.out hb0.out)
        have hse := HSE.out
        have HBW := Lib.hid hbw
        have HAC := Lib.hid hacc
        clear hacc hok HOK hbw HG
        cases v with
        | true =>
          have i1 : ¬ (k : Int) < (n : Int) := by
            intro h
            exact hgo ⟨by omega, rfl⟩
          have hkn : k = l.length := by
            have h1 := HN.out.2.2
            omega
          have hacc := HAC.out rfl
          rw [hkn, List.drop_length, List.map_nil, lstG_nil, List.nil_append] at hacc
          have hln := congrArg List.length hacc
          simp only [List.length_append, List.length_cons, List.length_nil, zlen_size] at hln
          have zs : s.size ≤ 600000000 := by omega
          rw [if_pos rfl] at hse
          obtain ⟨hS, rfl⟩ := hse
          have hE : s ++ (⟨#[93, 125]⟩ : ByteArray) = S := by rw [hS]; exact zext (by rw [zcat_list, ← hacc])
          have eS : (S.toList == S.toList) = true := by simp
          clear hgo hln hacc hkn HAC HSE hS
          go_wp2_with fail
          go_ret
          exact ⟨rfl, HBW.out⟩
        | false =>
          rw [if_neg Bool.false_ne_true] at hse
          obtain ⟨rfl, rfl⟩ := hse
          clear hgo HAC HSE hcv
          by_cases hkn : k < n
          · have i1 : (k : Int) < (n : Int) := by omega
            go_wp2_with fail
            go_ret
            exact ⟨rfl, HBW.out⟩
          · have i1 : ¬ (k : Int) < (n : Int) := by omega
            go_wp2_with fail
            go_ret
            exact ⟨rfl, HBW.out⟩
  · have CA2 := (CA.out w (Below.refl _ _)).mono fun e w' h => (by
      unfold AlertX at h
      rw [if_neg hLF] at h
      exact h : e = .returned (.tuple #[.slice none 0 0, .int .i64 1]) ∧ Below w.heap.size w w')
    have b1 : ((L.length : Int) == (F.length : Int)) = false := by simp; omega
    clear CA hZ hF hT hbk hs1 hs2 hLF
    go_enter Tryz.func25, Tryz.ntmps25
    go_upto_region 2 with (go_at_call 55; refine CA2.mono ?_; rintro e w1 ⟨rfl, hb1⟩)
    clear CA2
    go_wp2
    go_loopw [8, 9] (fun bv iv wr => bv = .bool false ∧ iv = .int .i64 0 ∧ wr = w1) (fun _ _ _ => 0)
    case atStart => exact ⟨rfl, rfl, rfl⟩
    case round =>
      obtain ⟨rfl, rfl, rfl⟩ := hrel
      by_cases h0 : 0 < L.length
      · have i1 : (0 : Int) < (L.length : Int) := by omega
        go_wp2_with fail
        go_ret
        exact ⟨rfl, hb1⟩
      · have i1 : ¬ (0 : Int) < (L.length : Int) := by omega
        go_wp2_with fail
        go_ret
        exact ⟨rfl, hb1⟩
end Go.Proofs.YtljnbbdhmlfhjaaGreatDoor
/-
  The law WireWrites: numbers.
-/
namespace Go.Proofs.YtljnbbdhmlfhjaaGreatDoor
open Go.RowKit
theorem acc_text (n : Int) : formJ (.obj [(kAcc, .num (Lib.itoa n))]) = ([123, 34, 97, 99, 99, 101, 112, 116, 101, 100, 34, 58] : Bs) ++ (Lib.itoa n ++ [125]) := by
  have e1 : quote kAcc = [34, 97, 99, 99, 101, 112, 116, 101, 100, 34] := by decide
  simp [formJ, formM, formU, formE, e1]
theorem err_text (n : Int) : formJ (.obj [(kErr, .num (Lib.itoa n))]) = ([123, 34, 101, 114, 114, 111, 114, 34, 58] : Bs) ++ (Lib.itoa n ++ [125]) := by
  have e1 : quote kErr = [34, 101, 114, 114, 111, 114, 34] := by decide
  simp [formJ, formM, formU, formE, e1]
theorem counts_text (l : List Int) : formJ (underJ kCounts (l.map numJ)) = ([123, 34, 99, 111, 117, 110, 116, 115, 34, 58, 91] : Bs) ++ (lstG true (l.map numJ) ++ [93, 125]) := by
  have e1 : quote kCounts = [34, 99, 111, 117, 110, 116, 115, 34] := by decide
  simp [underJ, formJ, formM, formU, formE, e1, lstG]
def JustS (w : World) (S : ByteArray) (e : Ending) (w' : World) : Prop := ∃ a c, e = .returned (.slice a S.size c) ∧ argRow w' (.slice a S.size c) S.data.toList.length 1 (S.data.toList.map bCell) ∧ Below w.heap.size w w'
theorem justX_S {w : World} {j : J} {e : Ending} {w' : World} (S : ByteArray) (hS : S.data.toList = formJ j) (h : JustX w j e w') : JustS w S e w' := by
  obtain ⟨a, n, c, rfl, hrow, hb⟩ := h
  rw [← hS] at hrow
  have hn : n = S.size := by
    obtain ⟨_, a', c', e, -⟩ := hrow
    cases e
    simp [ByteArray.size_data]
  subst hn
  exact ⟨a, c, rfl, hrow, hb⟩
theorem wpAnyH_str {P : Program} {md : Region.Mode} {ops : Array Oper} {Q : Exit → Act → World → Prop} {S S' : World → Prop} (hs : ∀ w, S' w → S w) :
    ∀ {fuel : Nat} {listed : Array Bool} {a : Act} {w : World}, wpAnyH P md ops Q S' fuel listed a w → wpAnyH P md ops Q S fuel listed a w
  | 0, _, _, _, h => h
  | _ + 1, _, _, _, h => ⟨h.1, fun i hi => wpOp_mono (fun _ _ h' => ⟨hs _ h'.1, wpAnyH_str hs h'.2⟩) (h.2 i hi)⟩
set_option maxRecDepth 100000 in
set_option maxHeartbeats 40000000 in
theorem law_numbers (sv : Value) (l : List Int) (w : World) (hT : T23 w) (hZ : argRow w sv l.length 1 (l.map iCell)) (hin : ∀ n ∈ l, isI64 n) (hlen : l.length ≤ 10000000) :
    Calls Tryz.prog 24 #[sv] w fun e w' => e = .returned (.bool true) ∧ Below w.heap.size w w' := by
  have hform : (formJ (underJ kCounts (l.map numJ))).length ≤ 1000000000 := by
    have h1 := under_form kCounts (l.map numJ)
    have h2 := formT_nums l hin
    have h3 : kCounts.length = 6 := rfl
    omega
  have CC := Lib.hid (fun (W : World) (hW : Below w.heap.size w W) (S : ByteArray) (hS : S.data.toList = formJ (underJ kCounts (l.map numJ))) => (wire_Counts sv l W (hT.to hW) (argRow_below hZ hW) hin (by omega)).mono fun e w' h => justX_S S hS h)
  have CA := Lib.hid (fun (W : World) (hW : Below w.heap.size w W) (n : Int) (hn : n ∈ l) (S : ByteArray) (hS : S.data.toList = formJ (.obj [(kAcc, .num (Lib.itoa n))])) => (wire_Accepted n W (hT.to hW) (hin n hn).1 (hin n hn).2).mono fun e w' h => justX_S S hS h)
  have CP := Lib.hid (fun (W : World) (hW : Below w.heap.size w W) (n : Int) (hn : n ∈ l) (S : ByteArray) (hS : S.data.toList = formJ (.obj [(kErr, .num (Lib.itoa n))])) => (wire_Problem n W (hT.to hW) (hin n hn).1 (hin n hn).2).mono fun e w' h => justX_S S hS h)
  have CS := Lib.hid (fun (W : World) (n : Int) (hn : n ∈ l) => ref_Signed n (hin n hn).1 (hin n hn).2 W)
  have hsv : ∃ a c, sv = .slice a l.length c := by
    obtain ⟨_, a, c, rfl, -⟩ := hZ
    exact ⟨a, c, rfl⟩
  obtain ⟨sa, sc, rfl⟩ := hsv
  have HZ := Lib.hid (fun (k : Nat) (hk : k < l.length) => int_at hZ hk)
  have htx := counts_text l
  obtain ⟨R, hR⟩ : ∃ R, formJ (underJ kCounts (l.map numJ)) = R := ⟨_, rfl⟩
  rw [hR] at hform htx CC
  have HR := Lib.hid htx
  obtain ⟨n, hn⟩ : ∃ n, l.length = n := ⟨_, rfl⟩
  have HN := Lib.hid hn
  have HIN := Lib.hid hin
  rw [hn] at hlen CC ⊢
  clear hT hZ hin hn hR htx
  go_enter Tryz.func24, Tryz.ntmps24
  go_wp2
  go_loopw [3, 4] (fun sv iv wr => ∃ (k : Nat) (s : ByteArray), sv = .string s ∧ iv = .int .i64 k ∧ k ≤ n ∧ s.data.toList ++ (lstG (decide (k = 0)) ((l.drop k).map numJ) ++ [93, 125]) = R ∧ Below w.heap.size w wr) (fun _ iv _ => n - (intOf iv).toNat)
  case atStart => exact ⟨0, ⟨#[123, 34, 99, 111, 117, 110, 116, 115, 34, 58, 91]⟩, rfl, rfl, Nat.zero_le _, HR.out.symm, Below.refl _ _⟩
  case round =>
    obtain ⟨k, s, rfl, rfl, hk, hacc, hb⟩ := hrel
    by_cases hkn : k < n
    · have hlt : k < l.length := by rw [HN.out]; exact hkn
      obtain ⟨ba, oa, rfl, hba, q0⟩ := HZ.out k hlt
      have hmem := List.getElem_mem hlt
      rw [List.drop_eq_getElem_cons hlt, List.map_cons, lstG_cons] at hacc
      generalize l[k] = z at *
      have HT : lstG false ((l.drop (k + 1)).map numJ) = lstG (decide (k + 1 = 0)) ((l.drop (k + 1)).map numJ) := rfl
      obtain ⟨T, hTd⟩ : ∃ T, lstG false ((l.drop (k + 1)).map numJ) = T := ⟨_, rfl⟩
      rw [hTd] at HT hacc
      have HTT := Lib.hid HT
      obtain ⟨pre, hpre, hcase⟩ := pre_cases k
      rw [hpre] at hacc
      clear hpre HT hTd
      obtain ⟨D, hD⟩ : ∃ D : ByteArray, (⟨(Lib.itoa z).toArray⟩ : ByteArray) = D := ⟨_, rfl⟩
      have hDl : Lib.itoa z = D.data.toList := by rw [← hD]
      have hDs : D.size ≤ 1000 := by
        have h := congrArg List.length hDl
        rw [zlen_size] at h
        have h2 := HIN.out z hmem
        have h3 := Lib.itoa_length_le z h2.1 h2.2
        omega
      obtain ⟨A, hA⟩ : ∃ A : ByteArray, (⟨#[123, 34, 97, 99, 99, 101, 112, 116, 101, 100, 34, 58]⟩ : ByteArray) ++ D ++ (⟨#[125]⟩ : ByteArray) = A := ⟨_, rfl⟩
      obtain ⟨P, hP⟩ : ∃ P : ByteArray, (⟨#[123, 34, 101, 114, 114, 111, 114, 34, 58]⟩ : ByteArray) ++ D ++ (⟨#[125]⟩ : ByteArray) = P := ⟨_, rfl⟩
      have hAt : A.data.toList = formJ (.obj [(kAcc, .num (Lib.itoa z))]) := by rw [acc_text, hDl, ← hA, zcat_list, zcat_list]; simp
      have hPt : P.data.toList = formJ (.obj [(kErr, .num (Lib.itoa z))]) := by rw [err_text, hDl, ← hP, zcat_list, zcat_list]; simp
      have CS1 := Lib.hid (fun (W : World) => CS.out W z hmem)
      rw [hD] at CS1
      have CA1 := Lib.hid (fun (W : World) (hW : Below w.heap.size w W) => CA.out W hW z hmem A hAt)
      have CP1 := Lib.hid (fun (W : World) (hW : Below w.heap.size w W) => CP.out W hW z hmem P hPt)
      have HG := Lib.hid (fun W (hW : Below w.heap.size w W) => (show W.cell? ⟨ba, oa + k, none⟩ = some (.int .i64 z) by rw [hW.cell (p := ⟨ba, _, none⟩) hba]; exact q0))
      rw [show formJ (numJ z) = Lib.itoa z from rfl, hDl] at hacc
      have hln := congrArg List.length hacc
      simp only [List.length_append, List.length_cons, List.length_nil, zlen_size] at hln
      have i0 : (0 : Int) ≤ (k : Int) := by omega
      have i1 : (k : Int) < (n : Int) := by omega
      have zs : s.size ≤ 1000000000 := by omega
      have y0 : (s ++ (⟨#[44]⟩ : ByteArray)).size ≤ 1000000001 := by rw [zcat_size, show (⟨#[44]⟩ : ByteArray).size = 1 from rfl]; omega
      have y1 : ((⟨#[123, 34, 97, 99, 99, 101, 112, 116, 101, 100, 34, 58]⟩ : ByteArray) ++ D).size ≤ 2000 := by rw [zcat_size, show (⟨#[123, 34, 97, 99, 99, 101, 112, 116, 101, 100, 34, 58]⟩ : ByteArray).size = 12 from rfl]; omega
      have y2 : ((⟨#[123, 34, 101, 114, 114, 111, 114, 34, 58]⟩ : ByteArray) ++ D).size ≤ 2000 := by rw [zcat_size, show (⟨#[123, 34, 101, 114, 114, 111, 114, 34, 58]⟩ : ByteArray).size = 9 from rfl]; omega
      have n1 : ¬ 9223372036854775807 < 12 + D.size := by omega
      have n2 : ¬ 9223372036854775807 < ((⟨#[123, 34, 97, 99, 99, 101, 112, 116, 101, 100, 34, 58]⟩ : ByteArray) ++ D).size + 1 := by omega
      have n3 : ¬ 9223372036854775807 < 9 + D.size := by omega
      have n4 : ¬ 9223372036854775807 < ((⟨#[123, 34, 101, 114, 114, 111, 114, 34, 58]⟩ : ByteArray) ++ D).size + 1 := by omega
      have n5 : ¬ 9223372036854775807 < 12 + D.size + 1 := by omega
      have n6 : ¬ 9223372036854775807 < 9 + D.size + 1 := by omega
      have eA : (A.toList == A.toList) = true := by simp
      have eP : (P.toList == P.toList) = true := by simp
      have HACC := Lib.hid hacc
      have g0 := HG.out wr hb
      have CS2 := CS1.out wr
      clear hln hD hDl hacc hAt hPt hmem CA CP CS hba q0
      go_upto_if 12 with fail
      go_cut [3] from 12 to 15 (fun xv wx => ∃ s' : ByteArray, xv = .string s' ∧ s'.data.toList = s.data.toList ++ pre ∧ wr = wx)
      case first =>
        rcases hcase with ⟨hk0, rfl⟩ | ⟨hk0, rfl⟩
        · have i2 : ¬ (0 : Int) < (k : Int) := by omega
          clear hk0
          go_wp2_with fail
          go_meet
          exact ⟨s, rfl, by simp, rfl⟩
        · have i2 : (0 : Int) < (k : Int) := by omega
          clear hk0
          go_wp2_with fail
          go_meet
          exact ⟨_, rfl, by rw [zcat_list], rfl⟩
      case rest =>
        obtain ⟨s', rfl, hs', rfl⟩ := hcut
        have zs' : s'.size ≤ 1000000001 := by
          have h := congrArg List.length hs'
          rw [List.length_append, zlen_size, zlen_size] at h
          have : pre.length ≤ 1 := by rcases hcase with ⟨_, rfl⟩ | ⟨_, rfl⟩ <;> simp
          omega
        obtain ⟨s1, hs1⟩ : ∃ s1, s' ++ D = s1 := ⟨_, rfl⟩
        have HA1 := Lib.hid (show s1.data.toList ++ (T ++ [93, 125]) = R by rw [← HACC.out, ← hs1, zcat_list, hs']; simp)
        clear hcase HACC hs' zs y0
        go_upto_region 8 with (go_at_call 37; refine CS2.mono ?_; rintro e w1 ⟨rfl, hb1⟩)
        have hbr1 := below_seq hb hb1
        clear g0 CS2
        have g0 := HG.out w1 hbr1
        have HC := Lib.hid (fun (W : World) (hW : Below w1.heap.size w1 W) => (⟨HG.out W (below_seq hbr1 hW), hW⟩ : W.cell? ⟨ba, oa + k, none⟩ = some (.int .i64 z) ∧ Below w1.heap.size w1 W))
        have CA2 := Lib.hid (fun (W : World) (hW : Below w1.heap.size w1 W) => CA1.out W (below_seq hbr1 hW))
        have CP2 := Lib.hid (fun (W : World) (hW : Below w1.heap.size w1 W) => CP1.out W (below_seq hbr1 hW))
        unfold JustS at CA2 CP2
        have HBR1 := Lib.hid hbr1
        have HS1 := Lib.hid hs1
        have hbd : Below w1.heap.size w1 w1.drew := (Below.refl _ _).drew
        clear hb1 hb hbr1 zs' hs1 CA1 CP1 HG HIN HZ HN
        refine wp_region_held_drew (S := fun W => W.cell? ⟨ba, oa + k, none⟩ = some (.int .i64 z) ∧ Below w1.heap.size w1 W) (by kernel_rfl) (HC.out _ hbd) (fun hHeld => ?_)
        refine wpAnyH_take (i := 0) (oi := { dst := some 22, op := _, type := _, pos := _, after := _, guard := _ }) (v := ?v0) rfl (by kernel_rfl) (by kernel_rfl) (by kernel_rfl) (fun _ _ _ h => h) (Or.inl ⟨by rfl, ?y0⟩) (by assumption) ?r0
        case y0 => (intro w hSw; (try dsimp only at hSw); go_simp; try with_reducible rfl)
        try simp only [Act.put, List.setIfInBounds_toArray, List.set_cons_zero, List.set_cons_succ]
        refine wpAnyH_take (i := 1) (oi := { dst := some 23, op := _, type := _, pos := _, after := _, guard := _ }) (v := ?v1) rfl (by kernel_rfl) (by kernel_rfl) (by kernel_rfl) (fun _ _ _ h => h) (Or.inl ⟨by rfl, ?y1⟩) (by assumption) ?r1
        case y1 => (intro w hSw; (try dsimp only at hSw); go_simp; try with_reducible rfl)
        try simp only [Act.put, List.setIfInBounds_toArray, List.set_cons_zero, List.set_cons_succ]
        refine wpAnyH_take (i := 2) (oi := { dst := some 24, op := _, type := _, pos := _, after := _, guard := _ }) (v := ?v2) rfl (by kernel_rfl) (by kernel_rfl) (by kernel_rfl) (fun _ _ _ h => h) (Or.inl ⟨by rfl, ?y2⟩) (by assumption) ?r2
        case y2 => (intro w hSw; (try dsimp only at hSw); go_simp; try with_reducible rfl)
        try simp only [Act.put, List.setIfInBounds_toArray, List.set_cons_zero, List.set_cons_succ]
        refine wpAnyH_take (i := 3) (oi := { dst := some 25, op := _, type := _, pos := _, after := _, guard := _ }) (v := ?v3) rfl (by kernel_rfl) (by kernel_rfl) (by kernel_rfl) (fun _ _ _ h => h) (Or.inl ⟨by rfl, ?y3⟩) (by assumption) ?r3
        case y3 => (intro w hSw; (try dsimp only at hSw); go_simp; try with_reducible rfl)
        try simp only [Act.put, List.setIfInBounds_toArray, List.set_cons_zero, List.set_cons_succ]
        refine wpAnyH_take (i := 6) (oi := { dst := some 28, op := _, type := _, pos := _, after := _, guard := _ }) (v := ?v6) rfl (by kernel_rfl) (by kernel_rfl) (by kernel_rfl) (fun _ _ _ h => h) (Or.inl ⟨by rfl, ?y6⟩) (by assumption) ?r6
        case y6 => (intro w hSw; (try dsimp only at hSw); go_simp; try with_reducible rfl)
        try simp only [Act.put, List.setIfInBounds_toArray, List.set_cons_zero, List.set_cons_succ]
        refine wpAnyH_take (i := 7) (oi := { dst := some 29, op := _, type := _, pos := _, after := _, guard := _ }) (v := ?v7) rfl (by kernel_rfl) (by kernel_rfl) (by kernel_rfl) (fun _ _ _ h => h) (Or.inl ⟨by rfl, ?y7⟩) (by assumption) ?r7
        case y7 => (intro w hSw; (try dsimp only at hSw); go_simp; try with_reducible rfl)
        try simp only [Act.put, List.setIfInBounds_toArray, List.set_cons_zero, List.set_cons_succ]
        refine wpAnyH_take (i := 8) (oi := { dst := some 30, op := _, type := _, pos := _, after := _, guard := _ }) (v := ?v8) rfl (by kernel_rfl) (by kernel_rfl) (by kernel_rfl) (fun _ _ _ h => h) (Or.inl ⟨by rfl, ?y8⟩) (by assumption) ?r8
        case y8 => (intro w hSw; (try dsimp only at hSw); go_simp; try with_reducible rfl)
        try simp only [Act.put, List.setIfInBounds_toArray, List.set_cons_zero, List.set_cons_succ]
        refine wpAnyH_take (i := 9) (oi := { dst := some 31, op := _, type := _, pos := _, after := _, guard := _ }) (v := ?v9) rfl (by kernel_rfl) (by kernel_rfl) (by kernel_rfl) (fun _ _ _ h => h) (Or.inl ⟨by rfl, ?y9⟩) (by assumption) ?r9
        case y9 => (intro w hSw; (try dsimp only at hSw); go_simp; try with_reducible rfl)
        try simp only [Act.put, List.setIfInBounds_toArray, List.set_cons_zero, List.set_cons_succ]
        refine wpAnyH_ready (rs := [4]) (by kernel_rfl) (by simp) ?_
        refine AllReadyH.cons (o := { dst := some 26, op := _, type := _, pos := _, after := _, guard := _ }) rfl (fun K hK => ?_) AllReadyH.nil
        go_simp
        go_at_call 26; refine (CA2.out _ hHeld.2).mono ?_; rintro e wa ⟨aa, ca, rfl, hra, hba⟩; have hba2 := below_seq hHeld.2 hba
        refine hK.out _ _ (HC.out _ hba2) (fun hHeld2 => ?r4)
        clear hHeld hK K
        have hHeld := hHeld2
        clear hHeld2
        try simp only [Act.put, List.setIfInBounds_toArray, List.set_cons_zero, List.set_cons_succ]
        refine wpAnyH_str (S' := fun W => W.cell? ⟨ba, oa + k, none⟩ = some (.int .i64 z) ∧ Below w1.heap.size w1 W ∧ Below wa.heap.size wa W) (fun W h => ⟨h.1, h.2.1⟩) ?_
        replace hHeld : (fun W => W.cell? ⟨ba, oa + k, none⟩ = some (.int .i64 z) ∧ Below w1.heap.size w1 W ∧ Below wa.heap.size wa W) _ := ⟨hHeld.1, hHeld.2, Below.refl _ _⟩
        refine wpAnyH_take (i := 5) (oi := { dst := some 27, op := _, type := _, pos := _, after := _, guard := _ }) (v := ?v5) rfl (by kernel_rfl) (by kernel_rfl) (by kernel_rfl) (fun _ _ _ h => h) (Or.inl ⟨by rfl, ?y5⟩) (by assumption) ?r5
        case y5 => (intro w hSw; (try dsimp only at hSw); have cva := conv_outX (argRow_below hra hSw.2.2); go_simp; try with_reducible rfl)
        try simp only [Act.put, List.setIfInBounds_toArray, List.set_cons_zero, List.set_cons_succ]
        refine wpAnyH_ready (rs := [10]) (by kernel_rfl) (by simp) ?_
        refine AllReadyH.cons (o := { dst := some 32, op := _, type := _, pos := _, after := _, guard := _ }) rfl (fun K hK => ?_) AllReadyH.nil
        go_simp
        go_at_call 37; refine (CS1.out _).mono ?_; rintro e ws ⟨rfl, hbs⟩; have hbs2 := below_seq hHeld.2.1 hbs
        refine hK.out _ _ (⟨(HC.out _ hbs2).1, hbs2, below_seq hHeld.2.2 hbs⟩) (fun hHeld2 => ?r10)
        clear hHeld hK K
        have hHeld := hHeld2
        clear hHeld2
        try simp only [Act.put, List.setIfInBounds_toArray, List.set_cons_zero, List.set_cons_succ]
        refine wpAnyH_take (i := 11) (oi := { dst := some 33, op := _, type := _, pos := _, after := _, guard := _ }) (v := ?v11) rfl (by kernel_rfl) (by kernel_rfl) (by kernel_rfl) (fun _ _ _ h => h) (Or.inl ⟨by rfl, ?y11⟩) (by assumption) ?r11
        case y11 => (intro w hSw; (try dsimp only at hSw); go_simp; try with_reducible rfl)
        try simp only [Act.put, List.setIfInBounds_toArray, List.set_cons_zero, List.set_cons_succ]
        refine wpAnyH_take (i := 12) (oi := { dst := some 34, op := _, type := _, pos := _, after := _, guard := _ }) (v := ?v12) rfl (by kernel_rfl) (by kernel_rfl) (by kernel_rfl) (fun _ _ _ h => h) (Or.inl ⟨by rfl, ?y12⟩) (by assumption) ?r12
        case y12 => (intro w hSw; (try dsimp only at hSw); go_simp; try with_reducible rfl)
        try simp only [Act.put, List.setIfInBounds_toArray, List.set_cons_zero, List.set_cons_succ]
        refine wpAnyH_take (i := 13) (oi := { dst := some 35, op := _, type := _, pos := _, after := _, guard := _ }) (v := ?v13) rfl (by kernel_rfl) (by kernel_rfl) (by kernel_rfl) (fun _ _ _ h => h) (Or.inl ⟨by rfl, ?y13⟩) (by assumption) ?r13
        case y13 => (intro w hSw; (try dsimp only at hSw); go_simp; try with_reducible rfl)
        try simp only [Act.put, List.setIfInBounds_toArray, List.set_cons_zero, List.set_cons_succ]
        refine wpAnyH_take (i := 14) (oi := { dst := some 36, op := _, type := _, pos := _, after := _, guard := _ }) (v := ?v14) rfl (by kernel_rfl) (by kernel_rfl) (by kernel_rfl) (fun _ _ _ h => h) (Or.inl ⟨by rfl, ?y14⟩) (by assumption) ?r14
        case y14 => (intro w hSw; (try dsimp only at hSw); go_simp; try with_reducible rfl)
        try simp only [Act.put, List.setIfInBounds_toArray, List.set_cons_zero, List.set_cons_succ]
        refine wpAnyH_take (i := 15) (oi := { dst := some 37, op := _, type := _, pos := _, after := _, guard := _ }) (v := ?v15) rfl (by kernel_rfl) (by kernel_rfl) (by kernel_rfl) (fun _ _ _ h => h) (Or.inl ⟨by rfl, ?y15⟩) (by assumption) ?r15
        case y15 => (intro w hSw; (try dsimp only at hSw); go_simp; try with_reducible rfl)
        try simp only [Act.put, List.setIfInBounds_toArray, List.set_cons_zero, List.set_cons_succ]
        refine wpAnyH_take (i := 16) (oi := { dst := some 38, op := _, type := _, pos := _, after := _, guard := _ }) (v := ?v16) rfl (by kernel_rfl) (by kernel_rfl) (by kernel_rfl) (fun _ _ _ h => h) (Or.inl ⟨by rfl, ?y16⟩) (by assumption) ?r16
        case y16 => (intro w hSw; (try dsimp only at hSw); go_simp; try with_reducible rfl)
        try simp only [Act.put, List.setIfInBounds_toArray, List.set_cons_zero, List.set_cons_succ]
        refine wpAnyH_take (i := 17) (oi := { dst := some 39, op := _, type := _, pos := _, after := _, guard := _ }) (v := ?v17) rfl (by kernel_rfl) (by kernel_rfl) (by kernel_rfl) (fun _ _ _ h => h) (Or.inl ⟨by rfl, ?y17⟩) (by assumption) ?r17
        case y17 => (intro w hSw; (try dsimp only at hSw); go_simp; try with_reducible rfl)
        try simp only [Act.put, List.setIfInBounds_toArray, List.set_cons_zero, List.set_cons_succ]
        refine wpAnyH_take (i := 18) (oi := { dst := some 40, op := _, type := _, pos := _, after := _, guard := _ }) (v := ?v18) rfl (by kernel_rfl) (by kernel_rfl) (by kernel_rfl) (fun _ _ _ h => h) (Or.inl ⟨by rfl, ?y18⟩) (by assumption) ?r18
        case y18 => (intro w hSw; (try dsimp only at hSw); go_simp; try with_reducible rfl)
        try simp only [Act.put, List.setIfInBounds_toArray, List.set_cons_zero, List.set_cons_succ]
        refine wpAnyH_take (i := 21) (oi := { dst := some 43, op := _, type := _, pos := _, after := _, guard := _ }) (v := ?v21) rfl (by kernel_rfl) (by kernel_rfl) (by kernel_rfl) (fun _ _ _ h => h) (Or.inl ⟨by rfl, ?y21⟩) (by assumption) ?r21
        case y21 => (intro w hSw; (try dsimp only at hSw); go_simp; try with_reducible rfl)
        try simp only [Act.put, List.setIfInBounds_toArray, List.set_cons_zero, List.set_cons_succ]
        refine wpAnyH_take (i := 22) (oi := { dst := some 44, op := _, type := _, pos := _, after := _, guard := _ }) (v := ?v22) rfl (by kernel_rfl) (by kernel_rfl) (by kernel_rfl) (fun _ _ _ h => h) (Or.inl ⟨by rfl, ?y22⟩) (by assumption) ?r22
        case y22 => (intro w hSw; (try dsimp only at hSw); go_simp; try with_reducible rfl)
        try simp only [Act.put, List.setIfInBounds_toArray, List.set_cons_zero, List.set_cons_succ]
        refine wpAnyH_take (i := 23) (oi := { dst := some 45, op := _, type := _, pos := _, after := _, guard := _ }) (v := ?v23) rfl (by kernel_rfl) (by kernel_rfl) (by kernel_rfl) (fun _ _ _ h => h) (Or.inl ⟨by rfl, ?y23⟩) (by assumption) ?r23
        case y23 => (intro w hSw; (try dsimp only at hSw); go_simp; try with_reducible rfl)
        try simp only [Act.put, List.setIfInBounds_toArray, List.set_cons_zero, List.set_cons_succ]
        refine wpAnyH_take (i := 24) (oi := { dst := some 46, op := _, type := _, pos := _, after := _, guard := _ }) (v := ?v24) rfl (by kernel_rfl) (by kernel_rfl) (by kernel_rfl) (fun _ _ _ h => h) (Or.inl ⟨by rfl, ?y24⟩) (by assumption) ?r24
        case y24 => (intro w hSw; (try dsimp only at hSw); go_simp; try with_reducible rfl)
        try simp only [Act.put, List.setIfInBounds_toArray, List.set_cons_zero, List.set_cons_succ]
        refine wpAnyH_ready (rs := [19]) (by kernel_rfl) (by simp) ?_
        refine AllReadyH.cons (o := { dst := some 41, op := _, type := _, pos := _, after := _, guard := _ }) rfl (fun K hK => ?_) AllReadyH.nil
        go_simp
        go_at_call 53; refine (CP2.out _ hHeld.2.1).mono ?_; rintro e wp ⟨ap, cp, rfl, hrp, hbp⟩; have hbp2 := below_seq hHeld.2.1 hbp
        refine hK.out _ _ (⟨(HC.out _ hbp2).1, hbp2, below_seq hHeld.2.2 hbp⟩) (fun hHeld2 => ?r19)
        clear hHeld hK K
        have hHeld := hHeld2
        clear hHeld2
        try simp only [Act.put, List.setIfInBounds_toArray, List.set_cons_zero, List.set_cons_succ]
        refine wpAnyH_str (S' := fun W => W.cell? ⟨ba, oa + k, none⟩ = some (.int .i64 z) ∧ Below w1.heap.size w1 W ∧ Below wp.heap.size wp W) (fun W h => ⟨h.1, h.2.1, below_seq hHeld.2.2 h.2.2⟩) ?_
        replace hHeld : (fun W => W.cell? ⟨ba, oa + k, none⟩ = some (.int .i64 z) ∧ Below w1.heap.size w1 W ∧ Below wp.heap.size wp W) _ := ⟨hHeld.1, hHeld.2.1, Below.refl _ _⟩
        refine wpAnyH_take (i := 20) (oi := { dst := some 42, op := _, type := _, pos := _, after := _, guard := _ }) (v := ?v20) rfl (by kernel_rfl) (by kernel_rfl) (by kernel_rfl) (fun _ _ _ h => h) (Or.inl ⟨by rfl, ?y20⟩) (by assumption) ?r20
        case y20 => (intro w hSw; (try dsimp only at hSw); have cvp := conv_outX (argRow_below hrp hSw.2.2); go_simp; try with_reducible rfl)
        try simp only [Act.put, List.setIfInBounds_toArray, List.set_cons_zero, List.set_cons_succ]
        refine wpAnyH_ready (rs := [25]) (by kernel_rfl) (by simp) ?_
        refine AllReadyH.cons (o := { dst := some 47, op := _, type := _, pos := _, after := _, guard := _ }) rfl (fun K hK => ?_) AllReadyH.nil
        go_simp
        go_at_call 37; refine (CS1.out _).mono ?_; rintro e wt ⟨rfl, hbt⟩; have hbt2 := below_seq hHeld.2.1 hbt
        refine hK.out _ _ (⟨(HC.out _ hbt2).1, hbt2, below_seq hHeld.2.2 hbt⟩) (fun hHeld2 => ?r25)
        clear hHeld hK K
        have hHeld := hHeld2
        clear hHeld2
        try simp only [Act.put, List.setIfInBounds_toArray, List.set_cons_zero, List.set_cons_succ]
        refine wpAnyH_take (i := 26) (oi := { dst := some 48, op := _, type := _, pos := _, after := _, guard := _ }) (v := ?v26) rfl (by kernel_rfl) (by kernel_rfl) (by kernel_rfl) (fun _ _ _ h => h) (Or.inl ⟨by rfl, ?y26⟩) (by assumption) ?r26
        case y26 => (intro w hSw; (try dsimp only at hSw); go_simp; try with_reducible rfl)
        try simp only [Act.put, List.setIfInBounds_toArray, List.set_cons_zero, List.set_cons_succ]
        refine wpAnyH_take (i := 27) (oi := { dst := some 49, op := _, type := _, pos := _, after := _, guard := _ }) (v := ?v27) rfl (by kernel_rfl) (by kernel_rfl) (by kernel_rfl) (fun _ _ _ h => h) (Or.inl ⟨by rfl, ?y27⟩) (by assumption) ?r27
        case y27 => (intro w hSw; (try dsimp only at hSw); go_simp; try with_reducible rfl)
        try simp only [Act.put, List.setIfInBounds_toArray, List.set_cons_zero, List.set_cons_succ]
        refine wpAnyH_take (i := 28) (oi := { dst := some 50, op := _, type := _, pos := _, after := _, guard := _ }) (v := ?v28) rfl (by kernel_rfl) (by kernel_rfl) (by kernel_rfl) (fun _ _ _ h => h) (Or.inl ⟨by rfl, ?y28⟩) (by assumption) ?r28
        case y28 => (intro w hSw; (try dsimp only at hSw); go_simp; try with_reducible rfl)
        try simp only [Act.put, List.setIfInBounds_toArray, List.set_cons_zero, List.set_cons_succ]
        refine wpAnyH_take (i := 29) (oi := { dst := some 51, op := _, type := _, pos := _, after := _, guard := _ }) (v := ?v29) rfl (by kernel_rfl) (by kernel_rfl) (by kernel_rfl) (fun _ _ _ h => h) (Or.inl ⟨by rfl, ?y29⟩) (by assumption) ?r29
        case y29 => (intro w hSw; (try dsimp only at hSw); go_simp; try with_reducible rfl)
        try simp only [Act.put, List.setIfInBounds_toArray, List.set_cons_zero, List.set_cons_succ]
        refine wpAnyH_done (by kernel_rfl) ?_ _
        go_wp2
        go_roundw
        case rel => exact ⟨k + 1, s1, by simp [HS1.out], by go_num, by omega, by rw [← HTT.out]; exact HA1.out, below_seq HBR1.out hbt2⟩
        case measure => simp [intOf]; omega
    · have i1 : ¬ (k : Int) < (n : Int) := by omega
      have hke : k = l.length := by rw [HN.out]; omega
      rw [hke, List.drop_length, List.map_nil, lstG_nil, List.nil_append] at hacc
      have hln := congrArg List.length hacc
      simp only [List.length_append, List.length_cons, List.length_nil, zlen_size] at hln
      have y0 : s.size ≤ 1000000000 := by omega
      obtain ⟨X, hX⟩ : ∃ X, s ++ (⟨#[93, 125]⟩ : ByteArray) = X := ⟨_, rfl⟩
      have hXt : X.data.toList = R := by rw [← hX, zcat_list, ← hacc]
      have CC1 := CC.out wr hb X hXt
      unfold JustS at CC1
      have eX : (X.toList == X.toList) = true := by simp
      clear hacc hln hke hXt CC CA CP CS
      go_wp2_with (go_at_call 54; refine CC1.mono ?_; rintro e w1 ⟨a1, c1, rfl, hr1, hb1⟩; have cv1 := conv_outX hr1; clear hr1)
      go_ret
      exact ⟨rfl, below_seq hb hb1⟩
end Go.Proofs.YtljnbbdhmlfhjaaGreatDoor
/-
  The law WireWrites: its walk, whole.
-/
namespace Go.Proofs.YtljnbbdhmlfhjaaGreatDoor
open Go.RowKit
set_option maxRecDepth 100000 in
set_option maxHeartbeats 80000000 in
theorem writes_walk23 (sv cv nv fv : Value) (Z : List RecL) (l : List Int) (L : List Bs) (F : List Bool) (w : World) (hT : T23 w) (hZ : RRow w sv Z) (hin : ∀ z ∈ Z, inRec z.1) (hbk : (Z.map fun z => sumL z.1.labs + z.1.line.size + 1).sum ≤ 1048576)
    (hC : argRow w cv l.length 1 (l.map iCell)) (hcin : ∀ n ∈ l, isI64 n) (hcl : l.length ≤ 1048576) (hN : argRow w nv L.length 1 (L.map strV)) (hF : argRow w fv F.length 1 (F.map .bool)) (hbn : (L.map fun b => b.length + 1).sum ≤ 1048576) :
    Calls Tryz.prog 7 #[sv, cv, .agg #[nv, fv]] w fun e w' => e = .returned (.bool true) ∧ Below w.heap.size w w' := by
  have hbulk : bulkR (Z.map Prod.fst) ≤ 107 * 1048576 := bulk_of _ (by rw [List.map_map]; exact hbk)
  have hform : (formJ (underJ kRecords ((Z.map Prod.fst).map recJ))).length ≤ 200000000 := by
    have h1 := under_form kRecords ((Z.map Prod.fst).map recJ)
    have h2 := recs_form (Z.map Prod.fst) (fun r hr => by
      obtain ⟨z, hz, rfl⟩ := List.mem_map.1 hr
      exact ⟨⟨(hin z hz).1, (hin z hz).2.1⟩, (hin z hz).2.2.1⟩)
    have h3 : kRecords.length = 7 := rfl
    unfold bulkR at hbulk
    omega
  have hsr : ∀ r ∈ Z.map Prod.fst, sizeR r ≤ 1048576 := fun r hr => by
    obtain ⟨z, hz, rfl⟩ := List.mem_map.1 hr
    have h1 := sum_mem (fun z : RecL => sumL z.1.labs + z.1.line.size + 1) hz
    have h2 := size_sumL z.1
    try simp only at h1
    omega
  have CA := Lib.hid (fun (W : World) (hW : Below w.heap.size w W) => law23_awake W (hT.to hW))
  have CW := Lib.hid (fun (W : World) (hW : Below w.heap.size w W) => law_written sv Z W (hT.to hW) (hZ.below hW) hin hbulk (by omega) hsr)
  have CN := Lib.hid (fun (W : World) (hW : Below w.heap.size w W) => law_numbers cv l W (hT.to hW) (argRow_below hC hW) hcin (by omega))
  have CL := Lib.hid (fun (W : World) (hW : Below w.heap.size w W) => law_alerts nv fv L F W (hT.to hW) (argRow_below hN hW) (argRow_below hF hW) (by omega))
  have hb1 := belowAJ (o := .cells #[nv, fv] 59) (Below.refl w.heap.size w) (Nat.le_refl _)
  have hbox := heap_alloc_new w (.cells #[nv, fv] 59)
  have c0 : (w.alloc (.cells #[nv, fv] 59)).cell? ⟨w.heap.size, 0, none⟩ = some nv := by rw [Lib.cell_of_heap hbox]; rfl
  have c1 : (w.alloc (.cells #[nv, fv] 59)).cell? ⟨w.heap.size, 1, none⟩ = some fv := by rw [Lib.cell_of_heap hbox]; rfl
  have hnv : ∃ a c, nv = .slice a L.length c := by
    obtain ⟨_, a, c, rfl, -⟩ := hN
    exact ⟨a, c, rfl⟩
  have hfv : ∃ a c, fv = .slice a F.length c := by
    obtain ⟨_, a, c, rfl, -⟩ := hF
    exact ⟨a, c, rfl⟩
  have hcv : ∃ a c, cv = .slice a l.length c := by
    obtain ⟨_, a, c, rfl, -⟩ := hC
    exact ⟨a, c, rfl⟩
  obtain ⟨na, nc, rfl⟩ := hnv
  obtain ⟨fa, fc, rfl⟩ := hfv
  obtain ⟨ca, cc, rfl⟩ := hcv
  obtain ⟨sa, sc, rfl, -, -⟩ := hZ.shape
  generalize L.length = nL at *
  generalize F.length = nF at *
  generalize l.length = nl at *
  generalize Z.length = nZ at *
  obtain ⟨w1, hw1⟩ : ∃ W, w.alloc (.cells #[.slice na nL nc, .slice fa nF fc] 59) = W := ⟨_, rfl⟩
  have HW1 := Lib.hid hw1
  have hlt : w.heap.size < (w.alloc (.cells #[.slice na nL nc, .slice fa nF fc] 59)).heap.size := by simp
  rw [hw1] at hb1 c0 c1 hlt
  have HB1 := Lib.hid hb1
  have HC0 := Lib.hid (fun (W : World) (hW : Below w1.heap.size w1 W) => (⟨(hW.cell (p := ⟨w.heap.size, 0, none⟩) hlt).trans c0, (hW.cell (p := ⟨w.heap.size, 1, none⟩) hlt).trans c1⟩ : W.cell? ⟨w.heap.size, 0, none⟩ = some (.slice na nL nc) ∧ W.cell? ⟨w.heap.size, 1, none⟩ = some (.slice fa nF fc)))
  have CA1 := CA.out w1 hb1
  clear hT hZ hin hbk hC hcin hN hF hbn hbulk hform hsr CA hb1 hbox c0 c1 hw1
  go_enter Tryz.func7, Tryz.ntmps7
  go_upto_region 1 with fail
  rw [HW1.out]
  go_wp2_with (first
    | (go_at_call 8; refine CA1.mono ?_; rintro e w2 ⟨rfl, hb2⟩; have h2 := HB1.out.trans (hb2.mono HB1.out.size); have CW2 := CW.out w2 h2)
    | (go_at_call 23; refine CW2.mono ?_; rintro e w3 ⟨rfl, hb3⟩; have h3 := h2.trans (hb3.mono h2.size); have CN3 := CN.out w3 h3)
    | (go_at_call 24; refine CN3.mono ?_; rintro e w4 ⟨rfl, hb4⟩; have h4 := h3.trans (hb4.mono h3.size); have CL4 := CL.out w4 h4; obtain ⟨c0, c1⟩ := HC0.out w4 (below_seq (below_seq hb2 hb3) hb4))
    | (go_at_call 25; refine CL4.mono ?_; rintro e w5 ⟨rfl, hb5⟩; have h5 := h4.trans (hb5.mono h4.size)))
  go_ret
  exact ⟨rfl, h5⟩
end Go.Proofs.YtljnbbdhmlfhjaaGreatDoor
