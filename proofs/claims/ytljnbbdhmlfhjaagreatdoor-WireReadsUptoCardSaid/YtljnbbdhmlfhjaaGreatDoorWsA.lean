/-
  The law WireSpaces: its walk.
-/
import Derived.Test.YtljnbbdhmlfhjaaGreatDoorWirTri
namespace Go.Proofs.YtljnbbdhmlfhjaaGreatDoor
open Go.RowKit
theorem tail_len {w : World} {v : Value} {Z : List RecL} {L : List Rec} (h : RRow w v Z) (hZ : Z.map Prod.fst = L) : ∃ a c, v = .slice a L.length c ∧ L.length ≤ c ∧ c ≤ maxLen := by
  obtain ⟨a, c, rfl, h1, h2⟩ := h.shape
  have e : L.length = Z.length := by rw [← hZ, List.length_map]
  rw [e]
  exact ⟨a, c, rfl, h1, h2⟩
set_option maxRecDepth 100000 in
set_option maxHeartbeats 40000000 in
theorem spaces_bad (v : Value) (b : Bs) (w : World) (hT : T23 w) (hb : argRow w v b.length 1 (b.map bCell)) (hE : parseE b ≠ 0) :
    Calls Tryz.prog 6 #[v] w fun e w' => e = .returned (.bool true) ∧ Below w.heap.size w w' := by
  have CA := law23_awake w hT
  have CP := Lib.hid (fun (W : World) (hW : Below w.heap.size w W) => wire_Push v b W (hT.to hW) (argRow_below hb hW))
  have CJ := Lib.hid (fun (W : World) (hW : Below w.heap.size w W) => js_Parse v b W (hT.to hW).tabs (argRow_below hb hW))
  obtain ⟨E, hEE⟩ : ∃ E, parseE b = E := ⟨_, rfl⟩
  have hp : pushP b = (E, []) := by unfold pushP; rw [if_pos hE, hEE]
  have HP := Lib.hid hp
  have HEE := Lib.hid hEE
  rw [hEE] at hE
  have hne : (E != 0) = true := by simpa using hE
  clear hT hb hp hEE hE
  go_enter Tryz.func6, Tryz.ntmps6
  go_upto_region 3 with (go_at_call 8; refine CA.mono ?_; rintro e w1 ⟨rfl, hb1⟩)
  have CP1 := CP.out w1 hb1
  clear CA CP
  go_upto_region 4 with (go_at_call 9; refine CP1.mono ?_; rintro e w2 ⟨u, Z, rfl, hr2, hZ2, hb2⟩; rw [HP.out] at hZ2; have hl2 := tail_len hr2 hZ2; clear hr2 hZ2)
  obtain ⟨ua, uc, rfl, -, -⟩ := hl2
  have h2 := hb1.trans (hb2.mono hb1.size)
  have CJ2 := CJ.out w2 h2
  rw [show (pushP b).1 = E by rw [HP.out], show ([] : List Rec).length = 0 from rfl]
  clear CP1 CJ
  have CJ3 : Calls Tryz.prog 15 #[v] w2 fun e w' => ∃ x, e = .returned (.tuple #[x, .int .i64 E]) ∧ Below w2.heap.size w2 w' := by
    refine CJ2.mono ?_
    rintro e w' ⟨x, h1, h2, h3⟩
    rw [HEE.out] at h1
    exact ⟨x, h1, h3⟩
  clear CJ2
  go_wp2_with (go_at_call 15; refine CJ3.mono ?_; rintro e w3 ⟨x, rfl, hb3⟩)
  go_ret
  exact ⟨rfl, h2.trans (hb3.mono h2.size)⟩
theorem pad_row {W : World} {B : Nat} {u : Value} {F : Bs} {fl : Nat} (hfl : F.length = fl) (h : W.ownsRow B 5 1 u (2 + fl + 1) ((([32, 10] : Bs).map bCell ++ F.map bCell) ++ [.int .u8 9])) :
    argRow W u ([32, 10] ++ F ++ [9]).length 1 (([32, 10] ++ F ++ [9]).map bCell) := by
  have e1 : ([32, 10] ++ F ++ [9] : Bs).length = 2 + fl + 1 := by simp only [List.length_append, List.length_cons, List.length_nil, hfl]
  have e2 : ([32, 10] ++ F ++ [9] : Bs).map bCell = (([32, 10] : Bs).map bCell ++ F.map bCell) ++ [.int .u8 9] := by
    rw [List.map_append, List.map_append]
    rfl
  rw [e1, e2]
  exact argRow_owns h
/-- A record of a row, with its labels. -/
theorem rec_at {w : World} {a : Option Addr} {n c : Nat} {Z : List RecL} {Rs : List Rec} (h : RRow w (.slice a n c) Z) (hZ : Z.map Prod.fst = Rs) {k : Nat} (hk : k < Rs.length) :
    ∃ b off la lc, a = some ⟨b, off, none⟩ ∧ b < w.heap.size ∧ w.cell? ⟨b, off + k * 4, none⟩ = some (.int .i64 Rs[k].time) ∧ w.cell? ⟨b, off + k * 4 + 1, none⟩ = some (.int .u64 (Rs[k].seq : Int)) ∧
      w.cell? ⟨b, off + k * 4 + 2, none⟩ = some (.slice la Rs[k].labs.length lc) ∧ w.cell? ⟨b, off + k * 4 + 3, none⟩ = some (.string Rs[k].line) ∧ LRow w (.slice la Rs[k].labs.length lc) Rs[k].labs := by
  have hkz : k < Z.length := by rw [← hZ, List.length_map] at hk; exact hk
  have hz : Z[k].1 = Rs[k] := by
    have h1 : (Z.map Prod.fst)[k]? = some Z[k].1 := by rw [List.getElem?_map, List.getElem?_eq_getElem hkz]; rfl
    rw [hZ, List.getElem?_eq_getElem hk] at h1
    exact (Option.some.inj h1).symm
  obtain ⟨b, off, e, hb, c0, c1, c2, c3⟩ := h.at hkz
  have hL := (h.2 _ (List.getElem_mem hkz)).1
  obtain ⟨la, lc, hlv, -, -⟩ := hL.shape
  rw [hz] at c0 c1 c3 hL hlv
  rw [hlv] at c2 hL
  exact ⟨b, off, la, lc, e, hb, c0, c1, c2, c3, hL⟩
set_option maxRecDepth 100000 in
set_option maxHeartbeats 40000000 in
theorem spaces_good (v : Value) (b : Bs) (w : World) (hT : T23 w) (hb : argRow w v b.length 1 (b.map bCell)) (hE : parseE b = 0) :
    Calls Tryz.prog 6 #[v] w fun e w' => e = .returned (.bool true) ∧ Below w.heap.size w w' := by
  have CA := law23_awake w hT
  have CP := Lib.hid (fun (W : World) (hW : Below w.heap.size w W) => wire_Push v b W (hT.to hW) (argRow_below hb hW))
  have CJ := Lib.hid (fun (W : World) (hW : Below w.heap.size w W) => js_Parse v b W (hT.to hW).tabs (argRow_below hb hW))
  obtain ⟨hbl, hv, j, hdoc, hdeep, hpj, hone⟩ := parse_zero hE
  obtain ⟨hok, hlen⟩ := doc_ok hv hdoc
  have hpad := push_pad hE
  have hpp : pushP b = pushJ j := by unfold pushP; rw [if_neg (by rw [hE]; decide), hpj]
  rw [hpj] at hpad
  have hin := fun r (h : r ∈ (pushP b).2) => push_in (j := j) (r := r) (by rw [← hpp]; exact h)
  obtain ⟨⟨E, Rs⟩, hER⟩ : ∃ x, pushP b = x := ⟨_, rfl⟩
  rw [hER] at hpad hin
  have HER := Lib.hid hER
  have hfew : Rs.length ≤ 64 := by have := push_few b; rw [hER] at this; exact this
  have HPAD := Lib.hid hpad
  have HIN := Lib.hid hin
  have CP1' := Lib.hid (show ∀ (W : World), Below w.heap.size w W → Calls Tryz.prog 9 #[v] W fun e w' => ∃ a c Z, e = .returned (.tuple #[.slice a Rs.length c, .int .i64 E]) ∧ RRow w' (.slice a Rs.length c) Z ∧ Z.map Prod.fst = Rs ∧ Below W.heap.size W w' from fun W hW => by
    refine (CP.out W hW).mono ?_
    rintro e w' ⟨u, Z, h1, h2, h3, h4⟩
    rw [HER.out] at h1 h3
    obtain ⟨a, c, rfl, -, -⟩ := tail_len h2 h3
    exact ⟨a, c, Z, h1, h2, h3, h4⟩)
  have CPX := Lib.hid (show ∀ (W : World) (u : Value) (t : Bs), Below w.heap.size w W → argRow W u t.length 1 (t.map bCell) → pushP t = (E, Rs) → Calls Tryz.prog 9 #[u] W fun e w' => ∃ a c Z, e = .returned (.tuple #[.slice a Rs.length c, .int .i64 E]) ∧ RRow w' (.slice a Rs.length c) Z ∧ Z.map Prod.fst = Rs ∧ Below W.heap.size W w' from fun W u t hW hu ht => by
    refine (wire_Push u t W (hT.to hW) hu).mono ?_
    rintro e w' ⟨u, Z, h1, h2, h3, h4⟩
    rw [ht] at h1 h3
    obtain ⟨a, c, rfl, -, -⟩ := tail_len h2 h3
    exact ⟨a, c, Z, h1, h2, h3, h4⟩)
  have CJ' := Lib.hid (show ∀ (W : World), Below w.heap.size w W → Calls Tryz.prog 15 #[v] W fun e w' => ∃ x, e = .returned (.tuple #[x, .int .i64 0]) ∧ RepJ w' (Nw W.heap.size w') j x ∧ Below W.heap.size W w' from fun W hW => by
    refine (CJ.out W hW).mono ?_
    rintro e w' ⟨x, h1, h2, h3⟩
    rw [hE] at h1
    rw [hpj] at h2
    exact ⟨x, h1, h2, h3⟩)
  have CW := Lib.hid (show ∀ (W : World) (x : Value) (S : Nat → Prop), Below w.heap.size w W → (∀ k, S k → k < W.heap.size) → RepJ W S j x → Calls Tryz.prog 22 #[x] W fun e w' => ∃ a c, e = .returned (.tuple #[.slice a (formJ j).length c, .int .i64 0]) ∧ argRow w' (.slice a (formJ j).length c) (formJ j).length 1 ((formJ j).map bCell) ∧ Below W.heap.size W w' from fun W x S hW hS hr => by
    refine (js_Write j (nums_of j hok) S x W (hT.to hW).tabs hr hS (by omega)).mono ?_
    rintro e w' ⟨h1, h2⟩
    rw [if_pos (okW_of j 0 hok (by omega))] at h2
    obtain ⟨u, rfl, h4⟩ := h2
    have h4' := h4
    obtain ⟨_, a, c, rfl, -⟩ := h4
    exact ⟨a, c, rfl, h4', h1⟩)
  have CO := Lib.hid (show ∀ (W : World) (r : Rec) (lv : Value), Below w.heap.size w W → LRow W lv r.labs → r ∈ Rs → Calls Tryz.prog 21 #[recV r lv] W (WrittenX W (recJ r)) from fun W r lv hW hL hr => by
    obtain ⟨h1, h2, h3, h4, -⟩ := HIN.out r hr
    exact wire_One r lv W (hT.to hW) hL h2 (by rw [h1]; decide) (by omega) (by omega))
  have hnE : formJ j ≠ [] := form_ne j (nums_of j hok)
  have hvs : ∃ a c, v = .slice a b.length c := by
    obtain ⟨_, a, c, rfl, -⟩ := hb
    exact ⟨a, c, rfl⟩
  obtain ⟨va, vc, rfl⟩ := hvs
  obtain ⟨F, hF⟩ : ∃ F, formJ j = F := ⟨_, rfl⟩
  rw [hF] at HPAD CW hnE hlen
  obtain ⟨bl, hbl2⟩ : ∃ n, b.length = n := ⟨_, rfl⟩
  obtain ⟨fl, hfl⟩ : ∃ n, F.length = n := ⟨_, rfl⟩
  have HFL := Lib.hid hfl
  rw [hfl] at CW HPAD hlen
  rw [hbl2] at CP1' CJ' hbl hlen ⊢
  have hfp : 0 < fl := by rw [← hfl]; exact List.length_pos_iff.2 hnE
  clear CP CJ hT hb hE hv hdoc hdeep hpj hone hok hpad hpp hin hER hF hnE hbl2 hfl HER
  go_enter Tryz.func6, Tryz.ntmps6
  go_upto_region 3 with (go_at_call 8; refine CA.mono ?_; rintro e w1 ⟨rfl, hb1⟩)
  have CP1 := CP1'.out w1 hb1
  clear CA CP1'
  go_upto_region 4 with (go_at_call 9; refine CP1.mono ?_; rintro e w2 ⟨a2, c2, Z2, rfl, hr2, hZ2, hb2⟩; have H2 := Lib.hid (And.intro hr2 hZ2); clear hr2 hZ2)
  have h2 := hb1.trans (hb2.mono hb1.size)
  have CJ2 := CJ'.out w2 h2
  clear CP1 CJ'
  go_upto_region 7 with (go_at_call 15; refine CJ2.mono ?_; rintro e w3 ⟨x3, rfl, hr3, hb3⟩)
  have h3 := h2.trans (hb3.mono h2.size)
  have CW3 := CW.out w3 x3 _ h3 (fun k hk => hk.2) hr3
  clear CJ2 CW hr3
  go_upto_region 8 with (go_at_call 22; refine CW3.mono ?_; rintro e w4 ⟨a4, c4, rfl, hr4, hb4⟩; have HR4 := Lib.hid hr4; clear hr4)
  have h4 := h3.trans (hb4.mono h3.size)
  clear CW3
  by_cases hbig : 16380 < fl ∨ 16380 < bl
  · rcases hbig with hg | hg
    · have d1 : decide ((16380 : Int) < (fl : Int)) = true := decide_eq_true (by omega)
      go_wp2
      go_ret
      exact ⟨rfl, h4⟩
    · cases hdd : decide ((16380 : Int) < (fl : Int))
      · have d1 : decide ((16380 : Int) < (bl : Int)) = true := decide_eq_true (by omega)
        go_wp2
        go_ret
        exact ⟨rfl, h4⟩
      · go_wp2
        go_ret
        exact ⟨rfl, h4⟩
  · have d1 : decide ((16380 : Int) < (fl : Int)) = false := decide_eq_false (by omega)
    have d2 : decide ((16380 : Int) < (bl : Int)) = false := decide_eq_false (by omega)
    obtain ⟨p1, p2⟩ := HPAD.out (by omega)
    have hfl16 : fl ≤ 16380 := by omega
    clear hbig HPAD
    go_upto_region 10 with fail
    have E8 : ElemT Tryz.prog 22 5 (.int .u8 0) 1 1 := ⟨Tryz.underlying22, by kernel_rfl, rfl, by decide⟩
    have one : ∀ l : Bs, ∀ u ∈ l.map bCell, u.oneCell' = true := fun l u hu => by
      obtain ⟨c, -, rfl⟩ := List.mem_map.1 hu
      rfl
    have mk := row_lit w4 [32, 10] #[.int .u8 32, .int .u8 10] (2, 3) rfl (by decide)
    have hbm := belowAJ (o := .cells #[.int .u8 32, .int .u8 10] 5 (2, 3)) (Below.refl w4.heap.size w4) (Nat.le_refl _)
    have cv : (convert 22 22 (.slice (some ⟨w4.heap.size, 0, none⟩) 2 2)).run Tryz.prog (w4.alloc (.cells #[.int .u8 32, .int .u8 10] 5)) = .ok (.slice (some ⟨w4.heap.size, 0, none⟩) 2 2) (w4.alloc (.cells #[.int .u8 32, .int .u8 10] 5 (2, 3))) := Lib.run_convert_bytes_const w4 22 5 #[.int .u8 32, .int .u8 10] 2 2 Tryz.underlying22 Tryz.underlying5
    have hr5 := argRow_below HR4.out hbm
    have HR5 := Lib.hid hr5
    have HBM := Lib.hid (And.intro hbm mk)
    clear hbm mk hr5
    go_upto_region 11 with (first
      | (at_builtin; go_loud (refine wpList_append_full rfl _ _ _ _ rfl E8 _ 2 (([32, 10] : Bs).map bCell) rfl HBM.out.2 (by decide) _ fl (F.map bCell) rfl (by exact src_arg Tryz.underlying22 HR5.out (one F)) hfp (by unfold maxLen; omega) (by omega) ?_); intro v6 w6 hown6 hb6; have HB6 := Lib.hid (And.intro hown6 (HBM.out.1.trans (hb6.mono HBM.out.1.size))); clear hb6)
      | (at_builtin; go_loud (refine wpList_append_src rfl _ _ _ _ rfl _ E8 _ _ _ rfl (hown6.alloc _) _ 1 [.int .u8 9] rfl (by exact src_last (cs := #[.int .u8 9]) Tryz.underlying22 1 1 1 (by simp) rfl (by simp [Value.oneCell'])) (by unfold maxLen; omega) (by omega) (by have := HB6.out.2.size; simp; omega) ?_); intro v7 w7 hown7 hgr7 _ _; have hw7 := (belowAJ HB6.out.2 HB6.out.2.size).grown hgr7 (by have := HB6.out.2.size; simp; omega) (fun k hk => by have h1 := (HB6.out.1.lt k hk).1; have h2 := HBM.out.1.size; omega); have hw7' := h4.trans (hw7.mono h4.size); have CP7 := CPX.out w7 v7 ([32, 10] ++ F ++ [9]) hw7' (pad_row HFL.out hown7) p1; clear hgr7 hown7)
      | (go_at_call 9; refine CP7.mono ?_; rintro e w8 ⟨a8, c8, Z8, rfl, hr8, hZ8, hb8⟩; have H8 := Lib.hid (And.intro hr8 hZ8); clear hr8 hZ8))
    have h48 := hw7.trans (hb8.mono hw7.size)
    have h8 := h4.trans (h48.mono h4.size)
    have hr8 := argRow_below HR4.out h48
    rw [← HFL.out] at hr8
    have CP8 := CPX.out w8 (.slice a4 F.length c4) F h8 hr8 p2
    rw [HFL.out] at CP8
    clear CP7 CPX hr8 cv HB6 HR5 HBM one hw7 hw7' hb8
    go_upto_region 12 with (go_at_call 9; refine CP8.mono ?_; rintro e w9 ⟨a9, c9, Z9, rfl, hr9, hZ9, hb9⟩; have H9 := Lib.hid (And.intro hr9 hZ9); clear hr9 hZ9)
    have h9 := h8.trans (hb9.mono h8.size)
    have HR2 := Lib.hid (fun (W : World) (hW : Below w9.heap.size w9 W) => H2.out.1.below ((hb3.trans (hb4.mono hb3.size)).trans ((h48.trans (hb9.mono h48.size)).trans (hW.mono ((h48.trans (hb9.mono h48.size)).size)) |>.mono ((hb3.trans (hb4.mono hb3.size)).size))))
    have HR8 := Lib.hid (fun (W : World) (hW : Below w9.heap.size w9 W) => H8.out.1.below (hb9.trans (hW.mono hb9.size)))
    have HR9 := Lib.hid (fun (W : World) (hW : Below w9.heap.size w9 W) => H9.out.1.below hW)
    have HZ2 := Lib.hid H2.out.2
    have HZ8 := Lib.hid H8.out.2
    have HZ9 := Lib.hid H9.out.2
    have CO9 := Lib.hid (fun (W : World) (hW : Below w9.heap.size w9 W) => fun (r : Rec) (lv : Value) => CO.out W r lv (h9.trans (hW.mono h9.size)))
    have H09 := Lib.hid h9
    have e1 : (E != E) = false := by simp
    clear CP8 CO H2 H8 H9 HR4 h48 h8 h9 hb9 hb3 hb4 hb2 hb1 h2 h3 h4
    obtain ⟨n, hn⟩ : ∃ n, Rs.length = n := ⟨_, rfl⟩
    have HN := Lib.hid hn
    rw [hn] at HR2 HR8 HR9 hfew ⊢
    have e2 : ((n : Int) != (n : Int)) = false := by simp
    clear hn
    go_wp2
    go_loopw [13] (fun iv wr => ∃ k : Nat, iv = .int .i64 k ∧ k ≤ n ∧ Below w9.heap.size w9 wr) (fun iv _ => n - (intOf iv).toNat)
    case atStart => exact ⟨0, rfl, by omega, Below.refl _ _⟩
    case round =>
      obtain ⟨k, rfl, hk, hb⟩ := hrel
      by_cases hkl : k < n
      · have d3 : decide ((k : Int) < (n : Int)) = true := decide_eq_true (by omega)
        have hkR : k < Rs.length := by rw [HN.out]; exact hkl
        obtain ⟨b2, o2, la2, lc2, rfl, hb2, p0, p1, p2, p3, hL2⟩ := rec_at (HR2.out wr hb) HZ2.out hkR
        obtain ⟨r, hr⟩ : ∃ r, Rs[k] = r := ⟨_, rfl⟩
        have hrm : r ∈ Rs := by rw [← hr]; exact List.getElem_mem hkR
        have hs0 : (r.seq : Int) = 0 := by rw [(HIN.out r hrm).1]; rfl
        have HLx := Lib.hid (fun (W : World) (hW : Below w9.heap.size w9 W) => (show _ ∧ _ from ⟨rec_at (HR8.out W hW) HZ8.out hkR, rec_at (HR9.out W hW) HZ9.out hkR⟩))
        rw [hr] at p0 p1 p2 p3 hL2 HLx
        rw [hs0] at p1 HLx
        have CO1 := CO9.out wr hb r _ hL2 hrm
        unfold recV at CO1
        rw [hs0] at CO1
        have HP1 := Lib.hid (And.intro hb2 p1)
        have HK := Lib.hid hkl
        have HHB := Lib.hid hb
        obtain ⟨X, hX⟩ : ∃ X : ByteArray, (if okW 0 (recJ r) = true then ⟨(formJ (recJ r)).toArray⟩ else ⟨#[]⟩ : ByteArray) = X := ⟨_, rfl⟩
        have HX := Lib.hid hX
        have hxx : (X.toList == X.toList) = true := by simp
        clear hX hb hL2 hr hs0
        go_upto_region 18 with (go_at_call 21; refine CO1.mono ?_; rintro e w10 ⟨x1, y1, z1, E1, rfl, ho1, hb10⟩; have HO1 := Lib.hid ho1; clear ho1)
        have h10 := HHB.out.trans (hb10.mono HHB.out.size)
        obtain ⟨⟨b8, o8, la8, lc8, rfl, hb8, q0, q1, q2, q3, hL8⟩, -⟩ := HLx.out w10 h10
        have CO2 := CO9.out w10 h10 r _ hL8 hrm
        unfold recV at CO2
        rw [show (r.seq : Int) = 0 by rw [(HIN.out r hrm).1]; rfl] at CO2
        clear CO1 hL8 p0 p2 p3
        go_upto_region 19 with (go_at_call 21; refine CO2.mono ?_; rintro e w11 ⟨x2, y2, z2, E2, rfl, ho2, hb11⟩; have HO2 := Lib.hid ho2; clear ho2)
        have h11 := h10.trans (hb11.mono h10.size)
        obtain ⟨-, ⟨b9, o9, la9, lc9, rfl, hb9, t0, t1, t2, t3, hL9⟩⟩ := HLx.out w11 h11
        have CO3 := CO9.out w11 h11 r _ hL9 hrm
        unfold recV at CO3
        rw [show (r.seq : Int) = 0 by rw [(HIN.out r hrm).1]; rfl] at CO3
        clear CO2 hL9 q0 q1 q2 q3
        go_upto_region 20 with (go_at_call 21; refine CO3.mono ?_; rintro e w12 ⟨x3, y3, z3, E3, rfl, ho3, hb12⟩; have HO3 := Lib.hid ho3; clear ho3)
        have h12 := h11.trans (hb12.mono h11.size)
        have hb1012 := hb11.trans (hb12.mono hb11.size)
        have cv1 := conv_wout (HO1.out.below hb1012)
        have cv2 := conv_wout (HO2.out.below hb12)
        have cv3 := conv_wout HO3.out
        rw [HX.out] at cv1 cv2 cv3
        have sq : w12.cell? ⟨b2, o2 + k * 4 + 1, none⟩ = some (.int .u64 0) := by
          rw [(hb10.trans (hb1012.mono hb10.size)).cell (p := ⟨b2, o2 + k * 4 + 1, none⟩) HP1.out.1]
          exact HP1.out.2
        clear CO3 t0 t1 t2 t3 p1 HLx CO9 hb10 hb11 hb12 hb1012 h10 h11
        go_wp2
        go_roundw
        case rel => exact ⟨k + 1, by go_num, HK.out, h12⟩
        case measure => have := HK.out; simp [intOf]; omega
      · have d3 : decide ((k : Int) < (n : Int)) = false := decide_eq_false (by omega)
        go_wp2
        go_ret
        exact ⟨rfl, H09.out.trans (hb.mono H09.out.size)⟩
theorem spaces_walk (v : Value) (b : Bs) (w : World) (hT : T23 w) (hb : argRow w v b.length 1 (b.map bCell)) :
    Calls Tryz.prog 6 #[v] w fun e w' => e = .returned (.bool true) ∧ Below w.heap.size w w' := by
  by_cases hE : parseE b = 0
  · exact spaces_good v b w hT hb hE
  · exact spaces_bad v b w hT hb hE
end Go.Proofs.YtljnbbdhmlfhjaaGreatDoor
