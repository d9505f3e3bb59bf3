/-
  The document's push: text.
-/
import Derived.Test.YtljnbbdhmlfhjaaGreatDoorWqAll
import Derived.Test.YtljnbbdhmlfhjaaGreatDoorJfTri
import Derived.Test.YtljnbbdhmlfhjaaGreatDoorWirOne
import Derived.Test.YtljnbbdhmlfhjaaGreatDoorWirTwo
namespace Go.Proofs.YtljnbbdhmlfhjaaGreatDoor
open Go.RowKit
set_option maxRecDepth 100000 in
set_option maxHeartbeats 20000000 in
theorem ref_text (j : J) (hok : okJ j) (w : World) (hl : (formJ j).length ≤ 1000000000) :
    Calls Tryz.prog 67 #[.string (toB (formJ j))] w fun e w' => e = .returned (.tuple #[.string (toB (textJ j).1), .bool (textJ j).2]) ∧ Below w.heap.size w w' := by
  obtain ⟨c, r, hF, -⟩ := form_head j hok
  have hh := head_str hok
  rw [hF] at hh
  simp only [List.head?_cons, Option.some.injEq] at hh
  have hsz := toB_size (formJ j)
  have hgc : ∀ h : 0 < (toB (formJ j)).size, (toB (formJ j))[0]'h = c := fun h => by
    rw [toB_get]
    simp only [hF, List.getElem_cons_zero]
  obtain ⟨n, hn⟩ : ∃ n, (formJ j).length = n := ⟨_, rfl⟩
  have hpos : 0 < n := by rw [← hn, hF]; simp
  have hsz2 : (toB (formJ j)).size = n := hsz.trans hn
  by_cases hc : c = 34
  · obtain ⟨s, rfl⟩ := hh.1 hc
    subst hc
    have hX : textP (quote s) = some (s, []) := by
      have := text_back s []
      rwa [List.append_nil] at this
    have hlq : (quote s).length ≤ 1000000000 := hl
    obtain ⟨a, cap, W1, hcv, hrow, hb1⟩ := conv_bytesJ (src := 9) Tryz.underlying9 (toB (formJ (.str s))) (by rw [hsz]; omega) w
    rw [hsz2] at hcv hrow
    have hz := zs_new (w := W1) (v := .slice a n cap) (b := quote s) (by
      have e : (toB (formJ (.str s))).data.toList = quote s := rfl
      rw [e] at hrow
      have e2 : (quote s).length = n := hn
      rw [e2] at hrow ⊢
      exact hrow) (Below.refl _ _)
    have CT := z_text (quote s) W1.heap.size _ (quote s) 0 0 false (by omega) hz
    rw [if_neg (by simp), hX] at CT
    have hb2 := belowAJ (o := .cells #[.slice a n cap, .int .i64 0, .int .i64 0, .int .i64 0, .bool false] 129) (Below.refl W1.heap.size W1) (Nat.le_refl _)
    have CT2 : Calls Tryz.prog 103 #[.pointer (some ⟨W1.heap.size, 0, none⟩)] (W1.alloc (.cells #[.slice a n cap, .int .i64 0, .int .i64 0, .int .i64 0, .bool false] 129)) fun e w' => e = .returned (.string (toB s)) ∧ Below w.heap.size w w' := by
      refine CT.mono ?_
      rintro e w' ⟨T, r', b', rfl, -, hg, -, -, h1, -, -⟩
      subst h1
      refine ⟨rfl, ?_⟩
      have h3 : Below W1.heap.size W1 w' := hb2.grown hg hb2.size (fun k hk => by cases hk; exact Nat.le_refl _)
      exact hb1.trans (h3.mono hb1.size)
    obtain ⟨B, hB⟩ : ∃ B, toB (formJ (.str s)) = B := ⟨_, rfl⟩
    rw [hB] at hsz2 hcv ⊢
    have hb0 : 0 < B.size := by rw [hsz2]; exact hpos
    have h0 : (((B[0]'hb0).toNat : Int) != 34) = false := by
      have : B[0]'hb0 = 34 := by subst hB; exact hgc _
      rw [this]
      rfl
    have dl : ((B.size : Int) == 0) = false := by rw [beq_eq_false_iff_ne]; omega
    show Calls _ _ _ _ fun e w' => e = .returned (.tuple #[.string (toB s), .bool true]) ∧ Below w.heap.size w w'
    clear CT hz hrow hb2 hX hlq hB hgc hF hsz hh hn
    go_enter Tryz.func67, Tryz.ntmps67
    go_wp2_with (go_at_call 103; refine CT2.mono ?_; rintro e w3 ⟨rfl, hb3⟩)
    go_ret2
    exact ⟨rfl, hb3⟩
  · have ht : textJ j = ([], false) := by
      cases j with
      | str s => exact absurd (hh.2 ⟨s, rfl⟩) hc
      | _ => rfl
    rw [ht]
    obtain ⟨B, hB⟩ : ∃ B, toB (formJ j) = B := ⟨_, rfl⟩
    rw [hB] at hsz2 ⊢
    have hb0 : 0 < B.size := by rw [hsz2]; exact hpos
    have h0 : (((B[0]'hb0).toNat : Int) != 34) = true := by
      have : B[0]'hb0 = c := by subst hB; exact hgc _
      rw [this, bne_iff_ne]
      intro e
      exact hc (UInt8.toNat_inj.1 (show c.toNat = (34 : UInt8).toNat from by have : (34 : UInt8).toNat = 34 := rfl; omega))
    have dl : ((B.size : Int) == 0) = false := by rw [beq_eq_false_iff_ne]; omega
    have e0 : toB ([] : Bs) = ⟨#[]⟩ := rfl
    rw [e0]
    clear hB hgc hF hsz hh hn ht hc
    go_enter Tryz.func67, Tryz.ntmps67
    go_wp2
    go_ret2
    exact ⟨rfl, Below.refl _ _⟩
end Go.Proofs.YtljnbbdhmlfhjaaGreatDoor
/-
  The document's push: labels.
-/
namespace Go.Proofs.YtljnbbdhmlfhjaaGreatDoor
open Go.RowKit
theorem twoM_len : ∀ l : List (Bs × J), (l.flatMap twoM).length = 2 * l.length
  | [] => rfl
  | x :: l => by
    rw [List.flatMap_cons, List.length_append, twoM_len l, List.length_cons]
    show 2 + _ = _
    omega
theorem twoM_get : ∀ (l : List (Bs × J)) (k : Nat) (h : k < l.length), (l.flatMap twoM)[2 * k]? = some (quote l[k].1) ∧ (l.flatMap twoM)[2 * k + 1]? = some (formJ l[k].2)
  | x :: l, 0, _ => ⟨rfl, rfl⟩
  | x :: l, k + 1, h => by
    have ih := twoM_get l k (by simpa using h)
    have e : ∀ j, ((x :: l).flatMap twoM)[j + 2]? = (l.flatMap twoM)[j]? := fun j => rfl
    rw [show 2 * (k + 1) = 2 * k + 2 by omega, e, show 2 * k + 2 + 1 = (2 * k + 1) + 2 by omega, e]
    exact ih
theorem parts_cell {w : World} {a : Option Addr} {n c : Nat} {l : List (Bs × J)} (h : argRow w (.slice a n c) (l.flatMap twoM).length 1 ((l.flatMap twoM).map strV)) {k m : Nat} (hk : k < l.length) (hm : m = 2 * k) :
    ∃ b off, a = some ⟨b, off, none⟩ ∧ b < w.heap.size ∧ w.cell? ⟨b, off + m, none⟩ = some (.string (toB (quote l[k].1))) ∧ w.cell? ⟨b, off + (m + 1), none⟩ = some (.string (toB (formJ l[k].2))) := by
  subst hm
  have hl := twoM_len l
  obtain ⟨g1, g2⟩ := twoM_get l k hk
  obtain ⟨b, off, e, hb, c1⟩ := text_at h (k := 2 * k) (by omega)
  obtain ⟨b', off', e', -, c2⟩ := text_at h (k := 2 * k + 1) (by omega)
  rw [e] at e'
  cases e'
  rw [List.getElem?_eq_getElem (by omega)] at g1 g2
  rw [Option.some.inj g1] at c1
  rw [Option.some.inj g2] at c2
  exact ⟨b, off, e, hb, c1, c2⟩
theorem okM_at : ∀ {l : List (Bs × J)}, okM l → ∀ {k : Nat} (h : k < l.length), Lib.validD l[k].1 = true ∧ okJ l[k].2
  | (n, x) :: l, h, 0, _ => h.1
  | (n, x) :: l, h, k + 1, hk => okM_at h.2 (by simpa using hk)
theorem mem_small' {l : List (Bs × J)} {k : Nat} (h : k < l.length) : (formJ l[k].2).length ≤ (formJ (.obj l)).length ∧ (quote l[k].1).length ≤ 6 * (formJ (.obj l)).length + 2 := by
  have h1 := mem_small (List.getElem_mem h)
  have h2 := quote_len l[k].1
  omega
set_option maxRecDepth 100000 in
set_option maxHeartbeats 40000000 in
theorem ref_labels_obj (l : List (Bs × J)) (hok : okJ (.obj l)) (w : World) (hl : (formJ (.obj l)).length ≤ 1000000) :
    Calls Tryz.prog 69 #[.string (toB (formJ (.obj l)))] w (LabsR w (labsM l)) := by
  have CI := ref_is (formJ (.obj l)) 123 w (by omega)
  have hi : headIs (formJ (.obj l)) 123 = true := by unfold headIs; exact decide_eq_true rfl
  rw [hi] at CI
  have CI2 : Calls Tryz.prog 31 #[.string (toB (formJ (.obj l))), .int .u8 123] w fun e w' => e = .returned (.bool true) ∧ w' = w := CI
  have h2 : 2 ≤ (formJ (.obj l)).length := by simp only [formJ, List.length_cons, List.length_append, List.length_nil]; omega
  have CP0 := ref_parts (formJ (.obj l)) w (by omega) h2
  rw [parts_obj hok] at CP0
  have hln := mem_count l
  have hfl : (formJ (.obj l)).length = (formM l).length + 2 := by simp only [formJ, List.length_cons, List.length_append, List.length_nil]
  have hll : l.length ≤ 1000000 := by omega
  obtain ⟨n, hn⟩ : ∃ n, l.length = n := ⟨_, rfl⟩
  have HN := Lib.hid hn
  obtain ⟨pn, hpn⟩ : ∃ pn, (l.flatMap twoM).length = pn := ⟨_, rfl⟩
  have hpn2 : pn = 2 * n := by rw [← hpn, twoM_len, hn]
  have CP : Calls Tryz.prog 32 #[.string (toB (formJ (.obj l)))] w fun e w' => ∃ pa pc, e = .returned (.slice pa pn pc) ∧ argRow w' (.slice pa pn pc) (l.flatMap twoM).length 1 ((l.flatMap twoM).map strV) ∧ Below w.heap.size w w' := by
    refine CP0.mono ?_
    rintro e w' ⟨v, h1, h2, h3⟩
    have h2' := argRow_owns h2
    have h4 := h2'
    obtain ⟨_, a, c, rfl, -⟩ := h2'
    rw [hpn] at h1
    rw [hpn] at h4
    refine ⟨a, c, h1, ?_, h3⟩
    rw [hpn]
    exact h4
  have CT := Lib.hid (fun (k : Nat) (hk : k < l.length) (W : World) => (show Calls Tryz.prog 67 #[.string (toB (quote l[k].1))] W (fun e w' => e = .returned (.tuple #[.string (toB l[k].1), .bool true]) ∧ Below W.heap.size W w') from by
    have hm := mem_small' hk
    exact ref_text (.str l[k].1) (okM_at hok hk).1 W (by show (quote l[k].1).length ≤ _; omega)))
  have CT2 := Lib.hid (fun (k : Nat) (hk : k < l.length) (W : World) => (show Calls Tryz.prog 67 #[.string (toB (formJ l[k].2))] W (fun e w' => e = .returned (.tuple #[.string (toB (textJ l[k].2).1), .bool (textJ l[k].2).2]) ∧ Below W.heap.size W w') from by
    have hm := mem_small' hk
    exact ref_text l[k].2 (okM_at hok hk).2 W (by omega)))
  obtain ⟨X, hX⟩ : ∃ X, labsM l = X := ⟨_, rfl⟩
  rw [hX]
  have HX := Lib.hid ((preLb_nil _).trans hX)
  obtain ⟨B, hB⟩ : ∃ B, toB (formJ (.obj l)) = B := ⟨_, rfl⟩
  rw [hB] at CI2 CP ⊢
  have hnn : n ≤ 1000000 := by omega
  have hpnn : pn ≤ 2000000 := by omega
  have HPN := Lib.hid hpn2
  clear CP0 CI hi hok hl h2 hln hfl hll hn hpn hX hB hpn2
  go_enter Tryz.func69, Tryz.ntmps69
  go_upto_region 3 with (go_at_call 31; refine CI2.mono ?_; rintro e w1 ⟨rfl, rfl⟩)
  go_upto_region 4 with (go_at_call 32; refine CP.mono ?_; rintro e w2 ⟨pa, pc, rfl, hr2, hb2⟩)
  have HR2 := Lib.hid hr2
  have HB2 := Lib.hid hb2
  clear CP CI2 hr2 hb2
  go_wp2
  go_loopw [5, 6] (fun ov iv wr => ∃ (k m : Nat) (A : List Lab), iv = .int .i64 m ∧ m = 2 * k ∧ k ≤ n ∧ A.length = k ∧ wr.ownsRow w2.heap.size 55 2 ov k (labCells A) ∧ preLb A (labsM (l.drop k)) = X ∧ Below w2.heap.size w2 wr) (fun _ iv _ => pn - (intOf iv).toNat)
  case atStart => exact ⟨0, 0, [], rfl, rfl, by omega, rfl, World.ownsRow_nil _ _ _ _, HX.out, Below.refl _ _⟩
  case round =>
    obtain ⟨k, m, A, rfl, hm, hk, hAk, ho, hx, hb⟩ := hrel
    have HAK := Lib.hid hAk
    have HM := Lib.hid hm
    have hbb := HB2.out.trans (hb.mono HB2.out.size)
    have hsz := hb.size
    obtain ⟨va, vc, rfl⟩ := owns_slice ho
    by_cases hkl : k < n
    · have hil : k < l.length := by rw [HN.out]; exact hkl
      have d1 : decide ((m : Int) + 1 < (pn : Int)) = true := decide_eq_true (by have := HPN.out; omega)
      obtain ⟨nb, noff, rfl, hnb, p1, p2⟩ := parts_cell (argRow_below HR2.out hb) hil hm
      have T1 := CT.out k hil
      have T2 := CT2.out k hil
      have hdr : l.drop k = l[k] :: l.drop (k + 1) := List.drop_eq_getElem_cons hil
      rw [hdr] at hx
      have HO := Lib.hid ho
      have HB := Lib.hid hb
      have i1 : (m : Int) + 1 < (pn : Int) := by have := HPN.out; omega
      have hmn : m ≤ 2000000 := by have := HPN.out; omega
      have HK := Lib.hid hkl
      obtain ⟨N, hN⟩ : ∃ N, toB l[k].1 = N := ⟨_, rfl⟩
      obtain ⟨Q1, hQ1⟩ : ∃ N, toB (quote l[k].1) = N := ⟨_, rfl⟩
      obtain ⟨Q2, hQ2⟩ : ∃ N, toB (formJ l[k].2) = N := ⟨_, rfl⟩
      rw [hQ1, hN] at T1
      rw [hQ1] at p1
      rw [hQ2] at p2 T2
      have HT1 := Lib.hid T1
      have HT2 := Lib.hid T2
      have P2 := Lib.hid (And.intro hnb p2)
      cases ht : textJ l[k].2 with
      | mk s c =>
        rw [ht] at HT2
        cases c with
        | false =>
          obtain rfl : X = none := by
            rw [← hx, show l[k] = (l[k].1, l[k].2) from rfl, labsM_no ht]
            rfl
          have G1 := HT1.out wr
          clear hx hdr ht ho hb hAk hm hQ1 hQ2 hN T1 T2 CT CT2 p2
          go_upto_region 9 with (go_at_call 67; refine G1.mono ?_; rintro e w5 ⟨rfl, hb5⟩)
          have p2' : w5.cell? ⟨nb, noff + (m + 1), none⟩ = some (.string Q2) := by rw [hb5.cell (p := ⟨nb, noff + (m + 1), none⟩) P2.out.1]; exact P2.out.2
          have G2 := HT2.out w5
          clear G1 p1
          go_wp2_with (go_at_call 67; refine G2.mono ?_; rintro e w6 ⟨rfl, hb6⟩)
          go_ret2
          exact ⟨hbb.trans ((hb5.trans (hb6.mono hb5.size)).mono hbb.size), rfl⟩
        | true =>
          rw [show l[k] = (l[k].1, l[k].2) from rfl, labsM_yes A ht, hN] at hx
          have HXX := Lib.hid hx
          obtain ⟨T', hT'⟩ : ∃ T', toB s = T' := ⟨_, rfl⟩
          rw [hT'] at HXX
          have HT3 := Lib.hid (show ∀ W, Calls Tryz.prog 67 #[.string Q2] W fun e w' => e = .returned (.tuple #[.string T', .bool true]) ∧ Below W.heap.size W w' from fun W => by rw [← hT']; exact HT2.out W)
          have G1 := HT1.out wr
          clear hx hdr ht ho hb hAk hm hQ1 hQ2 hN T1 T2 CT CT2 p2 HT2 hT'
          go_upto_region 9 with (go_at_call 67; refine G1.mono ?_; rintro e w5 ⟨rfl, hb5⟩)
          have p2' : w5.cell? ⟨nb, noff + (m + 1), none⟩ = some (.string Q2) := by rw [hb5.cell (p := ⟨nb, noff + (m + 1), none⟩) P2.out.1]; exact P2.out.2
          have G2 := HT3.out w5
          clear G1 p1
          go_upto_region 10 with (go_at_call 67; refine G2.mono ?_; rintro e w6 ⟨rfl, hb6⟩)
          have hb16 := hb5.trans (hb6.mono hb5.size)
          have hown := fun o => (own_keptJ HO.out (grown_of_below hb16 none) (fun k hk => by cases hk)).alloc o
          have hsz6 := hb16.size
          have HB16 := Lib.hid (HB.out.trans (hb16.mono HB.out.size))
          clear G2 p2' hb5 hb6 hb16
          go_wp2_with (at_builtin; go_loud (refine wpList_append_src rfl _ _ _ _ rfl w2.heap.size EJL _ k (labCells A) rfl (hown _) _ 1 [.string N, .string T'] rfl (by exact src_last (cs := #[.string N, .string T']) Tryz.underlying32 1 1 2 rfl rfl (by simp [Value.oneCell'])) (by unfold maxLen; omega) (by omega) (by simp; omega) ?_); intro v9 w9 hown9 hgr9 _ _; have H9 := Lib.hid (And.intro hown9 hgr9); clear hown9 hgr9)
          go_roundw
          case rel =>
            refine ⟨k + 1, m + 2, A ++ [(N, T')], by go_num, by rw [HM.out]; omega, HK.out, by rw [List.length_append, HAK.out]; rfl, ?_, HXX.out, ?_⟩
            · rw [labCells_append]
              exact H9.out.1
            · exact (belowAJ HB16.out HB16.out.size).grown H9.out.2 (by have := HB16.out.size; simp; omega) (fun k hk => (HO.out.lt k hk).1)
          case measure => have := HPN.out; have := HK.out; have := HM.out; simp [intOf]; omega
    · have d1 : decide ((m : Int) + 1 < (pn : Int)) = false := decide_eq_false (by have := HPN.out; omega)
      have hmn : m ≤ 2000000 := by have := HPN.out; omega
      rw [List.drop_of_length_le (by rw [HN.out]; omega)] at hx
      obtain rfl : X = some A := by
        rw [← hx]
        simp [labsM, preLb]
      have HO := Lib.hid ho
      clear hx ho hm
      go_wp2
      go_ret2
      refine ⟨hbb, _, rfl, ?_⟩
      rw [HAK.out]
      exact owns_base HO.out HB2.out.size
set_option maxRecDepth 100000 in
set_option maxHeartbeats 40000000 in
theorem ref_labels (j : J) (hok : okJ j) (w : World) (hl : (formJ j).length ≤ 1000000) :
    Calls Tryz.prog 69 #[.string (toB (formJ j))] w (LabsR w (labsJ j)) := by
  by_cases hj : ∃ l, j = .obj l
  · obtain ⟨l, rfl⟩ := hj
    exact ref_labels_obj l hok w hl
  · have CI := ref_is (formJ j) 123 w (by omega)
    have hi : headIs (formJ j) 123 = false := by
      unfold headIs
      exact decide_eq_false fun e => hj ((head_obj hok).1 e)
    rw [hi] at CI
    have CI2 : Calls Tryz.prog 31 #[.string (toB (formJ j)), .int .u8 123] w fun e w' => e = .returned (.bool false) ∧ w' = w := CI
    rw [labsJ_no (fun l e => hj ⟨l, e⟩)]
    obtain ⟨B, hB⟩ : ∃ B, toB (formJ j) = B := ⟨_, rfl⟩
    rw [hB] at CI2 ⊢
    clear CI hi hj hok hl hB
    go_enter Tryz.func69, Tryz.ntmps69
    go_wp2_with (go_at_call 31; refine CI2.mono ?_; rintro e w1 ⟨rfl, rfl⟩)
    go_ret2
    exact ⟨Below.refl _ _, rfl⟩
end Go.Proofs.YtljnbbdhmlfhjaaGreatDoor
/-
  The document's push: one record.
-/
namespace Go.Proofs.YtljnbbdhmlfhjaaGreatDoor
open Go.RowKit
theorem lastM_snoc {α : Type} (k : Bs) (f : J → α) (a : α) (l : List (Bs × J)) (m : Bs × J) : lastM k f a (l ++ [m]) = if m.1 = k then f m.2 else lastM k f a l := by
  unfold lastM
  rw [List.foldl_append]
  rfl
theorem cntM_snoc (k : Bs) (l : List (Bs × J)) (m : Bs × J) : cntM k (l ++ [m]) = cntM k l + if m.1 = k then 1 else 0 := by
  unfold cntM
  rw [List.map_append, List.count_append]
  simp only [List.map_cons, List.map_nil, List.count_cons, List.count_nil, beq_iff_eq]
  omega
theorem cntM_le (k : Bs) (l : List (Bs × J)) : cntM k l ≤ l.length := by
  unfold cntM
  exact Nat.le_trans List.count_le_length (by simp)
/-- What the reading of a record has in memory: its result's block, the record, the three counts; what lies between stays. -/
structure OSt (w w4 W : World) (tp qp : Nat) (tm : Int) (lv : Value) (ln : ByteArray) (c0 c1 c2 : Nat) : Prop where
  ord : w.heap.size < tp ∧ tp < qp ∧ qp < w4.heap.size
  res : W.heap[w.heap.size]? = some (.cells #[.int .i64 0, .int .u64 0, .slice none 0 0, .string ⟨#[]⟩] 34 (0, 0))
  rcd : W.heap[tp]? = some (.cells #[.int .i64 tm, .int .u64 0, lv, .string ln] 34 (0, 0))
  cnt : W.heap[qp]? = some (.cells #[.int .i64 (c0 : Int), .int .i64 (c1 : Int), .int .i64 (c2 : Int)] 130 (0, 0))
  old : ∀ b, tp < b → b < qp → W.heap[b]? = w4.heap[b]?
  low : Below w.heap.size w W
  siz : w4.heap.size ≤ W.heap.size
section
variable {w w4 W W' : World} {tp qp : Nat} {tm : Int} {lv : Value} {ln : ByteArray} {c0 c1 c2 : Nat}
theorem OSt.below (h : OSt w w4 W tp qp tm lv ln c0 c1 c2) (hb : Below W.heap.size W W') : OSt w w4 W' tp qp tm lv ln c0 c1 c2 :=
  ⟨h.ord, block_on hb h.res, block_on hb h.rcd, block_on hb h.cnt, fun b h1 h2 => by rw [hb.block b (by have := h.ord; have := h.siz; omega)]; exact h.old b h1 h2, below_seq h.low hb, Nat.le_trans h.siz hb.size⟩
theorem OSt.stored (h : OSt w w4 W tp qp tm lv ln c0 c1 c2) {b j : Nat} {v : Value} (hb : b = tp ∨ b = qp) {tm' : Int} {lv' : Value} {ln' : ByteArray} {a0 a1 a2 : Nat}
    (hrec : (W.setCell ⟨b, j, none⟩ v).heap[tp]? = some (.cells #[.int .i64 tm', .int .u64 0, lv', .string ln'] 34 (0, 0)))
    (hcnt : (W.setCell ⟨b, j, none⟩ v).heap[qp]? = some (.cells #[.int .i64 (a0 : Int), .int .i64 (a1 : Int), .int .i64 (a2 : Int)] 130 (0, 0))) : OSt w w4 (W.setCell ⟨b, j, none⟩ v) tp qp tm' lv' ln' a0 a1 a2 := by
  have hg := grown_set W b j v
  have ho := h.ord
  have hs := h.siz
  refine ⟨h.ord, ?_, hrec, hcnt, fun i h1 h2 => ?_, h.low.grown hg h.low.size (fun k hk => by cases hk; rcases hb with rfl | rfl <;> omega), Nat.le_trans h.siz hg.size⟩
  · rw [hg.block _ (by omega) (fun e => by cases e; rcases hb with rfl | rfl <;> omega)]
    exact h.res
  · rw [hg.block i (by omega) (fun e => by cases e; rcases hb with rfl | rfl <;> omega)]
    exact h.old i h1 h2
theorem OSt.count (h : OSt w w4 W tp qp tm lv ln c0 c1 c2) : OSt w w4 (W.setCell ⟨qp, 0, none⟩ (.int .i64 ((c0 : Int) + 1))) tp qp tm lv ln (c0 + 1) c1 c2 ∧ OSt w w4 (W.setCell ⟨qp, 1, none⟩ (.int .i64 ((c1 : Int) + 1))) tp qp tm lv ln c0 (c1 + 1) c2 ∧ OSt w w4 (W.setCell ⟨qp, 2, none⟩ (.int .i64 ((c2 : Int) + 1))) tp qp tm lv ln c0 c1 (c2 + 1) := by
  have ho := h.ord
  have hs := h.siz
  have hk : ∀ j v, (W.setCell ⟨qp, j, none⟩ v).heap[tp]? = W.heap[tp]? := fun j v => (grown_set W qp j v).block tp (by omega) (fun e => by cases e; omega)
  refine ⟨h.stored (.inr rfl) ((hk _ _).trans h.rcd) ?_, h.stored (.inr rfl) ((hk _ _).trans h.rcd) ?_, h.stored (.inr rfl) ((hk _ _).trans h.rcd) ?_⟩
  all_goals
    rw [heap_setCell_same W qp _ _ _ _ h.cnt]
    rfl
theorem OSt.field (h : OSt w w4 W tp qp tm lv ln c0 c1 c2) : (∀ x : Int, OSt w w4 (W.setCell ⟨tp, 0, none⟩ (.int .i64 x)) tp qp x lv ln c0 c1 c2) ∧ (∀ v : Value, OSt w w4 (W.setCell ⟨tp, 2, none⟩ v) tp qp tm v ln c0 c1 c2) ∧ (∀ s : ByteArray, OSt w w4 (W.setCell ⟨tp, 3, none⟩ (.string s)) tp qp tm lv s c0 c1 c2) := by
  have ho := h.ord
  have hs := h.siz
  have hk : ∀ j v, (W.setCell ⟨tp, j, none⟩ v).heap[qp]? = W.heap[qp]? := fun j v => (grown_set W tp j v).block qp (by omega) (fun e => by cases e; omega)
  refine ⟨fun x => h.stored (.inl rfl) ?_ ((hk _ _).trans h.cnt), fun x => h.stored (.inl rfl) ?_ ((hk _ _).trans h.cnt), fun x => h.stored (.inl rfl) ?_ ((hk _ _).trans h.cnt)⟩
  all_goals
    rw [heap_setCell_same W tp _ _ _ _ h.rcd]
    rfl
theorem OSt.cells (h : OSt w w4 W tp qp tm lv ln c0 c1 c2) : (W.cell? ⟨qp, 0, none⟩ = some (.int .i64 (c0 : Int)) ∧ W.cell? ⟨qp, 1, none⟩ = some (.int .i64 (c1 : Int)) ∧ W.cell? ⟨qp, 2, none⟩ = some (.int .i64 (c2 : Int))) ∧ (∀ j, W.frozen? ⟨qp, j, none⟩ = false) ∧ (∀ j, W.frozen? ⟨tp, j, none⟩ = false) :=
  ⟨⟨by rw [Lib.cell_of_heap h.cnt]; rfl, by rw [Lib.cell_of_heap h.cnt]; rfl, by rw [Lib.cell_of_heap h.cnt]; rfl⟩, fun j => Lib.frozen_of_heap h.cnt j, fun j => Lib.frozen_of_heap h.rcd j⟩
end
/-- What has been read of a record, where all was well so far. -/
def Kept (w4 W : World) (l : List (Bs × J)) (tm : Int) (lv : Value) (ln : ByteArray) : Prop :=
  l.all nmOk = true → tm = timeL l ∧ ln = toB (lineL l) ∧ W.ownsRow w4.heap.size 55 2 lv (labsL l).length (labCells (labsL l))
section
variable {w w4 W W2 : World} {tp qp : Nat} {tm : Int} {lv : Value} {ln : ByteArray} {l : List (Bs × J)}
theorem own_set {W : World} {B n : Nat} {v : Value} {xs : List Value} (h : W.ownsRow B 55 2 v n xs) (b j : Nat) (u : Value) (hb : b < B) : (W.setCell ⟨b, j, none⟩ u).ownsRow B 55 2 v n xs :=
  own_keptJ h (grown_set W b j u) (fun k hk => by cases hk; exact hb)
theorem nmOk_time (j : J) : nmOk (kTime, j) = (intJ j).2 := by simp [nmOk]
theorem nmOk_line (j : J) : nmOk (kLine, j) = (textJ j).2 := by
  have h : ¬ kLine = kTime := by decide
  simp [nmOk, h]
theorem nmOk_labels (j : J) : nmOk (kLabels, j) = (labsJ j).isSome := by
  have h : ¬ kLabels = kTime := by decide
  have h2 : ¬ kLabels = kLine := by decide
  simp [nmOk, h, h2]
theorem nmOk_other {x : Bs} (j : J) (h1 : ¬ x = kTime) (h2 : ¬ x = kLine) (h3 : ¬ x = kLabels) : nmOk (x, j) = false := by simp [nmOk, h1, h2, h3]
theorem all_snoc (l : List (Bs × J)) (m : Bs × J) : (l ++ [m]).all nmOk = (l.all nmOk && nmOk m) := by
  rw [List.all_append]
  simp
theorem st_time (j : J) (z : Int) (h : OSt w w4 W tp qp tm lv ln (cntM kTime l) (cntM kLine l) (cntM kLabels l)) (hk : Kept w4 W l tm lv ln) (hz : (intJ j).2 = true → z = (intJ j).1)
    (hb : Below (W.setCell ⟨qp, 0, none⟩ (.int .i64 ((cntM kTime l : Int) + 1))).heap.size (W.setCell ⟨qp, 0, none⟩ (.int .i64 ((cntM kTime l : Int) + 1))) W2) :
    OSt w w4 (W2.setCell ⟨tp, 0, none⟩ (.int .i64 z)) tp qp z lv ln (cntM kTime (l ++ [(kTime, j)])) (cntM kLine (l ++ [(kTime, j)])) (cntM kLabels (l ++ [(kTime, j)])) ∧ Kept w4 (W2.setCell ⟨tp, 0, none⟩ (.int .i64 z)) (l ++ [(kTime, j)]) z lv ln := by
  have h1 : ¬ kTime = kLine := by decide
  have h2 : ¬ kTime = kLabels := by decide
  have ho := h.ord
  refine ⟨?_, fun ha => ?_⟩
  · have := (h.count.1.below hb).field.1 z
    simpa [cntM_snoc, h1, h2] using this
  · rw [all_snoc, nmOk_time, Bool.and_eq_true] at ha
    obtain ⟨k1, k2, k3⟩ := hk ha.1
    refine ⟨?_, ?_, ?_⟩
    · unfold timeL
      rw [lastM_snoc, if_pos rfl]
      exact hz ha.2
    · unfold lineL
      rw [lastM_snoc, if_neg h1]
      exact k2
    · have e : labsL (l ++ [(kTime, j)]) = labsL l := by
        unfold labsL
        rw [lastM_snoc, if_neg h2]
      rw [e]
      exact own_set (own_keptJ (own_set k3 _ _ _ (by omega)) (grown_of_below hb none) (fun k hk => by cases hk)) _ _ _ (by omega)
theorem st_line (j : J) (h : OSt w w4 W tp qp tm lv ln (cntM kTime l) (cntM kLine l) (cntM kLabels l)) (hk : Kept w4 W l tm lv ln)
    (hb : Below (W.setCell ⟨qp, 1, none⟩ (.int .i64 ((cntM kLine l : Int) + 1))).heap.size (W.setCell ⟨qp, 1, none⟩ (.int .i64 ((cntM kLine l : Int) + 1))) W2) :
    OSt w w4 (W2.setCell ⟨tp, 3, none⟩ (.string (toB (textJ j).1))) tp qp tm lv (toB (textJ j).1) (cntM kTime (l ++ [(kLine, j)])) (cntM kLine (l ++ [(kLine, j)])) (cntM kLabels (l ++ [(kLine, j)])) ∧ Kept w4 (W2.setCell ⟨tp, 3, none⟩ (.string (toB (textJ j).1))) (l ++ [(kLine, j)]) tm lv (toB (textJ j).1) := by
  have h1 : ¬ kLine = kTime := by decide
  have h2 : ¬ kLine = kLabels := by decide
  have ho := h.ord
  refine ⟨?_, fun ha => ?_⟩
  · have := (h.count.2.1.below hb).field.2.2 (toB (textJ j).1)
    simpa [cntM_snoc, h1, h2] using this
  · rw [all_snoc, nmOk_line, Bool.and_eq_true] at ha
    obtain ⟨k1, k2, k3⟩ := hk ha.1
    refine ⟨?_, ?_, ?_⟩
    · unfold timeL
      rw [lastM_snoc, if_neg h1]
      exact k1
    · unfold lineL
      rw [lastM_snoc, if_pos rfl]
    · have e : labsL (l ++ [(kLine, j)]) = labsL l := by
        unfold labsL
        rw [lastM_snoc, if_neg h2]
      rw [e]
      exact own_set (own_keptJ (own_set k3 _ _ _ (by omega)) (grown_of_below hb none) (fun k hk => by cases hk)) _ _ _ (by omega)
theorem st_labs (j : J) (u : Value) (h : OSt w w4 W tp qp tm lv ln (cntM kTime l) (cntM kLine l) (cntM kLabels l)) (hk : Kept w4 W l tm lv ln)
    (hb : Below (W.setCell ⟨qp, 2, none⟩ (.int .i64 ((cntM kLabels l : Int) + 1))).heap.size (W.setCell ⟨qp, 2, none⟩ (.int .i64 ((cntM kLabels l : Int) + 1))) W2)
    (hu : ∀ L, labsJ j = some L → W2.ownsRow w4.heap.size 55 2 u L.length (labCells L)) :
    OSt w w4 (W2.setCell ⟨tp, 2, none⟩ u) tp qp tm u ln (cntM kTime (l ++ [(kLabels, j)])) (cntM kLine (l ++ [(kLabels, j)])) (cntM kLabels (l ++ [(kLabels, j)])) ∧ Kept w4 (W2.setCell ⟨tp, 2, none⟩ u) (l ++ [(kLabels, j)]) tm u ln := by
  have h1 : ¬ kLabels = kTime := by decide
  have h2 : ¬ kLabels = kLine := by decide
  have ho := h.ord
  refine ⟨?_, fun ha => ?_⟩
  · have := (h.count.2.2.below hb).field.2.1 u
    simpa [cntM_snoc, h1, h2] using this
  · rw [all_snoc, nmOk_labels, Bool.and_eq_true] at ha
    obtain ⟨k1, k2, k3⟩ := hk ha.1
    cases hL : labsJ j with
    | none => rw [hL] at ha; cases ha.2
    | some L =>
      refine ⟨?_, ?_, ?_⟩
      · unfold timeL
        rw [lastM_snoc, if_neg h1]
        exact k1
      · unfold lineL
        rw [lastM_snoc, if_neg h2]
        exact k2
      · have e : labsL (l ++ [(kLabels, j)]) = L := by
          unfold labsL
          rw [lastM_snoc, if_pos rfl, hL]
          rfl
        rw [e]
        exact own_set (hu L hL) _ _ _ (by omega)
theorem st_other {x : Bs} (j : J) (h1 : ¬ x = kTime) (h2 : ¬ x = kLine) (h3 : ¬ x = kLabels) (h : OSt w w4 W tp qp tm lv ln (cntM kTime l) (cntM kLine l) (cntM kLabels l)) :
    OSt w w4 W tp qp tm lv ln (cntM kTime (l ++ [(x, j)])) (cntM kLine (l ++ [(x, j)])) (cntM kLabels (l ++ [(x, j)])) ∧ Kept w4 W (l ++ [(x, j)]) tm lv ln := by
  refine ⟨by simpa [cntM_snoc, h1, h2, h3] using h, fun ha => ?_⟩
  rw [all_snoc, nmOk_other j h1 h2 h3] at ha
  simp at ha
end
set_option maxRecDepth 100000 in
set_option maxHeartbeats 40000000 in
theorem ref_one_obj (l : List (Bs × J)) (hok : okJ (.obj l)) (w : World) (hl : (formJ (.obj l)).length ≤ 1000000) :
    Calls Tryz.prog 33 #[.string (toB (formJ (.obj l)))] w (OneR w (refOne l)) := by
  have CI := Lib.hid (fun W => ref_is (formJ (.obj l)) 123 W (by omega))
  have hi : headIs (formJ (.obj l)) 123 = true := by unfold headIs; exact decide_eq_true rfl
  rw [hi] at CI
  have CI2 := Lib.hid (show ∀ W, Calls Tryz.prog 31 #[.string (toB (formJ (.obj l))), .int .u8 123] W fun e w' => e = .returned (.bool true) ∧ w' = W from CI.out)
  have h2 : 2 ≤ (formJ (.obj l)).length := by simp only [formJ, List.length_cons, List.length_append, List.length_nil]; omega
  have hln := mem_count l
  have hfl : (formJ (.obj l)).length = (formM l).length + 2 := by simp only [formJ, List.length_cons, List.length_append, List.length_nil]
  have hll : l.length ≤ 1000000 := by omega
  obtain ⟨n, hn⟩ : ∃ n, l.length = n := ⟨_, rfl⟩
  have HN := Lib.hid hn
  obtain ⟨pn, hpn⟩ : ∃ pn, (l.flatMap twoM).length = pn := ⟨_, rfl⟩
  have hpn2 : pn = 2 * n := by rw [← hpn, twoM_len, hn]
  have CP := Lib.hid (show ∀ W, Calls Tryz.prog 32 #[.string (toB (formJ (.obj l)))] W fun e w' => ∃ pa pc, e = .returned (.slice pa pn pc) ∧ argRow w' (.slice pa pn pc) (l.flatMap twoM).length 1 ((l.flatMap twoM).map strV) ∧ (∀ b off, pa = some ⟨b, off, none⟩ → W.heap.size ≤ b) ∧ Below W.heap.size W w' from fun W => by
    have CP0 := ref_parts (formJ (.obj l)) W (by omega) h2
    rw [parts_obj hok] at CP0
    refine CP0.mono ?_
    rintro e w' ⟨v, h1, h2, h3⟩
    have h2' := argRow_owns h2
    have h4 := h2'
    obtain ⟨_, a, c, rfl, -⟩ := h2'
    rw [hpn] at h1 h4
    refine ⟨a, c, h1, by rw [hpn]; exact h4, fun b off e => ?_, h3⟩
    subst e
    exact (h2.lt b rfl).1)
  have CT := Lib.hid (fun (k : Nat) (hk : k < l.length) (W : World) => (show Calls Tryz.prog 67 #[.string (toB (quote l[k].1))] W (fun e w' => e = .returned (.tuple #[.string (toB l[k].1), .bool true]) ∧ Below W.heap.size W w') from by
    have hm := mem_small' hk
    exact ref_text (.str l[k].1) (okM_at hok hk).1 W (by show (quote l[k].1).length ≤ _; omega)))
  have CT2 := Lib.hid (fun (k : Nat) (hk : k < l.length) (W : World) => (show Calls Tryz.prog 67 #[.string (toB (formJ l[k].2))] W (fun e w' => e = .returned (.tuple #[.string (toB (textJ l[k].2).1), .bool (textJ l[k].2).2]) ∧ Below W.heap.size W w') from by
    have hm := mem_small' hk
    exact ref_text l[k].2 (okM_at hok hk).2 W (by omega)))
  have CL := Lib.hid (fun (k : Nat) (hk : k < l.length) (W : World) => ref_labels l[k].2 (okM_at hok hk).2 W (by have hm := mem_small' hk; omega))
  have CU := Lib.hid (show ∀ (k : Nat) (hk : k < l.length) (W : World), Calls Tryz.prog 68 #[.string (toB (formJ l[k].2))] W (fun e w' => ∃ z, e = .returned (.tuple #[.int .i64 z, .bool (intJ l[k].2).2]) ∧ ((intJ l[k].2).2 = true → z = (intJ l[k].2).1) ∧ w' = W) from fun k hk W => by
    have hm := mem_small' hk
    have hoj := (okM_at hok hk).2
    have hne : formJ l[k].2 ≠ [] ∧ formJ l[k].2 ≠ [45] := by
      obtain ⟨c, r, e, -⟩ := form_head l[k].2 hoj
      refine ⟨by rw [e]; simp, fun e2 => ?_⟩
      have := refNum_form l[k].2 hoj
      cases hj : l[k].2 with
      | num s =>
        rw [hj] at hoj e2
        obtain ⟨sg, x, fr, ex, e3, hsg, ⟨hx, -⟩, -, -⟩ := hoj
        have h45 : s = [45] := e2
        rw [h45] at e3
        obtain ⟨d, y, rfl, hd⟩ := hx.head
        rcases hsg with rfl | rfl
        · simp only [List.nil_append, List.cons_append, List.cons.injEq] at e3
          rw [← e3.1] at hd
          revert hd
          decide
        · simp at e3
      | nul => rw [hj] at e2; cases e2
      | bool b => rw [hj] at e2; cases b <;> cases e2
      | str s => rw [hj] at e2; cases e2
      | arr s => rw [hj] at e2; cases e2
      | obj s => rw [hj] at e2; cases e2
    refine (ref_number (formJ l[k].2) W (by omega) hne.1 hne.2).mono ?_
    rintro e w' ⟨h1, rfl⟩
    rw [refNum_form l[k].2 hoj] at h1
    cases hb : (intJ l[k].2).2 with
    | true =>
      rw [hb, if_pos rfl] at h1
      exact ⟨_, h1, fun _ => rfl, rfl⟩
    | false =>
      rw [hb, if_neg (by simp)] at h1
      obtain ⟨z, h1⟩ := h1
      exact ⟨z, h1, fun h => (by cases h), rfl⟩)
  obtain ⟨B, hB⟩ : ∃ B, toB (formJ (.obj l)) = B := ⟨_, rfl⟩
  rw [hB] at CI2 CP ⊢
  have hnn : n ≤ 1000000 := by omega
  have hpnn : pn ≤ 2000000 := by omega
  have HPN := Lib.hid hpn2
  have hb1 := belowAJ (o := .cells #[.int .i64 0, .int .u64 0, .slice none 0 0, .string ⟨#[]⟩] 34) (Below.refl w.heap.size w) (Nat.le_refl _)
  have hn1 := heap_alloc_new w (.cells #[.int .i64 0, .int .u64 0, .slice none 0 0, .string ⟨#[]⟩] 34)
  obtain ⟨w1, hw1⟩ : ∃ W, w.alloc (.cells #[.int .i64 0, .int .u64 0, .slice none 0 0, .string ⟨#[]⟩] 34) = W := ⟨_, rfl⟩
  have HW1 := Lib.hid hw1
  have hz1 : w1.heap.size = w.heap.size + 1 := by rw [← hw1]; simp
  have HZ1 := Lib.hid hz1
  rw [hw1] at hb1 hn1
  have hb2 := belowAJ (o := .cells #[.int .i64 0, .int .u64 0, .slice none 0 0, .string ⟨#[]⟩] 34) (Below.refl w1.heap.size w1) (Nat.le_refl _)
  have hn2 := heap_alloc_new w1 (.cells #[.int .i64 0, .int .u64 0, .slice none 0 0, .string ⟨#[]⟩] 34)
  clear CI hi hok hl h2 hln hfl hll hn hpn hB hpn2 hz1 hw1
  go_enter Tryz.func33, Tryz.ntmps33
  go_upto_region 2 with fail
  rw [HW1.out]
  obtain ⟨w2, hw2⟩ : ∃ W, w1.alloc (.cells #[.int .i64 0, .int .u64 0, .slice none 0 0, .string ⟨#[]⟩] 34) = W := ⟨_, rfl⟩
  have HZ2 := Lib.hid (show w2.heap.size = w.heap.size + 2 by rw [← hw2]; simp [HZ1.out])
  rw [hw2] at hb2 hn2 ⊢
  rw [HZ1.out] at hn2
  obtain ⟨tp, htp⟩ : ∃ tp, w.heap.size + 1 = tp := ⟨_, rfl⟩
  have HTP := Lib.hid htp
  rw [htp] at hn2 ⊢
  have hn1' := block_on hb2 hn1
  have hw02 := below_seq hb1 hb2
  have G1 := CI2.out w2
  have G2 := CP.out w2
  clear hw2 htp hn1 hb1 hb2 CI2 CP
  go_upto_region 4 with (go_at_call 31; refine G1.mono ?_; rintro e wx ⟨rfl, rfl⟩)
  go_upto_region 5 with (go_at_call 32; refine G2.mono ?_; rintro e w3 ⟨pa, pc, rfl, hr3, hge, hb3⟩)
  have hn13 := block_on hb3 hn1'
  have hn23 := block_on hb3 hn2
  have hw03 := hw02.trans (hb3.mono hw02.size)
  have HGE := Lib.hid hge
  have HR3 := Lib.hid hr3
  have hs3 := hb3.size
  clear G1 G2 hge hr3 hn1' hn2
  have hb4 := belowAJ (o := .cells #[.int .i64 0, .int .i64 0, .int .i64 0] 130) (Below.refl w3.heap.size w3) (Nat.le_refl _)
  have hn4 := heap_alloc_new w3 (.cells #[.int .i64 0, .int .i64 0, .int .i64 0] 130)
  have hz4 : (w3.alloc (.cells #[.int .i64 0, .int .i64 0, .int .i64 0] 130)).heap.size = w3.heap.size + 1 := by simp
  go_upto_region 6 with fail
  obtain ⟨w4, hw4⟩ : ∃ W, w3.alloc (.cells #[.int .i64 0, .int .i64 0, .int .i64 0] 130) = W := ⟨_, rfl⟩
  rw [hw4] at hb4 hn4 hz4 ⊢
  obtain ⟨qp, hqp⟩ : ∃ qp, w3.heap.size = qp := ⟨_, rfl⟩
  have hst : OSt w w4 w4 tp qp 0 (.slice none 0 0) ⟨#[]⟩ 0 0 0 := by
    have h2 := HZ2.out
    have h3 := HTP.out
    refine ⟨⟨by omega, by omega, by omega⟩, block_on hb4 hn13, block_on hb4 hn23, by rw [← hqp]; exact hn4, fun _ _ _ => rfl, hw03.trans (hb4.mono hw03.size), Nat.le_refl _⟩
  have HST := Lib.hid hst
  have HW34 := Lib.hid (And.intro hb4 (And.intro hqp hs3))
  rw [hqp]
  clear hst hb4 hn4 hz4 hw4 hqp hs3 hn13 hn23 hw03 hw02 hb3
  go_wp2
  go_loopw [7, 8] (fun okv iv wr => ∃ (k m : Nat) (tm : Int) (la : Option Addr) (ln lc : Nat) (li : ByteArray) (ok : Bool), iv = .int .i64 m ∧ m = 2 * k ∧ k ≤ n ∧ okv = .bool ok ∧ ok = (l.take k).all nmOk ∧ OSt w w4 wr tp qp tm (.slice la ln lc) li (cntM kTime (l.take k)) (cntM kLine (l.take k)) (cntM kLabels (l.take k)) ∧ Kept w4 wr (l.take k) tm (.slice la ln lc) li) (fun _ iv _ => pn - (intOf iv).toNat)
  case atStart => exact ⟨0, 0, 0, none, 0, 0, ⟨#[]⟩, true, rfl, rfl, by omega, rfl, rfl, HST.out, fun _ => ⟨rfl, rfl, World.ownsRow_nil _ _ _ _⟩⟩
  case round =>
    obtain ⟨k, m, tm, la, ln, lc, li, ok, rfl, hm, hk, rfl, hokk, hs, hkept⟩ := hrel
    have HS := Lib.hid hs
    have HM := Lib.hid hm
    have HKP := Lib.hid hkept
    have HOK := Lib.hid hokk
    clear hokk hkept
    by_cases hkl : k < n
    · have hil : k < l.length := by rw [HN.out]; exact hkl
      have d1 : decide ((m : Int) + 1 < (pn : Int)) = true := decide_eq_true (by have := HPN.out; omega)
      have i1 : (m : Int) + 1 < (pn : Int) := by have := HPN.out; omega
      have hmn : m ≤ 2000000 := by have := HPN.out; omega
      obtain ⟨nb, noff, rfl, hnb, p1, p2⟩ := parts_cell HR3.out hil hm
      have hnb2 := HGE.out nb noff rfl
      have HPC := Lib.hid (fun (W : World) (tm' : Int) (lv' : Value) (ln' : ByteArray) (a0 a1 a2 : Nat) (h : OSt w w4 W tp qp tm' lv' ln' a0 a1 a2) => (show W.heap[nb]? = w3.heap[nb]? from by
        obtain ⟨h1, h2, h3⟩ := HW34.out
        have h4 := HZ2.out
        have h5 := HTP.out
        rw [h.old nb (by omega) (by omega), h1.block nb hnb]))
      have HP := Lib.hid (And.intro p1 p2)
      obtain ⟨⟨x, j⟩, hx⟩ : ∃ y, l[k] = y := ⟨_, rfl⟩
      have htk : l.take (k + 1) = l.take k ++ [(x, j)] := by rw [List.take_succ_eq_append_getElem hil, hx]
      have HTK := Lib.hid htk
      have T1 := CT.out k hil
      have T2 := CT2.out k hil
      have T3 := CL.out k hil
      have T4 := CU.out k hil
      rw [hx] at T1 T2 T3 T4 HP
      simp only at T1 T2 T3 T4 HP
      have HK := Lib.hid hkl
      obtain ⟨Q1, hQ1⟩ : ∃ N, toB (quote x) = N := ⟨_, rfl⟩
      obtain ⟨Q2, hQ2⟩ : ∃ N, toB (formJ j) = N := ⟨_, rfl⟩
      rw [hQ1, hQ2] at HP
      rw [hQ1] at T1
      rw [hQ2] at T2 T3 T4
      have HT2 := Lib.hid T2
      have HT3 := Lib.hid T3
      have HT4 := Lib.hid T4
      have c1 : wr.cell? ⟨nb, noff + m, none⟩ = some (.string Q1) := by rw [cell_same (HPC.out wr _ _ _ _ _ _ HS.out)]; exact HP.out.1
      have G1 := T1 wr
      clear T1 T2 T3 T4 p1 p2 htk hx hQ1 hQ2 hil hm hs
      go_upto_region 11 with (go_at_call 67; refine G1.mono ?_; rintro e w5 ⟨rfl, hb5⟩)
      have hs5 := HS.out.below hb5
      have HS5 := Lib.hid hs5
      have HKP5 := Lib.hid (show Kept w4 w5 (l.take k) tm (.slice la ln lc) li from fun h => by
        obtain ⟨h1, h2, h3⟩ := HKP.out h
        exact ⟨h1, h2, own_keptJ h3 (grown_of_below hb5 none) (fun k hk => by cases hk)⟩)
      clear G1 c1 hb5 hs5
      have hcn : cntM kTime (l.take k) ≤ 1000000 ∧ cntM kLine (l.take k) ≤ 1000000 ∧ cntM kLabels (l.take k) ≤ 1000000 := by
        have a1 := cntM_le kTime (l.take k)
        have a2 := cntM_le kLine (l.take k)
        have a3 := cntM_le kLabels (l.take k)
        rw [List.length_take] at a1 a2 a3
        omega
      obtain ⟨N, hN⟩ : ∃ N, toB x = N := ⟨_, rfl⟩
      have f1 : (N.toList == [116, 105, 109, 101]) = decide (x = kTime) := by
        rw [← hN, toB_list, Bool.eq_iff_iff, beq_iff_eq, decide_eq_true_eq]
        exact Iff.rfl
      have f2 : (N.toList == [108, 105, 110, 101]) = decide (x = kLine) := by
        rw [← hN, toB_list, Bool.eq_iff_iff, beq_iff_eq, decide_eq_true_eq]
        exact Iff.rfl
      have f3 : (N.toList == [108, 97, 98, 101, 108, 115]) = decide (x = kLabels) := by
        rw [← hN, toB_list, Bool.eq_iff_iff, beq_iff_eq, decide_eq_true_eq]
        exact Iff.rfl
      rw [hN]
      clear hN
      obtain ⟨⟨q0, q1, q2⟩, fq, ft⟩ := HS5.out.cells
      obtain ⟨b0, b1, b2⟩ := hcn
      by_cases e1 : x = kTime
      · subst e1
        rw [decide_eq_true rfl] at f1
        clear f2 f3 q1 q2 b1 b2
        obtain ⟨c0, hc0⟩ : ∃ c0, cntM kTime (l.take k) = c0 := ⟨_, rfl⟩
        have HC0 := Lib.hid hc0
        rw [hc0] at q0 b0
        clear hc0
        have fz := fq 0
        go_upto_region 16 with fail
        obtain ⟨w6, hw6⟩ : ∃ W, w5.setCell ⟨qp, 0, none⟩ (.int .i64 ((c0 : Int) + 1)) = W := ⟨_, rfl⟩
        rw [hw6]
        have hs6 : OSt w w4 w6 tp qp tm (.slice la ln lc) li (c0 + 1) (cntM kLine (l.take k)) (cntM kLabels (l.take k)) := by
          rw [← hw6, ← HC0.out]
          exact HS5.out.count.1
        have HW6 := Lib.hid hw6
        have p2 : w6.cell? ⟨nb, noff + (m + 1), none⟩ = some (.string Q2) := by rw [cell_same (HPC.out w6 _ _ _ _ _ _ hs6)]; exact HP.out.2
        have ct := (cells4 hs6.rcd).1
        have ft6 := hs6.cells.2.2 0
        have G := HT4.out w6
        clear hs6 hw6 q0 fz fq ft
        go_upto_region 23 with (go_at_call 68; refine G.mono ?_; rintro e w7 ⟨z, rfl, hz, rfl⟩)
        have hst := st_time (W2 := w7) j z (by have := HS5.out; exact this) HKP5.out hz (by rw [HC0.out, HW6.out]; exact Below.refl _ _)
        rw [← HTK.out] at hst
        have HST7 := Lib.hid hst
        have hal := all_snoc (l.take k) (kTime, j)
        rw [← HTK.out, nmOk_time, ← HOK.out] at hal
        have HAL := Lib.hid hal
        obtain ⟨bz, hbz⟩ : ∃ bz, (intJ j).2 = bz := ⟨_, rfl⟩
        rw [hbz] at HAL ⊢
        clear hst hal hbz hz G ct ft6 p2
        obtain ⟨w8, hw8⟩ : ∃ W, w7.setCell ⟨tp, 0, none⟩ (.int .i64 z) = W := ⟨_, rfl⟩
        rw [hw8] at HST7 ⊢
        cases ok
        all_goals
          go_wp2
          go_roundw
          case rel => exact ⟨k + 1, m + 2, z, la, ln, lc, li, _, by go_num, by rw [HM.out]; omega, HK.out, rfl, by rw [HAL.out]; rfl, HST7.out.1, HST7.out.2⟩
          case measure => have := HPN.out; have := HK.out; have := HM.out; simp [intOf]; omega
      · by_cases e2 : x = kLine
        · subst e2
          rw [decide_eq_false e1] at f1
          rw [decide_eq_true rfl] at f2
          clear f3 q0 q2 b0 b2 e1
          obtain ⟨c0, hc0⟩ : ∃ c0, cntM kLine (l.take k) = c0 := ⟨_, rfl⟩
          have HC0 := Lib.hid hc0
          rw [hc0] at q1 b1
          clear hc0
          have fz := fq 1
          go_upto_region 19 with fail
          obtain ⟨w6, hw6⟩ : ∃ W, w5.setCell ⟨qp, 1, none⟩ (.int .i64 ((c0 : Int) + 1)) = W := ⟨_, rfl⟩
          rw [hw6]
          have hs6 : OSt w w4 w6 tp qp tm (.slice la ln lc) li (cntM kTime (l.take k)) (c0 + 1) (cntM kLabels (l.take k)) := by
            rw [← hw6, ← HC0.out]
            exact HS5.out.count.2.1
          have HW6 := Lib.hid hw6
          have p2 : w6.cell? ⟨nb, noff + (m + 1), none⟩ = some (.string Q2) := by rw [cell_same (HPC.out w6 _ _ _ _ _ _ hs6)]; exact HP.out.2
          have HS6 := Lib.hid hs6
          have G := HT2.out w6
          clear hs6 hw6 q1 fz fq ft
          go_upto_region 23 with (go_at_call 67; refine G.mono ?_; rintro e w7 ⟨rfl, hb7⟩; have hs7 := HS6.out.below hb7; have ct := (cells4 hs7.rcd).2.2.2.1; have ft7 := hs7.cells.2.2 3)
          have hst := st_line (W2 := w7) j HS5.out HKP5.out (by rw [HC0.out, HW6.out]; exact hb7)
          rw [← HTK.out] at hst
          have HST7 := Lib.hid hst
          have hal := all_snoc (l.take k) (kLine, j)
          rw [← HTK.out, nmOk_line, ← HOK.out] at hal
          have HAL := Lib.hid hal
          obtain ⟨bz, hbz⟩ : ∃ bz, (textJ j).2 = bz := ⟨_, rfl⟩
          obtain ⟨sz, hsz⟩ : ∃ sz, toB (textJ j).1 = sz := ⟨_, rfl⟩
          rw [hbz] at HAL ⊢
          rw [hsz] at HST7 ⊢
          clear hst hal hbz hsz G ct ft7 p2 hs7 HS6
          obtain ⟨w8, hw8⟩ : ∃ W, w7.setCell ⟨tp, 3, none⟩ (.string sz) = W := ⟨_, rfl⟩
          rw [hw8] at HST7 ⊢
          cases ok
          all_goals
            go_wp2
            go_roundw
            case rel => exact ⟨k + 1, m + 2, tm, la, ln, lc, sz, _, by go_num, by rw [HM.out]; omega, HK.out, rfl, by rw [HAL.out]; rfl, HST7.out.1, HST7.out.2⟩
            case measure => have := HPN.out; have := HK.out; have := HM.out; simp [intOf]; omega
        · by_cases e3 : x = kLabels
          · subst e3
            rw [decide_eq_false e1] at f1
            rw [decide_eq_false e2] at f2
            rw [decide_eq_true rfl] at f3
            clear q0 q1 b0 b1 e1 e2
            obtain ⟨c0, hc0⟩ : ∃ c0, cntM kLabels (l.take k) = c0 := ⟨_, rfl⟩
            have HC0 := Lib.hid hc0
            rw [hc0] at q2 b2
            clear hc0
            have fz := fq 2
            go_upto_region 22 with fail
            obtain ⟨w6, hw6⟩ : ∃ W, w5.setCell ⟨qp, 2, none⟩ (.int .i64 ((c0 : Int) + 1)) = W := ⟨_, rfl⟩
            rw [hw6]
            have hs6 : OSt w w4 w6 tp qp tm (.slice la ln lc) li (cntM kTime (l.take k)) (cntM kLine (l.take k)) (c0 + 1) := by
              rw [← hw6, ← HC0.out]
              exact HS5.out.count.2.2
            have HW6 := Lib.hid hw6
            have p2 : w6.cell? ⟨nb, noff + (m + 1), none⟩ = some (.string Q2) := by rw [cell_same (HPC.out w6 _ _ _ _ _ _ hs6)]; exact HP.out.2
            have HS6 := Lib.hid hs6
            have hal := all_snoc (l.take k) (kLabels, j)
            rw [← HTK.out, nmOk_labels, ← HOK.out] at hal
            have HAL := Lib.hid hal
            have G : Calls Tryz.prog 69 #[.string Q2] w6 fun e w' => ∃ ua un uc, e = .returned (.tuple #[.slice ua un uc, .bool (labsJ j).isSome]) ∧ (∀ L, labsJ j = some L → w'.ownsRow w4.heap.size 55 2 (.slice ua un uc) L.length (labCells L)) ∧ Below w6.heap.size w6 w' := by
              refine (HT3.out w6).mono ?_
              rintro e w' ⟨h1, h2⟩
              cases hL : labsJ j with
              | none =>
                rw [hL] at h2
                exact ⟨none, 0, 0, h2, fun L h => (by cases h), h1⟩
              | some L =>
                rw [hL] at h2
                obtain ⟨u, h3, h4⟩ := h2
                have h5 := h4
                obtain ⟨va, vc, rfl⟩ := owns_slice h4
                refine ⟨va, _, vc, h3, fun L' h => ?_, h1⟩
                cases h
                exact owns_base h5 HS6.out.siz
            clear hs6 hw6 q2 fz fq ft hal
            go_upto_region 23 with (go_at_call 69; refine G.mono ?_; rintro e w7 ⟨ua, un, uc, rfl, hu7, hb7⟩; have hs7 := HS6.out.below hb7; have ct := (cells4 hs7.rcd).2.2.1; have ft7 := hs7.cells.2.2 2)
            have hst := st_labs (W2 := w7) j (.slice ua un uc) HS5.out HKP5.out (by rw [HC0.out, HW6.out]; exact hb7) hu7
            rw [← HTK.out] at hst
            have HST7 := Lib.hid hst
            obtain ⟨bz, hbz⟩ : ∃ bz, (labsJ j).isSome = bz := ⟨_, rfl⟩
            rw [hbz] at HAL ⊢
            clear hst hbz G ct ft7 p2 hs7 HS6 hu7
            obtain ⟨w8, hw8⟩ : ∃ W, w7.setCell ⟨tp, 2, none⟩ (.slice ua un uc) = W := ⟨_, rfl⟩
            rw [hw8] at HST7 ⊢
            cases ok
            all_goals
              go_wp2
              go_roundw
              case rel => exact ⟨k + 1, m + 2, tm, ua, un, uc, li, _, by go_num, by rw [HM.out]; omega, HK.out, rfl, by rw [HAL.out]; rfl, HST7.out.1, HST7.out.2⟩
              case measure => have := HPN.out; have := HK.out; have := HM.out; simp [intOf]; omega
          · rw [decide_eq_false e1] at f1
            rw [decide_eq_false e2] at f2
            rw [decide_eq_false e3] at f3
            have hst := st_other j e1 e2 e3 HS5.out
            rw [← HTK.out] at hst
            have HST7 := Lib.hid hst
            have hal := all_snoc (l.take k) (x, j)
            rw [← HTK.out, nmOk_other j e1 e2 e3, ← HOK.out] at hal
            have HAL := Lib.hid hal
            clear hst hal q0 q1 q2 fq ft b0 b1 b2 e1 e2 e3
            cases ok
            all_goals
              go_wp2
              go_roundw
              case rel => exact ⟨k + 1, m + 2, tm, la, ln, lc, li, _, by go_num, by rw [HM.out]; omega, HK.out, rfl, by rw [HAL.out]; rfl, HST7.out.1, HST7.out.2⟩
              case measure => have := HPN.out; have := HK.out; have := HM.out; simp [intOf]; omega
    · have d1 : decide ((m : Int) + 1 < (pn : Int)) = false := decide_eq_false (by have := HPN.out; omega)
      have hmn : m ≤ 2000000 := by have := HPN.out; omega
      have hkn : l.take k = l := List.take_of_length_le (by rw [HN.out]; omega)
      rw [hkn] at HS HKP HOK
      have hgood : refOne l = if ok && decide (cntM kTime l = 1 ∧ cntM kLine l = 1 ∧ cntM kLabels l ≤ 1) then some ⟨timeL l, 0, labsL l, toB (lineL l)⟩ else none := by
        unfold refOne goodM
        rw [← HOK.out]
      have HG := Lib.hid hgood
      obtain ⟨⟨q0, q1, q2⟩, fq, ft⟩ := HS.out.cells
      obtain ⟨r0, r1, r2, r3, -, -, -, -⟩ := cells4 HS.out.rcd
      obtain ⟨z0, z1, z2, z3, fz0, fz1, fz2, fz3⟩ := cells4 HS.out.res
      clear hgood hkn hm
      go_upto_region 24 with fail
      obtain ⟨a0, ha0⟩ : ∃ a0, cntM kTime l = a0 := ⟨_, rfl⟩
      obtain ⟨a1, ha1⟩ : ∃ a1, cntM kLine l = a1 := ⟨_, rfl⟩
      obtain ⟨a2, ha2⟩ : ∃ a2, cntM kLabels l = a2 := ⟨_, rfl⟩
      rw [ha0, ha1, ha2] at HG
      rw [ha0] at q0
      rw [ha1] at q1
      rw [ha2] at q2
      have HSET := Lib.hid (fun (W : World) (hW : Below wr.heap.size wr W) => (show Below w.heap.size w ((((W.setCell ⟨w.heap.size, 0, none⟩ (.int .i64 tm)).setCell ⟨w.heap.size, 1, none⟩ (.int .u64 0)).setCell ⟨w.heap.size, 2, none⟩ (.slice la ln lc)).setCell ⟨w.heap.size, 3, none⟩ (.string li)) ∧
          ((((W.setCell ⟨w.heap.size, 0, none⟩ (.int .i64 tm)).setCell ⟨w.heap.size, 1, none⟩ (.int .u64 0)).setCell ⟨w.heap.size, 2, none⟩ (.slice la ln lc)).setCell ⟨w.heap.size, 3, none⟩ (.string li)).heap[w.heap.size]? = some (.cells #[.int .i64 tm, .int .u64 0, .slice la ln lc, .string li] 34 (0, 0)) ∧
          (l.all nmOk = true → ((((W.setCell ⟨w.heap.size, 0, none⟩ (.int .i64 tm)).setCell ⟨w.heap.size, 1, none⟩ (.int .u64 0)).setCell ⟨w.heap.size, 2, none⟩ (.slice la ln lc)).setCell ⟨w.heap.size, 3, none⟩ (.string li)).ownsRow w.heap.size 55 2 (.slice la ln lc) (labsL l).length (labCells (labsL l))) from by
        have h := HS.out.below hW
        have hord := h.ord
        refine ⟨one_end h.low h.res _ _ _ _, (set4 h.res _ _ _ _).1, fun ha => ?_⟩
        obtain ⟨-, -, k3⟩ := HKP.out ha
        exact owns_base (own_keptJ (own_keptJ k3 (grown_of_below hW none) (fun k hk => by cases hk)) (set4 h.res _ _ _ _).2 (fun k hk => by cases hk; omega)) (by omega)))
      have hbq : (((((wr.setCell ⟨w.heap.size, 0, none⟩ (.int .i64 tm)).setCell ⟨w.heap.size, 1, none⟩ (.int .u64 0)).setCell ⟨w.heap.size, 2, none⟩ (.slice la ln lc)).setCell ⟨w.heap.size, 3, none⟩ (.string li))).heap[qp]? = wr.heap[qp]? := by
        have hord := HS.out.ord
        have hsz := HS.out.siz
        exact (set4 HS.out.res _ _ _ _).2.block qp (by omega) (fun e => by cases e; omega)
      have s0 := (cell_same hbq 0).trans q0
      have s1 := (cell_same hbq 1).trans q1
      have s2 := (cell_same hbq 2).trans q2
      clear ha0 ha1 ha2 fq ft hbq
      cases ok
      · have HG0 := Lib.hid (show refOne l = none by rw [HG.out]; rfl)
        go_region
        go_wp2
        obtain ⟨g1, g2, -⟩ := HSET.out wr (Below.refl _ _)
        obtain ⟨k0, k1, k2, k3, -, -, -, -⟩ := cells4 g2
        refine bodyPost_ret (v := .tuple #[recV ⟨tm, 0, [], li⟩ (.slice la ln lc), .bool false]) (by simp [results, Tryz.results33, go_sem, k0, k1, k2, k3, recV]) rfl ⟨g1.drew, ?_⟩
        rw [HG0.out]
        exact ⟨_, _, _, _, rfl⟩
      · by_cases h0 : a0 = 1
        · have e0 : ((a0 : Int) == 1) = true := by rw [beq_iff_eq]; omega
          by_cases h1 : a1 = 1
          · have e1 : ((a1 : Int) == 1) = true := by rw [beq_iff_eq]; omega
            by_cases h2 : a2 ≤ 1
            · have e2 : decide ((a2 : Int) ≤ 1) = true := decide_eq_true (by omega)
              have HG0 := Lib.hid (show refOne l = some ⟨timeL l, 0, labsL l, toB (lineL l)⟩ by rw [HG.out, decide_eq_true ⟨h0, h1, h2⟩]; rfl)
              clear h0 h1 h2
              go_region
              go_wp2
              obtain ⟨g1, g2, g3⟩ := HSET.out wr (Below.refl _ _)
              obtain ⟨k0, k1, k2, k3, -, -, -, -⟩ := cells4 g2
              obtain ⟨m1, m2, -⟩ := HKP.out HOK.out.symm
              refine bodyPost_ret (v := .tuple #[recV ⟨tm, 0, labsL l, li⟩ (.slice la ln lc), .bool true]) (by simp [results, Tryz.results33, go_sem, k0, k1, k2, k3, recV]) rfl ⟨g1.drew, ?_⟩
              rw [HG0.out]
              refine ⟨.slice la ln lc, ?_, (g3 HOK.out.symm).drew⟩
              rw [← m1, ← m2]
            · have e2 : decide ((a2 : Int) ≤ 1) = false := decide_eq_false (by omega)
              have HG0 := Lib.hid (show refOne l = none by rw [HG.out, decide_eq_false (fun e => h2 e.2.2)]; rfl)
              clear h0 h1 h2
              go_region
              go_wp2
              obtain ⟨g1, g2, -⟩ := HSET.out wr (Below.refl _ _)
              obtain ⟨k0, k1, k2, k3, -, -, -, -⟩ := cells4 g2
              refine bodyPost_ret (v := .tuple #[recV ⟨tm, 0, [], li⟩ (.slice la ln lc), .bool false]) (by simp [results, Tryz.results33, go_sem, k0, k1, k2, k3, recV]) rfl ⟨g1.drew, ?_⟩
              rw [HG0.out]
              exact ⟨_, _, _, _, rfl⟩
          · have e1 : ((a1 : Int) == 1) = false := by rw [beq_eq_false_iff_ne]; omega
            have HG0 := Lib.hid (show refOne l = none by rw [HG.out, decide_eq_false (fun e => h1 e.2.1)]; rfl)
            clear h0 h1
            go_region
            go_wp2
            obtain ⟨g1, g2, -⟩ := HSET.out wr (Below.refl _ _)
            obtain ⟨k0, k1, k2, k3, -, -, -, -⟩ := cells4 g2
            refine bodyPost_ret (v := .tuple #[recV ⟨tm, 0, [], li⟩ (.slice la ln lc), .bool false]) (by simp [results, Tryz.results33, go_sem, k0, k1, k2, k3, recV]) rfl ⟨g1.drew, ?_⟩
            rw [HG0.out]
            exact ⟨_, _, _, _, rfl⟩
        · have e0 : ((a0 : Int) == 1) = false := by rw [beq_eq_false_iff_ne]; omega
          have HG0 := Lib.hid (show refOne l = none by rw [HG.out, decide_eq_false (fun e => h0 e.1)]; rfl)
          clear h0
          go_region
          go_wp2
          obtain ⟨g1, g2, -⟩ := HSET.out wr (Below.refl _ _)
          obtain ⟨k0, k1, k2, k3, -, -, -, -⟩ := cells4 g2
          refine bodyPost_ret (v := .tuple #[recV ⟨tm, 0, [], li⟩ (.slice la ln lc), .bool false]) (by simp [results, Tryz.results33, go_sem, k0, k1, k2, k3, recV]) rfl ⟨g1.drew, ?_⟩
          rw [HG0.out]
          exact ⟨_, _, _, _, rfl⟩
end Go.Proofs.YtljnbbdhmlfhjaaGreatDoor
/-
  The document's push: one record, of any value; a push.
-/
namespace Go.Proofs.YtljnbbdhmlfhjaaGreatDoor
open Go.RowKit
set_option maxRecDepth 100000 in
set_option maxHeartbeats 40000000 in
theorem ref_one (j : J) (hok : okJ j) (w : World) (hl : (formJ j).length ≤ 1000000) :
    Calls Tryz.prog 33 #[.string (toB (formJ j))] w (OneR w (oneJ j)) := by
  by_cases hj : ∃ l, j = .obj l
  · obtain ⟨l, rfl⟩ := hj
    rw [refOne_eq]
    exact ref_one_obj l hok w hl
  · have hi : headIs (formJ j) 123 = false := by
      unfold headIs
      exact decide_eq_false fun e => hj ((head_obj hok).1 e)
    have CI2 := Lib.hid (show ∀ W, Calls Tryz.prog 31 #[.string (toB (formJ j)), .int .u8 123] W fun e w' => e = .returned (.bool false) ∧ w' = W from fun W => by
      have CI := ref_is (formJ j) 123 W (by omega)
      rw [hi] at CI
      exact CI)
    rw [oneJ_no (fun l e => hj ⟨l, e⟩)]
    obtain ⟨B, hB⟩ : ∃ B, toB (formJ j) = B := ⟨_, rfl⟩
    rw [hB] at CI2 ⊢
    have hb1 := belowAJ (o := .cells #[.int .i64 0, .int .u64 0, .slice none 0 0, .string ⟨#[]⟩] 34) (Below.refl w.heap.size w) (Nat.le_refl _)
    have hn1 := heap_alloc_new w (.cells #[.int .i64 0, .int .u64 0, .slice none 0 0, .string ⟨#[]⟩] 34)
    obtain ⟨w1, hw1⟩ : ∃ W, w.alloc (.cells #[.int .i64 0, .int .u64 0, .slice none 0 0, .string ⟨#[]⟩] 34) = W := ⟨_, rfl⟩
    have HW1 := Lib.hid hw1
    rw [hw1] at hb1 hn1
    have hb2 := belowAJ (o := .cells #[.int .i64 0, .int .u64 0, .slice none 0 0, .string ⟨#[]⟩] 34) (Below.refl w1.heap.size w1) (Nat.le_refl _)
    have hn2 := heap_alloc_new w1 (.cells #[.int .i64 0, .int .u64 0, .slice none 0 0, .string ⟨#[]⟩] 34)
    have HZ1 := Lib.hid (show w1.heap.size = w.heap.size + 1 by rw [← hw1]; simp)
    rw [HZ1.out] at hn2
    clear hi hj hok hl hB hw1
    go_enter Tryz.func33, Tryz.ntmps33
    go_upto_region 2 with fail
    rw [HW1.out]
    obtain ⟨w2, hw2⟩ : ∃ W, w1.alloc (.cells #[.int .i64 0, .int .u64 0, .slice none 0 0, .string ⟨#[]⟩] 34) = W := ⟨_, rfl⟩
    rw [hw2] at hb2 hn2 ⊢
    have hn1' := block_on hb2 hn1
    have hw02 := below_seq hb1 hb2
    have G1 := CI2.out w2
    obtain ⟨c0, c1, c2, c3, -, -, -, -⟩ := cells4 hn2
    obtain ⟨z0, z1, z2, z3, fz0, fz1, fz2, fz3⟩ := cells4 hn1'
    have hset := Lib.hid (set4 hn1' (.int .i64 0) (.int .u64 0) (.slice none 0 0) (.string ⟨#[]⟩))
    have hend := one_end hw02 hn1' (.int .i64 0) (.int .u64 0) (.slice none 0 0) (.string ⟨#[]⟩)
    clear hn1 hn2 hn1' hb1 hb2 hw2 CI2
    go_wp2_with (go_at_call 31; refine G1.mono ?_; rintro e wx ⟨rfl, rfl⟩)
    obtain ⟨k0, k1, k2, k3, -, -, -, -⟩ := cells4 hset.out.1
    refine bodyPost_ret (v := .tuple #[recV ⟨0, 0, [], ⟨#[]⟩⟩ (.slice none 0 0), .bool false]) (by simp [results, Tryz.results33, go_sem, k0, k1, k2, k3, recV]) rfl ⟨hend, ?_⟩
    exact ⟨_, _, _, _, rfl⟩
theorem quote_recs {n : Bs} : ((toB (quote n)).toList == [34, 114, 101, 99, 111, 114, 100, 115, 34]) = decide (n = kRecords) := by
  have e : quote kRecords = [34, 114, 101, 99, 111, 114, 100, 115, 34] := by decide
  rw [toB_list, ← e, Bool.eq_iff_iff, beq_iff_eq, decide_eq_true_eq]
  exact ⟨quote_inj, fun h => by rw [h]⟩
theorem parts_row (s : Bs) (w : World) (hl : s.length ≤ 1000000000) (h2 : 2 ≤ s.length) {P : List Bs} (hP : partsP s = P) {n : Nat} (hn : P.length = n) :
    Calls Tryz.prog 32 #[.string (toB s)] w fun e w' => ∃ pa pc, e = .returned (.slice pa n pc) ∧ argRow w' (.slice pa n pc) P.length 1 (P.map strV) ∧ Below w.heap.size w w' := by
  refine (ref_parts s w hl h2).mono ?_
  rintro e w' ⟨v, h1, h2, h3⟩
  rw [hP] at h2
  have h2' := argRow_owns h2
  have h4 := h2'
  obtain ⟨_, a, c, rfl, -⟩ := h2'
  rw [hn] at h1 h4
  exact ⟨a, c, h1, by rw [hn]; exact h4, h3⟩
end Go.Proofs.YtljnbbdhmlfhjaaGreatDoor
/-
  The document's push, whole.
-/
namespace Go.Proofs.YtljnbbdhmlfhjaaGreatDoor
open Go.RowKit
theorem rcanon_calls (lv : Value) (L : List Lab) (W : World) (hL : LRow W lv L) (hs : ∀ x ∈ L, x.1.size ≤ 1000000000 ∧ x.2.size ≤ 1000000000) (hn : L.length ≤ 1048576) :
    Calls Tryz.prog 34 #[lv] W fun e w' => ∃ v, e = .returned (.tuple #[v, .int .i64 (canonE L)]) ∧ w'.ownsRow W.heap.size 55 2 v (canonL L).length (labCells (canonL L)) ∧ Below W.heap.size W w' :=
  (ref_Canon lv L W hL hs hn).mono fun e w' h => by
    obtain ⟨v, h1, h2⟩ := h.1
    exact ⟨v, h1, h2, h.2⟩
set_option maxRecDepth 100000 in
set_option maxHeartbeats 40000000 in
theorem ref_Push_arr (v : Value) (b : Bs) (l : List J) (w : World) (hv : argRow w v b.length 1 (b.map bCell)) (hE : parseE b = 0) (hF : oneF b = formJ (.obj [(kRecords, .arr l)])) (hp : pushP b = pushJ (.obj [(kRecords, .arr l)])) (hok : okJ (.obj [(kRecords, .arr l)])) (hl : (formJ (.obj [(kRecords, .arr l)])).length ≤ 100000) :
    Calls Tryz.prog 10 #[v] w (PushR w b) := by
  have CF := ref_Form v b w hv
  rw [hE, hF] at CF
  have hokl : okL l := hok.1.2
  have hin := mem_small (l := [(kRecords, .arr l)]) (m := (kRecords, .arr l)) (by simp)
  simp only at hin
  have hfo : (formJ (.obj [(kRecords, .arr l)])).length = (formM [(kRecords, .arr l)]).length + 2 := by simp only [formJ, List.length_cons, List.length_append, List.length_nil]
  have hfa : (formJ (.arr l)).length = (formL l).length + 2 := by simp only [formJ, List.length_cons, List.length_append, List.length_nil]
  have CI := Lib.hid (show ∀ W, Calls Tryz.prog 31 #[.string (toB (formJ (.obj [(kRecords, .arr l)]))), .int .u8 123] W fun e w' => e = .returned (.bool true) ∧ w' = W from fun W => ref_is (formJ (.obj [(kRecords, .arr l)])) 123 W (by omega))
  have CI2 := Lib.hid (show ∀ W, Calls Tryz.prog 31 #[.string (toB (formJ (.arr l))), .int .u8 91] W fun e w' => e = .returned (.bool true) ∧ w' = W from fun W => ref_is (formJ (.arr l)) 91 W (by omega))
  have CP1 := Lib.hid (fun W => parts_row (formJ (.obj [(kRecords, .arr l)])) W (by omega) (by omega) (parts_obj hok) (n := 2) rfl)
  obtain ⟨n, hn⟩ : ∃ n, l.length = n := ⟨_, rfl⟩
  have CP2 := Lib.hid (fun W => parts_row (formJ (.arr l)) W (by omega) (by omega) (parts_arr hokl) (n := n) (by rw [List.length_map, hn]))
  have hnn : n ≤ 200000 := by
    have h1 := formL_ge l
    have h2 := sum_one (fun x : J => (formJ x).length) l
    omega
  have hix : ∀ x ∈ l, okJ x ∧ (formJ x).length ≤ 100000 := fun x hx => by
    have := item_small hx
    refine ⟨?_, by omega⟩
    have : ∀ l : List J, okL l → ∀ x ∈ l, okJ x := by
      intro l
      induction l with
      | nil => intro _ x hx; cases hx
      | cons y l ih =>
        intro h x hx
        rcases List.mem_cons.1 hx with rfl | hx
        · exact h.1
        · exact ih h.2 x hx
    exact this l hokl x hx
  have H1 := Lib.hid (fun (x : J) (hx : x ∈ l) (W : World) => ref_one x (hix x hx).1 W (by have := (hix x hx).2; omega))
  have HIX := Lib.hid hix
  have HN := Lib.hid hn
  have hpl : pushP b = match onesL l with
    | none => (6, [])
    | some R => pushL R := by
    rw [hp]
    unfold pushJ
    rw [recs_of]
    cases onesL l <;> rfl
  have HPL := Lib.hid hpl
  obtain ⟨X, hX⟩ : ∃ X, onesL l = X := ⟨_, rfl⟩
  have HX := Lib.hid ((preRs_nil _).trans hX)
  have HXX := Lib.hid hX
  obtain ⟨B, hB⟩ : ∃ B, toB (formJ (.obj [(kRecords, .arr l)])) = B := ⟨_, rfl⟩
  obtain ⟨B2, hB2⟩ : ∃ B, toB (formJ (.arr l)) = B := ⟨_, rfl⟩
  rw [hB] at CI CP1
  rw [hB2] at CI2 CP2
  have CF2 : Calls Tryz.prog 30 #[v] w fun e w' => e = .returned (.tuple #[.string B, .int .i64 0]) ∧ Below w.heap.size w w' := by rw [← hB]; exact CF
  have HB2 := Lib.hid hB2
  clear CF hE hF hp hok hl hokl hin hfo hfa hn hix hpl hX hB hB2 hv
  go_enter Tryz.func10, Tryz.ntmps10
  go_upto_region 4 with (go_at_call 30; refine CF2.mono ?_; rintro e w1 ⟨rfl, hb1⟩)
  have G1 := CI.out w1
  go_upto_region 6 with (go_at_call 31; refine G1.mono ?_; rintro e wx ⟨rfl, rfl⟩)
  have G2 := CP1.out wx
  clear G1 CF2 CI
  go_upto_region 7 with (go_at_call 32; refine G2.mono ?_; rintro e w3 ⟨pa, pc, rfl, hr3, hb3⟩)
  have h3 := hb1.trans (hb3.mono hb1.size)
  obtain ⟨nb, noff, rfl, hnb, p1, p2⟩ := parts_cell (l := [(kRecords, .arr l)]) (k := 0) (m := 0) hr3 (by simp) rfl
  simp only [List.getElem_cons_zero] at p1 p2
  have p1' : w3.cell? ⟨nb, noff, none⟩ = some (.string ⟨#[34, 114, 101, 99, 111, 114, 100, 115, 34]⟩) := p1
  have p2' : w3.cell? ⟨nb, noff + 1, none⟩ = some (.string B2) := by rw [← HB2.out]; exact p2
  have G3 := CI2.out w3
  have G4 := CP2.out w3
  clear p1 p2 hr3 G2 CP1 CI2 CP2
  go_upto_region 9 with (go_at_call 31; refine G3.mono ?_; rintro e wx ⟨rfl, rfl⟩)
  go_upto_region 10 with (go_at_call 32; refine G4.mono ?_; rintro e w5 ⟨ia, ic, rfl, hr5, hb5⟩)
  have h5 := h3.trans (hb5.mono h3.size)
  have HR5 := Lib.hid hr5
  have H5 := Lib.hid h5
  clear G3 G4 p1' p2' hr5 h3 h5 hb1 hb3 hb5
  go_wp2
  go_loopw [8, 9] (fun ov iv wr => ∃ (k : Nat) (Z : List RecL), iv = .int .i64 k ∧ k ≤ n ∧ Z.length = k ∧ ROwn wr w5.heap.size ov Z ∧ preRs (Z.map Prod.fst) (onesL (l.drop k)) = X ∧ Below w5.heap.size w5 wr) (fun _ iv _ => n - (intOf iv).toNat)
  case atStart => exact ⟨0, [], rfl, by omega, rfl, ROwn.nil _ _, HX.out, Below.refl _ _⟩
  case round =>
    obtain ⟨k, Z, rfl, hk, hZk, ho, hx, hb⟩ := hrel
    have HZK := Lib.hid hZk
    have hbb := H5.out.trans (hb.mono H5.out.size)
    have hsz := hb.size
    have HO := Lib.hid ho
    have HX2 := Lib.hid hx
    have HB := Lib.hid hb
    have hoo := ho.own
    rw [hZk] at hoo
    obtain ⟨va, vc, rfl⟩ := owns_slice hoo
    clear ho hx hZk
    by_cases hkl : k < n
    · have hil : k < l.length := by rw [HN.out]; exact hkl
      have d1 : decide ((k : Int) < (n : Int)) = true := decide_eq_true (by omega)
      have hkm : k < (l.map formJ).length := by rw [List.length_map]; exact hil
      obtain ⟨ib, ioff, rfl, hib, hci⟩ := text_at (argRow_below HR5.out hb) hkm
      rw [List.getElem_map] at hci
      have hmem := List.getElem_mem hil
      have C1 := H1.out _ hmem wr
      have hsx := (HIX.out _ hmem).2
      have hdr : l.drop k = l[k] :: l.drop (k + 1) := List.drop_eq_getElem_cons hil
      have hx := HX2.out
      rw [hdr] at hx
      obtain ⟨x, hxx⟩ : ∃ x, l[k] = x := ⟨_, rfl⟩
      rw [hxx] at hx C1 hsx hci
      obtain ⟨Q, hQ⟩ : ∃ Q, toB (formJ x) = Q := ⟨_, rfl⟩
      rw [hQ] at C1 hci
      clear hxx hdr hmem hQ hkm
      cases h1 : oneJ x with
      | none =>
        obtain rfl : X = none := by rw [← hx, ones_no h1]; rfl
        rw [h1] at C1
        have hp6 : pushP b = (6, []) := by rw [HPL.out, HXX.out]
        clear hx HX2 HX HXX HPL
        go_wp2_with (go_at_call 33; refine C1.mono ?_; rintro e w6 ⟨hb6, rr, aa, an, ac, rfl⟩; unfold recV)
        go_ret2
        exact PushR.bad hp6 (hbb.trans ((belowAJ hb6 hb6.size).mono hbb.size))
      | some r =>
        rw [ones_yes _ h1] at hx
        have HX3 := Lib.hid hx
        rw [h1] at C1
        have H1S := Lib.hid (fun (W : World) (lv : Value) (ho : W.ownsRow wr.heap.size 55 2 lv r.labs.length (labCells r.labs)) => one_at h1 (by omega) ho)
        clear hx HX2 HX h1 hsx
        go_upto_region 15 with (go_at_call 33; refine C1.mono ?_; rintro e w6 ⟨hb6, lv, rfl, ho6⟩; have HO6 := Lib.hid ho6; obtain ⟨la, lc, rfl⟩ := owns_slice ho6; unfold recV; clear ho6)
        have hb7 := belowAJ (o := .cells #[.int .i64 r.time, .int .u64 (r.seq : Int), .slice la r.labs.length lc, .string r.line] 34) (Below.refl w6.heap.size w6) (Nat.le_refl _)
        have hn7 := heap_alloc_new w6 (.cells #[.int .i64 r.time, .int .u64 (r.seq : Int), .slice la r.labs.length lc, .string r.line] 34)
        have hown7x := (HO.out.keptB hb6).keptB hb7
        have hlab6 := owns_below HO6.out hb7
        have hbw7 := hb.trans ((hb6.trans (hb7.mono hb6.size)).mono hb.size)
        obtain ⟨c0, c1, c2, c3, -, -, -, -⟩ := cells4 hn7
        have HR6 := Lib.hid (H1S.out _ _ HO6.out)
        clear hn7 C1
        generalize w6.alloc (.cells #[.int .i64 r.time, .int .u64 (r.seq : Int), .slice la r.labs.length lc, .string r.line] 34) = w7 at *
        have hoo6 := hown7x.own
        rw [HZK.out] at hoo6
        have HH6 := Lib.hid (And.intro hown7x (And.intro (owns_base hlab6 hsz) (HR6.out.below hb7)))
        have hsz6 := hbw7.size
        clear hown7x hlab6 hb7 HR6 hb6
        go_wp2_with (at_builtin; go_loud (refine wpList_append_src rfl _ _ _ _ rfl w5.heap.size ER _ k (recsCells Z) rfl (hoo6.alloc _) _ 1 (recCells (r, .slice la r.labs.length lc)) rfl (by exact src_last (cs := (recCells (r, .slice la r.labs.length lc)).toArray) Tryz.underlying24 1 1 4 rfl rfl (by simp [recCells, Value.oneCell'])) (by unfold maxLen; omega) (by omega) (by simp; omega) ?_); intro v9 w9 hown9 hgr9 _ _; have H9 := Lib.hid (And.intro hown9 hgr9); clear hown9 hgr9)
        go_roundw
        case rel =>
          have hba := belowAJ (o := .cells (recCells (r, .slice la r.labs.length lc)).toArray 34) (Below.refl w7.heap.size w7) (Nat.le_refl _)
          have hz := HH6.out.2
          have hown7 := HH6.out.1.keptB hba
          have hmore := ROwn.more (z := (r, .slice la r.labs.length lc)) hown7 ⟨owns_below hz.1 hba, hz.2.below hba⟩ H9.out.2 (by rw [HZK.out]; exact H9.out.1)
          refine ⟨k + 1, Z ++ [(r, .slice la r.labs.length lc)], by go_num, by omega, by rw [List.length_append, HZK.out]; rfl, hmore, ?_, ?_⟩
          · rw [List.map_append]
            exact HX3.out
          · exact (hbw7.trans (hba.mono hbw7.size)).grown H9.out.2 (by have := hba.size; omega) (fun k hk => (HH6.out.1.own.lt k hk).1)
        case measure => simp [intOf]; omega
    · have d1 : decide ((k : Int) < (n : Int)) = false := decide_eq_false (by omega)
      have hkn : k = n := by omega
      subst hkn
      have hx := HX2.out
      rw [List.drop_of_length_le (by rw [HN.out]; omega)] at hx
      obtain rfl : X = some (Z.map Prod.fst) := by rw [← hx]; simp [onesL, preRs]
      have hp : pushP b = pushL (Z.map Prod.fst) := by rw [HPL.out, HXX.out]
      unfold pushL at hp
      rw [List.length_map, HZK.out] at hp
      clear hx HX2 HX HXX HPL H1 HIX
      by_cases hmany : k = 0 ∨ 64 < k
      · rw [if_pos hmany] at hp
        have HP := Lib.hid hp
        clear hp
        rcases hmany with rfl | hm
        · go_wp2
          go_ret2
          exact PushR.bad HP.out hbb
        · have d2 : ((k : Int) == 0) = false := by rw [beq_eq_false_iff_ne]; omega
          have d3 : decide ((64 : Int) < (k : Int)) = true := decide_eq_true (by omega)
          go_wp2
          go_ret2
          exact PushR.bad HP.out hbb
      · rw [if_neg hmany] at hp
        have hm0 : ¬ k = 0 := fun e => hmany (.inl e)
        have hm1 : k ≤ 64 := by omega
        have d2 : ((k : Int) == 0) = false := by rw [beq_eq_false_iff_ne]; omega
        have d3 : decide ((64 : Int) < (k : Int)) = false := decide_eq_false (by omega)
        obtain ⟨R, hR⟩ : ∃ R, Z.map Prod.fst = R := ⟨_, rfl⟩
        rw [hR] at hp
        have HRN := Lib.hid (show R.length = k by rw [← hR, List.length_map, HZK.out])
        obtain ⟨E, hE⟩ : ∃ E, errRs R = E := ⟨_, rfl⟩
        rw [hE] at hp
        have HP := Lib.hid hp
        have HE := Lib.hid hE
        have HRZ := Lib.hid hR
        have hva : ∃ g, va = some ⟨g, 0, none⟩ := by
          have hoo2 := HO.out.own
          rw [HZK.out] at hoo2
          rcases hoo2.2 with ⟨_, h0⟩ | ⟨g, cap, cur, e, _⟩
          · omega
          · cases e
            exact ⟨g, rfl⟩
        obtain ⟨g, rfl⟩ := hva
        have HOB := Lib.hid (HO.out.base H5.out.size)
        have HBB := Lib.hid hbb
        obtain ⟨wz, hwz⟩ : ∃ wz : World, wz = wr := ⟨_, rfl⟩
        subst hwz
        clear hmany hp hE hR HB hb hbb hsz
        obtain ⟨nn, hnn2⟩ : ∃ nn, k = nn := ⟨_, rfl⟩
        subst hnn2
        go_wp2
        go_loopw [12] (fun iv wr => ∃ (q : Nat) (Zk : List RecL), iv = .int .i64 q ∧ q ≤ k ∧ Zk.length = k ∧ ROwn wr w.heap.size (.slice (some ⟨g, 0, none⟩) k vc) Zk ∧ Zk.map Prod.fst = (R.take q).map canR ++ R.drop q ∧ errRs (R.drop q) = E ∧ Below w.heap.size w wr) (fun iv _ => k - (intOf iv).toNat)
        case atStart => exact ⟨0, Z, rfl, by omega, HZK.out, HOB.out, by rw [HRZ.out]; simp, HE.out, HBB.out⟩
        case round =>
          obtain ⟨q, Zk, rfl, hq, hZq, ho, hmap, herr, hb⟩ := hrel
          have HO9 := Lib.hid ho
          have HMAP := Lib.hid hmap
          have HZQ := Lib.hid hZq
          by_cases hql : q < k
          · have e3 : decide ((q : Int) < (k : Int)) = true := decide_eq_true (by omega)
            have hkz : q < Zk.length := by rw [hZq]; exact hql
            have hkr : q < R.length := by rw [HRN.out]; exact hql
            have hz1 : Zk[q].1 = R[q] := by
              have h1 : (Zk.map Prod.fst)[q]? = some Zk[q].1 := by rw [List.getElem?_map, List.getElem?_eq_getElem hkz]; rfl
              rw [hmap, List.getElem?_append_right (by rw [List.length_map, List.length_take]; omega), List.length_map, List.length_take, Nat.min_eq_left (by omega), Nat.sub_self, List.getElem?_drop, Nat.add_zero, List.getElem?_eq_getElem hkr] at h1
              exact (Option.some.inj h1).symm
            obtain ⟨b', off', e', hbg, c0, c1, c2, c3⟩ := ho.row.at hkz
            cases e'
            have hat := (ho.labs _ (List.getElem_mem hkz)).2
            have hdr : R.drop q = R[q] :: R.drop (q + 1) := List.drop_eq_getElem_cons hkr
            rw [hdr] at herr
            rw [hz1] at c0 c1 c3 hat
            obtain ⟨r, hr⟩ : ∃ r, R[q] = r := ⟨_, rfl⟩
            rw [hr] at herr c0 c1 c3 hat
            have HZ1 := Lib.hid (hz1.trans hr)
            have HDR := Lib.hid (And.intro hr hdr)
            obtain ⟨lv, hlv⟩ : ∃ lv, Zk[q].2 = lv := ⟨_, rfl⟩
            rw [hlv] at c2 hat
            have HERR := Lib.hid (show (if errR r ≠ 0 then errR r else errRs (R.drop (q + 1))) = E from herr)
            have CC := rcanon_calls lv r.labs wr hat.1 hat.2.1 hat.2.2.1
            have HAT := Lib.hid hat
            have hsz := hb.size
            have hgB := (HO9.out.own.lt g rfl).1
            obtain ⟨la, lc, rfl, -, -⟩ := hat.1.shape
            simp only [Nat.zero_add] at c0 c1 c2 c3
            have HB9 := Lib.hid hb
            clear herr hdr hr hz1 hlv hat ho hmap hZq hb c0 c1 c3
            have hER : errR r = if canonE r.labs ≠ 0 then canonE r.labs else chkRec (canR r) := rfl
            have HER := Lib.hid hER
            go_upto_region 24 with (go_at_call 34; refine CC.mono ?_; rintro e w6 ⟨v6, rfl, ho6, hb6⟩; have HO6 := Lib.hid ho6; obtain ⟨na, nc, rfl⟩ := owns_slice ho6; clear ho6)
            have hown6 := HO9.out.keptB hb6
            have f6 := (HZQ.out ▸ hown6.own : _).frozenAt (q * 4 + 2)
            have c6 := hb6.cell (p := ⟨g, q * 4 + 2, none⟩) hbg
            rw [c2] at c6
            have hb6' := HB9.out.trans (hb6.mono HB9.out.size)
            obtain ⟨CE, hCE⟩ : ∃ CE, canonE r.labs = CE := ⟨_, rfl⟩
            have HCE := Lib.hid hCE
            rw [hCE]
            clear hER hCE CC c2
            by_cases hc0 : CE = 0
            · subst hc0
              obtain ⟨ho7, hg7⟩ := hown6.laid (r := canR r) (u := .slice na (canonL r.labs).length nc) HZQ.out hkz (by rw [HZ1.out]; rfl) (by rw [HZ1.out]; rfl) (by rw [HZ1.out]; rfl) (owns_base HO6.out hsz) (canon_at (HAT.out.below hb6) (LRow_own HO6.out))
              have hb7 := hb6'.grown hg7 hb6'.size (fun i hi => by cases hi; exact hgB)
              have hnk : q < (Zk.set q (canR r, Value.slice na (canonL r.labs).length nc)).length := by rw [List.length_set]; exact hkz
              obtain ⟨b6, off6, e6, -, q0, q1, q2, q3⟩ := ho7.row.at hnk
              cases e6
              have hat6 := (ho7.labs _ (List.getElem_mem hnk)).2
              simp only [List.getElem_set_self, Nat.zero_add] at q0 q1 q2 q3 hat6
              have CK := rrec_Check (canR r) (.slice na (canonL r.labs).length nc) _ hat6
              have hmap6 : (Zk.set q (canR r, Value.slice na (canonL r.labs).length nc)).map Prod.fst = (R.take (q + 1)).map canR ++ R.drop (q + 1) := by
                have hlk : ((R.take q).map canR).length = q := by rw [List.length_map, List.length_take, Nat.min_eq_left (by omega)]
                rw [List.map_set, HMAP.out, HDR.out.2, HDR.out.1, set_next ((R.take q).map canR) (R.drop (q + 1)) r _ hlk, List.take_succ_eq_append_getElem hkr, HDR.out.1, List.map_append, List.append_assoc]
                rfl
              have HM6 := Lib.hid hmap6
              have HO7 := Lib.hid ho7
              have HB7 := Lib.hid hb7
              unfold recV canR at CK
              simp only at CK q0 q1 q2 q3
              obtain ⟨KE, hKE⟩ : ∃ KE, chkRec ⟨r.time, r.seq, canonL r.labs, r.line⟩ = KE := ⟨_, rfl⟩
              have HKE := Lib.hid (show chkRec (canR r) = KE from hKE)
              rw [hKE] at CK
              have HER2 := Lib.hid (show errR r = KE by rw [HER.out, HCE.out, if_neg (by simp), HKE.out])
              obtain ⟨nl, hnl⟩ : ∃ nl, (canonL r.labs).length = nl := ⟨_, rfl⟩
              rw [hnl] at CK q2 HO7 HB7 HM6 q0 q1 q3 ⊢
              clear hmap6 ho7 hb7 hb6' hg7 hat6 hown6 hb6 hKE hnl
              go_upto_region 27 with fail
              obtain ⟨w7, hw7⟩ : ∃ w7, w6.setCell ⟨g, q * 4 + 2, none⟩ (.slice na nl nc) = w7 := ⟨_, rfl⟩
              rw [hw7] at CK q0 q1 q2 q3 HO7 HB7 ⊢
              clear hw7 f6 c6
              go_upto_region 28 with (go_at_call 35; refine CK.mono ?_; rintro e w8 ⟨rfl, hb8⟩)
              by_cases hk0 : KE = 0
              · subst hk0
                go_wp2
                go_roundw
                case rel => exact ⟨q + 1, _, by go_num, by omega, by rw [List.length_set]; exact HZQ.out, HO7.out.keptB hb8, HM6.out, by have h := HERR.out; rw [HER2.out, if_neg (by simp)] at h; exact h, HB7.out.trans (hb8.mono HB7.out.size)⟩
                case measure => simp [intOf]; omega
              · have hne : (KE != 0) = true := by simpa using hk0
                have hEK : E = KE := by rw [← HERR.out, HER2.out, if_pos hk0]
                have hP := HP.out
                rw [hEK, if_pos hk0] at hP
                clear hk0 hEK HP HERR HE
                go_wp2
                go_ret2
                exact PushR.bad hP (HB7.out.trans (hb8.mono HB7.out.size))
            · have HER2 := Lib.hid (show errR r = CE by rw [HER.out, HCE.out, if_pos hc0])
              have hne : (CE != 0) = true := by simpa using hc0
              have hEK : E = CE := by rw [← HERR.out, HER2.out, if_pos hc0]
              have hP := HP.out
              rw [hEK, if_pos hc0] at hP
              clear hc0 hEK HP HERR HE f6 c6 hown6
              go_wp2
              go_ret2
              exact PushR.bad hP hb6'
          · have e3 : decide ((q : Int) < (k : Int)) = false := decide_eq_false (by omega)
            have hE0 : E = 0 := by
              rw [← herr, List.drop_of_length_le (by rw [HRN.out]; omega)]
              rfl
            have hP := HP.out
            rw [hE0, if_neg (by simp)] at hP
            have HP2 := Lib.hid hP
            have hmm : Zk.map Prod.fst = R.map canR := by
              rw [hmap, List.drop_of_length_le (by rw [HRN.out]; omega), List.append_nil, List.take_of_length_le (by rw [HRN.out]; omega)]
            have HMM := Lib.hid hmm
            clear hP hmm hmap herr ho HP HE hE0
            go_wp2
            go_ret2
            exact ⟨_, Zk, by rw [HP2.out]; rfl, HO9.out.row, by rw [HP2.out, HMM.out], hb⟩
end Go.Proofs.YtljnbbdhmlfhjaaGreatDoor
