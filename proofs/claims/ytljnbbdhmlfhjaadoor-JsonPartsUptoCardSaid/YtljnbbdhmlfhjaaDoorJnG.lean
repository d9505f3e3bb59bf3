/-
  The law JsonParts: its walk.
-/
import Derived.Test.YtljnbbdhmlfhjaaDoorJnB
import Derived.Test.YtljnbbdhmlfhjaaDoorJnC
import Derived.Test.YtljnbbdhmlfhjaaDoorJnD
import Derived.Test.YtljnbbdhmlfhjaaDoorJnE
import Derived.Test.YtljnbbdhmlfhjaaDoorJnF
import Derived.Test.YtljnbbdhmlfhjaaDoorJnQ
import Derived.Lib.QuietBelow
namespace Go.Proofs.YtljnbbdhmlfhjaaDoor
open Go.RowKit
def mDig (dv uv : Value) : Nat := 2 * (intOf uv).natAbs + (match dv with | .string s => if s.size = 0 then 1 else 0 | _ => 0)
def DSt (n : Int) (ds : ByteArray) (u : Int) : Prop := restD u ds.data.toList ++ ds.data.toList = Lib.decDigits n.natAbs
theorem enc_dig (x : Int) (h0 : 48 ≤ x) (h1 : x ≤ 57) : Utf8.encode x = ⟨#[UInt8.ofNat x.toNat]⟩ := by
  have hv : Utf8.valid x = true := by
    unfold Utf8.valid
    simp
    omega
  unfold Utf8.encode
  simp only [hv, if_true]
  rw [if_pos (by omega)]
theorem dig_neg (x : Int) (h0 : -9 ≤ x) (h1 : x < 0) : Utf8.encode (wrap32 (wrap64 (48 + wrap64 (-x)))) = ⟨#[UInt8.ofNat (48 + x.natAbs)]⟩ := by
  rw [show wrap32 (wrap64 (48 + wrap64 (-x))) = 48 + -x from by unfold wrap32 wrap64; omega, enc_dig _ (by omega) (by omega), show (48 + -x).toNat = 48 + x.natAbs from by omega]
theorem dig_pos (x : Int) (h0 : 0 ≤ x) (h1 : x ≤ 9) : Utf8.encode (wrap32 (wrap64 (48 + x))) = ⟨#[UInt8.ofNat (48 + x.natAbs)]⟩ := by
  rw [show wrap32 (wrap64 (48 + x)) = 48 + x from by unfold wrap32 wrap64; omega, enc_dig _ (by omega) (by omega), show (48 + x).toNat = 48 + x.natAbs from by omega]
theorem dec_len (n : Int) (h0 : -9223372036854775808 ≤ n) (h1 : n ≤ 9223372036854775807) : (Lib.decDigits n.natAbs).length ≤ 21 := by
  obtain ⟨sg, e, -⟩ := itoa_parts n
  have := Lib.itoa_length_le n h0 h1
  rw [e, List.length_append] at this
  omega
theorem DSt.small {n : Int} {ds : ByteArray} {u : Int} (h : DSt n ds u) (h0 : -9223372036854775808 ≤ n) (h1 : n ≤ 9223372036854775807) : ds.size ≤ 21 := by
  have := dec_len n h0 h1
  unfold DSt at h
  rw [← h, List.length_append] at this
  have hz : ds.data.toList.length = ds.size := by simp [ByteArray.size_data]
  omega
theorem DSt.step {n : Int} {ds : ByteArray} {u : Int} {E : ByteArray} (h : DSt n ds u) (hu : u ≠ 0 ∨ ds.data.toList = []) (hE : E = ⟨#[UInt8.ofNat (48 + (u.tmod 10).natAbs)]⟩) : DSt n (E ++ ds) (u.tdiv 10) := by
  unfold DSt at h ⊢
  rw [rest_step u _ hu] at h
  rw [hE, ByteArray.data_append, Array.toList_append]
  simpa using h
theorem div_less (u : Int) (h0 : -9223372036854775808 ≤ u) (h1 : u ≤ 9223372036854775807) : -9223372036854775808 ≤ u.tdiv 10 ∧ u.tdiv 10 ≤ 9223372036854775807 ∧ (u ≠ 0 → (u.tdiv 10).natAbs < u.natAbs) := by
  have e3 : (u.tdiv 10).natAbs = u.natAbs / 10 := by rw [Int.natAbs_tdiv]; rfl
  omega
theorem mod_small (u : Int) : -9 ≤ u.tmod 10 ∧ u.tmod 10 ≤ 9 := by
  have e2 : (u.tmod 10).natAbs = u.natAbs % 10 := by rw [Int.natAbs_tmod]; rfl
  omega
theorem mdig_less (u : Int) (ds E : ByteArray) (hE : E.size = 1) (hu : u ≠ 0) (h0 : -9223372036854775808 ≤ u) (h1 : u ≤ 9223372036854775807) : mDig (.string (E ++ ds)) (.int .i64 (u.tdiv 10)) < mDig (.string ds) (.int .i64 u) := by
  have := (div_less u h0 h1).2.2 hu
  have hs : (E ++ ds).size ≠ 0 := by rw [ByteArray.size_append]; omega
  simp only [mDig, intOf]
  rw [if_neg hs]
  omega
/-- The document ahead of its texts. -/
def headB (D : Bs) : Bs := [123, 34, 110, 34, 58] ++ (D ++ ([44, 34, 102, 34, 58] ++ (D ++ [46, 48, 44, 34, 108, 34, 58, 91])))
def docN (n : Int) (L : List Bs) : J := .obj [([110], .num (Lib.itoa n)), ([102], .num (Lib.itoa n ++ [46, 48])), ([108], .arr (L.map .str)), ([110], .num [48])]
theorem doc_form (n : Int) (L : List Bs) : headB (Lib.itoa n) ++ formL (L.map .str) ++ [93, 44, 34, 110, 34, 58, 48, 125] = formJ (docN n L) := by
  have q1 : quote [110] = [34, 110, 34] := by decide
  have q2 : quote [102] = [34, 102, 34] := by decide
  have q3 : quote [108] = [34, 108, 34] := by decide
  simp [docN, formJ, formM, formU, formE, headB, q1, q2, q3]
theorem formT_app (l m : List J) : formT (l ++ m) = formT l ++ formT m := by
  induction l with
  | nil => rfl
  | cons x l ih => simp [formT, ih]
theorem formL_takeN (l : List J) (i : Nat) : (formL (l.take i)).length ≤ (formL l).length := by
  have : ∀ a b : List J, (formL a).length ≤ (formL (a ++ b)).length := by
    intro a b
    cases a with
    | nil => simp [formL]
    | cons x a => simp only [List.cons_append, formL, formT_app, List.length_append]; omega
  have h := this (l.take i) (l.drop i)
  rw [List.take_append_drop] at h
  exact h
theorem formL_next (L : List Bs) (i : Nat) (h : i < L.length) : formL ((L.take (i + 1)).map .str) = formL ((L.take i).map .str) ++ (if i = 0 then [] else [44]) ++ quote L[i] := by
  rw [List.take_succ_eq_append_getElem h, List.map_append, List.map_singleton, formL_snoc]
  congr 2
  by_cases hi : i = 0
  · subst hi; simp
  · rw [if_neg hi, if_neg]
    intro e
    have := congrArg List.length e
    rw [List.length_map, List.length_take, List.length_nil] at this
    omega
theorem int_good (n : Int) (h0 : -9223372036854775808 ≤ n) (h1 : n ≤ 9223372036854775807) : intJ (.num (Lib.itoa n)) = (n, true) := by
  show (if _ then _ else _) = _
  rw [if_pos ((num_iff _).1 (itoa_num n)).2, int_back n h0 h1]
theorem int_none (n : Int) (h0 : -9223372036854775808 ≤ n) (h1 : n ≤ 9223372036854775807) : intJ (.num (Lib.itoa n ++ [46, 48])) = (0, false) := by
  show (if _ then _ else _) = _
  rw [if_pos ((num_iff _).1 (itoa_frac n)).2, int_frac n h0 h1]
theorem get_other (n : Int) (L : List Bs) (o : ByteArray) : (getJ o.data.toList (docN n L)).isSome = ((o.toList == (⟨#[110]⟩ : ByteArray).toList) || (o.toList == (⟨#[102]⟩ : ByteArray).toList) || (o.toList == (⟨#[108]⟩ : ByteArray).toList)) := by
  have e : ∀ c : UInt8, (o.toList == (⟨#[c]⟩ : ByteArray).toList) = decide ([c] = o.data.toList) := by
    intro c
    rw [Bool.eq_iff_iff, beq_iff_eq, decide_eq_true_iff, ByteArray.toList_eq, ByteArray.toList_eq]
    exact ⟨fun h => h.symm, fun h => h.symm⟩
  rw [e, e, e]
  simp only [getJ, docN, findM]
  by_cases h1 : [110] = o.data.toList
  · simp [h1]
  · by_cases h2 : [102] = o.data.toList
    · simp [h1, h2]
    · by_cases h3 : [108] = o.data.toList <;> simp [h1, h2, h3]
theorem repL_strs {w : World} {S : Nat → Prop} : ∀ {L : List Bs} {vs : List Value}, RepL w S (L.map .str) vs → vs = L.map fun b => .iface 9 (strV b)
  | [], vs, h => h
  | b :: L, vs, h => by
    obtain ⟨v, vs', rfl, h1, h2⟩ := h
    rw [repL_strs h2, show v = _ from h1]
    rfl
theorem v_of (o : ByteArray) (V : Bool) (h : ((o.toList == (⟨#[110]⟩ : ByteArray).toList) || (o.toList == (⟨#[102]⟩ : ByteArray).toList) || (o.toList == (⟨#[108]⟩ : ByteArray).toList)) = V) : V = (decide (o.toList = [110]) || decide (o.toList = [102]) || decide (o.toList = [108])) := by
  have e : ∀ c : UInt8, (o.toList == (⟨#[c]⟩ : ByteArray).toList) = decide (o.toList = [c]) := by
    intro c
    rw [Bool.eq_iff_iff, beq_iff_eq, decide_eq_true_iff, ByteArray.toList_eq (⟨#[c]⟩ : ByteArray)]
  rw [← h, e, e, e]
theorem doc_nums (n : Int) (L : List Bs) : numsJ (docN n L) := by
  have hl : ∀ L : List Bs, numsL (L.map .str) := by
    intro L
    induction L with
    | nil => trivial
    | cons x L ih => exact ⟨trivial, ih⟩
  exact ⟨itoa_num n, itoa_frac n, hl L, (show NumS [48] from (show Lib.itoa 0 = [48] from by simp [Lib.itoa, Lib.decDigits]) ▸ itoa_num 0), trivial⟩
theorem doc_deep (n : Int) (L : List Bs) : deepJ (docN n L) ≤ 16 := by
  have hl : ∀ L : List Bs, deepL (L.map .str) = 0 := by
    intro L
    induction L with
    | nil => rfl
    | cons x L ih => simp [deepL, deepJ, ih]
  simp [docN, deepJ, deepM, deepE, hl]
set_option maxRecDepth 100000 in
set_option maxHeartbeats 40000000 in
theorem parts_walk (n : Int) (h0 : -9223372036854775808 ≤ n) (h1 : n ≤ 9223372036854775807) (L : List Bs) (sv : Value) (o : ByteArray) (w : World) (hT : Tabs w) (hE : ErrV w) (hrow : argRow w sv L.length 1 (L.map strV)) (hz : (formL (L.map .str)).length ≤ 1000000000000) (hLs : ∀ b ∈ L, b.length ≤ 100000000000) (hLl : L.length ≤ 1099511627776) :
    Calls Tryd.prog 7 #[.int .i64 n, sv, .string o] w fun e w' => e = .returned (.bool true) ∧ Below w.heap.size w w' := by
  have CA := law22_awake w hT
  have hrow2 := hrow
  obtain ⟨-, a, cap, rfl, -⟩ := hrow2
  have HC := Lib.hid (fun (W : World) (hb : Below w.heap.size w W) (i : Nat) (hi : i < L.length) => (show ∃ b off, a = some ⟨b, off, none⟩ ∧ W.cell? ⟨b, off + i, none⟩ = some (.string ⟨L[i].toArray⟩) from by
    obtain ⟨-, a', cap', e, -, -, hc⟩ := argRow_below hrow hb
    cases e
    obtain ⟨b, off, e, -, hc⟩ := hc (by omega)
    refine ⟨b, off, e, ?_⟩
    have := hc i (by simpa using hi)
    rw [this]
    simp [strV]))
  have HQ := Lib.hid (fun (i : Nat) (hi : i < L.length) (W : World) => ref_Quote ⟨L[i].toArray⟩ W (by have := hLs L[i] (List.getElem_mem hi); have h2 : L[i].length ≤ 1099511627776 := (by omega); simpa [ByteArray.size] using h2))
  have HQL := Lib.hid (fun (i : Nat) (hi : i < L.length) => (show (quote L[i]).length ≤ 6597069766658 from by have := hLs L[i] (List.getElem_mem hi); have := quote_len L[i]; omega))
  have HLS := Lib.hid (And.intro hLs hrow)
  obtain ⟨N, hN⟩ : ∃ N, L.length = N := ⟨_, rfl⟩
  have HN := Lib.hid hN
  rw [hN] at hLl ⊢
  clear hLs hrow hN
  go_enter Tryd.func7, Tryd.ntmps7
  go_wp2_with (go_at_call 8; refine CA.mono ?_; rintro e w1 ⟨rfl, hb1⟩)
  clear CA
  go_loopw [7, 8] (fun dv uv wr => ∃ (ds : ByteArray) (u : Int), dv = .string ds ∧ uv = .int .i64 u ∧ -9223372036854775808 ≤ u ∧ u ≤ 9223372036854775807 ∧ DSt n ds u ∧ wr = w1) (fun dv uv _ => mDig dv uv)
  case atStart => exact ⟨⟨#[]⟩, n, rfl, rfl, h0, h1, (by unfold DSt restD; rw [if_neg (by simp)]; simp), rfl⟩
  case round =>
    obtain ⟨ds, u, rfl, rfl, hu0, hu1, hds, rfl⟩ := hrel
    have HD := Lib.hid hds
    clear hds
    by_cases hq : u = 0 ∧ ds.data.toList ≠ []
    · obtain ⟨rfl, hdn⟩ := hq
      have hs20 := HD.out.small h0 h1
      have hdd : ds.data.toList = Lib.decDigits n.natAbs := by
        have := HD.out
        unfold DSt restD at this
        rw [if_pos ⟨rfl, hdn⟩] at this
        exact this
      have hne : ds.toList.isEmpty = false := by
        rw [ByteArray.toList_eq]
        cases hx : ds.data.toList with
        | nil => exact absurd hx hdn
        | cons => rfl
      have HDD := Lib.hid hdd
      clear hdd hdn
      go_upto_if 67 with fail
      have HIT := Lib.hid (itoa_parts n)
      clear hne
      go_cut [7] from 67 to 69 (fun dv wx => ∃ D : ByteArray, dv = .string D ∧ D.data.toList = Lib.itoa n ∧ wx = wr)
      case first =>
        by_cases hn : n < 0
        · go_wp2_with fail
          go_meet
          refine ⟨_, rfl, ?_, rfl⟩
          obtain ⟨sg, e, ⟨rfl, h⟩ | ⟨rfl, h⟩⟩ := HIT.out
          · omega
          · rw [e, ← HDD.out]
            simp [ByteArray.data_append]
        · have d1 : decide (n < 0) = false := decide_eq_false hn
          go_wp2_with fail
          go_meet
          refine ⟨_, rfl, ?_, rfl⟩
          obtain ⟨sg, e, ⟨rfl, h⟩ | ⟨rfl, h⟩⟩ := HIT.out
          · rw [e, ← HDD.out]
            simp
          · omega
      case rest =>
        obtain ⟨D, rfl, hD, rfl⟩ := hcut
        have hDs : D.size ≤ 21 := by
          have := Lib.itoa_length_le n h0 h1
          rw [← hD] at this
          simpa [ByteArray.size_data] using this
        have HDI := Lib.hid hD
        clear hD HIT HDD HD hs20 hu0 hu1
        go_upto_region 15 with fail
        go_loopw [10, 11] (fun xv iv wr => ∃ (x : ByteArray) (i : Nat), xv = .string x ∧ iv = .int .i64 i ∧ i ≤ N ∧ x.data.toList = headB (Lib.itoa n) ++ formL ((L.take i).map .str) ∧ Below w.heap.size w wr) (fun _ iv _ => N - (intOf iv).toNat)
        case atStart =>
          refine ⟨_, 0, rfl, rfl, by omega, ?_, hb1⟩
          simp [ByteArray.data_append, HDI.out, headB, formL]
        case round =>
          obtain ⟨x, i, rfl, rfl, hi, hx, hbr⟩ := hrel
          have hxs : x.size ≤ 1000000000100 := by
            have hA := congrArg List.length hx
            have h2 := formL_takeN (L.map .str) i
            rw [← List.map_take] at h2
            have h3 := Lib.itoa_length_le n h0 h1
            have h4 : x.data.toList.length = x.size := by simp [ByteArray.size_data]
            rw [h4] at hA
            simp only [headB, List.length_append, List.length_cons, List.length_nil] at hA
            omega
          have HX := Lib.hid hx
          have HB := Lib.hid hbr
          by_cases hin : i < N
          · have hil : i < L.length := by rw [HN.out]; exact hin
            obtain ⟨b, off, rfl, hc⟩ := HC.out wr hbr i hil
            have d1 : decide ((i : Int) < (N : Int)) = true := decide_eq_true (by omega)
            have CQ := HQ.out i hil wr
            have hql := HQL.out i hil
            have HNX := Lib.hid (formL_next L i hil)
            obtain ⟨T, hT2⟩ : ∃ T : ByteArray, (⟨L[i].toArray⟩ : ByteArray) = T := ⟨_, rfl⟩
            rw [hT2] at hc CQ
            obtain ⟨Q, hQ2⟩ : ∃ Q : ByteArray, (⟨(quote L[i]).toArray⟩ : ByteArray) = Q := ⟨_, rfl⟩
            rw [hQ2] at CQ
            have hQs : Q.size ≤ 6597069766658 := by rw [← hQ2]; exact hql
            have HQD := Lib.hid (show Q.data.toList = quote L[i] by rw [← hQ2])
            clear hx hbr hql hT2 hQ2 HC
            go_wp2_with (go_at_call 14; refine CQ.mono ?_; rintro e w2 ⟨rfl, hb2⟩; have HB2 := Lib.hid hb2; clear hb2)
            · rename_i hp
              go_roundw
              case rel =>
                refine ⟨_, i + 1, rfl, by go_num, by omega, ?_, HB.out.trans (HB2.out.mono HB.out.size)⟩
                rw [HNX.out, if_neg (by omega), ByteArray.data_append, Array.toList_append, ByteArray.data_append, Array.toList_append, HX.out, HQD.out]
                simp
              case measure => simp [intOf]; omega
            · rename_i hp
              go_roundw
              case rel =>
                refine ⟨_, i + 1, rfl, by go_num, by omega, ?_, HB.out.trans (HB2.out.mono HB.out.size)⟩
                rw [HNX.out, if_pos (by omega), ByteArray.data_append, Array.toList_append, HX.out, HQD.out]
                simp
              case measure => simp [intOf]; omega
          · have d1 : decide ((i : Int) < (N : Int)) = false := decide_eq_false (by omega)
            have hie : i = N := by omega
            have hxd : x.data.toList = headB (Lib.itoa n) ++ formL (L.map .str) := by
              rw [hx, List.take_of_length_le (by rw [HN.out]; omega)]
            have HXD := Lib.hid hxd
            clear hxd hx HX HDI hDs hi hbr hb1 hie
            go_upto_region 21 with fail
            obtain ⟨X, hX⟩ : ∃ X : ByteArray, x ++ ⟨#[93, 44, 34, 110, 34, 58, 48, 125]⟩ = X := ⟨_, rfl⟩
            have hXd : X.data.toList = formJ (docN n L) := by
              rw [← hX, ByteArray.data_append, Array.toList_append, HXD.out, ← doc_form]
            have hXs : X.size ≤ 1000000000200 := by
              rw [← hX, ByteArray.size_append]
              have : (⟨#[93, 44, 34, 110, 34, 58, 48, 125]⟩ : ByteArray).size = 8 := rfl
              omega
            rw [hX]
            obtain ⟨a1, c1, W1, hcv, hrow1, hbW⟩ := conv_bytesJ (src := 9) Tryd.underlying9 X (by omega) wr
            have CP := js_Parse (.slice a1 X.size c1) X.data.toList W1 (Utf8Tabs_below hT (HB.out.trans (hbW.mono HB.out.size))) hrow1
            rw [hXd] at CP
            have HBW := Lib.hid (HB.out.trans (hbW.mono HB.out.size))
            clear hX HXD hxs hrow1 hbW HC HQ HQL
            rcases parse_any (doc_nums n L) (doc_deep n L) with ⟨p1, p2, -, hlen⟩ | p8 | p4
            · have CP0 : Calls Tryd.prog 11 #[.slice a1 X.size c1] W1 fun e w' => ∃ v, e = .returned (.tuple #[v, .int .i64 0]) ∧ RepJ w' (Nw W1.heap.size w') (docN n L) v ∧ Below W1.heap.size W1 w' := by
                refine CP.mono ?_
                rintro e w' ⟨v, h1, h2, h3⟩
                rw [p1] at h1
                rw [p2] at h2
                exact ⟨v, h1, h2, h3⟩
              clear CP p1 p2 hXd
              go_upto_region 24 with (go_at_call 11; refine CP0.mono ?_; rintro e w5 ⟨v5, rfl, hr5, hb5⟩; have HR5 := Lib.hid hr5; clear hr5)
              have HW5 := Lib.hid (HBW.out.trans (hb5.mono HBW.out.size))
              obtain ⟨SS, hSS⟩ : ∃ SS, Nw W1.heap.size w5 = SS := ⟨_, rfl⟩
              have hSn : ∀ k, SS k → k < w5.heap.size := by
                rw [← hSS]
                exact fun k hk => hk.2
              rw [hSS] at HR5
              have hdl : (formJ (docN n L)).length ≤ 1099511627776 := by omega
              have HJ := Lib.hid (fun W (hW : Below w5.heap.size w5 W) => And.intro (HR5.out.low hSn hW) (fun k hk => Nat.lt_of_lt_of_le (hSn k hk) hW.size : ∀ k, SS k → k < W.heap.size))
              have HE := Lib.hid (fun W (hW : Below w5.heap.size w5 W) => hE.keep (HW5.out.trans (hW.mono HW5.out.size)))
              have CN := ((js_Names (docN n L) SS v5 w5 HR5.out hSn hdl).mono (fun e w' ⟨v, h1, h2, h3⟩ => ⟨v, h1, h2, h3⟩) : Calls Tryd.prog 17 #[v5] w5 fun e w' => ∃ nv, e = .returned (.tuple #[nv, .bool true]) ∧ w'.ownsRow w5.heap.size 9 1 nv 4 [strV [110], strV [102], strV [108], strV [110]] ∧ Below w5.heap.size w5 w')
              have CG := fun (nm : ByteArray) W hW => js_Get (docN n L) SS v5 nm W (HJ.out W hW).1 (HJ.out W hW).2 hdl
              obtain ⟨U1, hU1⟩ : ∃ U, Value.iface 30 (.string ⟨(Lib.itoa n).toArray⟩) = U := ⟨_, rfl⟩
              obtain ⟨U2, hU2⟩ : ∃ U, Value.iface 30 (.string ⟨(Lib.itoa n ++ [46, 48]).toArray⟩) = U := ⟨_, rfl⟩
              have CG1 := Lib.hid (fun W hW => ((CG ⟨#[110]⟩ W hW).mono (fun e w' ⟨u, h1, h2, h3⟩ => ⟨by rw [h1, show u = U1 from (show u = _ from h3).trans hU1]; rfl, h2⟩) : Calls Tryd.prog 16 #[v5, .string ⟨#[110]⟩] W fun e w' => e = .returned (.tuple #[U1, .bool true]) ∧ Below W.heap.size W w'))
              have CG2 := Lib.hid (fun W hW => ((CG ⟨#[102]⟩ W hW).mono (fun e w' ⟨u, h1, h2, h3⟩ => ⟨by rw [h1, show u = U2 from (show u = _ from h3).trans hU2]; rfl, h2⟩) : Calls Tryd.prog 16 #[v5, .string ⟨#[102]⟩] W fun e w' => e = .returned (.tuple #[U2, .bool true]) ∧ Below W.heap.size W w'))
              have CG3 := Lib.hid (fun W hW => ((CG ⟨#[108]⟩ W hW).mono (fun e w' ⟨u, h1, h2, h3⟩ => ⟨u, h1, h3, h2⟩) : Calls Tryd.prog 16 #[v5, .string ⟨#[108]⟩] W fun e w' => ∃ u, e = .returned (.tuple #[u, .bool true]) ∧ RepJ w' SS (.arr (L.map .str)) u ∧ Below W.heap.size W w'))
              obtain ⟨V, hV⟩ : ∃ V, ((o.toList == (⟨#[110]⟩ : ByteArray).toList) || (o.toList == (⟨#[102]⟩ : ByteArray).toList) || (o.toList == (⟨#[108]⟩ : ByteArray).toList)) = V := ⟨_, rfl⟩
              have CG4 := Lib.hid (fun W hW => ((CG o W hW).mono (fun e w' ⟨u, h1, h2, h3⟩ => ⟨u, by rw [h1, get_other, hV], h2⟩) : Calls Tryd.prog 16 #[v5, .string o] W fun e w' => ∃ u, e = .returned (.tuple #[u, .bool V]) ∧ Below W.heap.size W w'))
              have hil := Lib.itoa_length_le n h0 h1
              have CI1 := Lib.hid (fun W hW => (show Calls Tryd.prog 18 #[U1] W fun e w' => e = .returned (.tuple #[.int .i64 n, .bool true]) ∧ Below W.heap.size W w' from by
                have h := js_Int (.num (Lib.itoa n)) SS U1 W hU1.symm (HE.out W hW) (by show (Lib.itoa n).length ≤ _; omega)
                rw [int_good n h0 h1] at h
                exact h))
              have CI2 := Lib.hid (fun W hW => (show Calls Tryd.prog 18 #[U2] W fun e w' => e = .returned (.tuple #[.int .i64 0, .bool false]) ∧ Below W.heap.size W w' from by
                have h := js_Int (.num (Lib.itoa n ++ [46, 48])) SS U2 W hU2.symm (HE.out W hW) (by show (Lib.itoa n ++ [46, 48]).length ≤ _; rw [List.length_append]; simp; omega)
                rw [int_none n h0 h1] at h
                exact h))
              have HV := Lib.hid (v_of o V hV)
              clear hV CG hU1 hU2 hil hlen hSS HR5
              go_upto_region 25 with (go_at_call 17; refine CN.mono ?_; rintro e w6 ⟨nv, rfl, ho6, hb6⟩; have HO6 := Lib.hid ho6; clear ho6)
              have D1 := CG1.out w6 hb6
              clear CN
              go_upto_region 26 with (go_at_call 16; refine D1.mono ?_; rintro e w7 ⟨rfl, hb7⟩)
              have hw7 := hb6.trans (hb7.mono hb6.size)
              have D2 := CG2.out w7 hw7
              clear D1
              go_upto_region 27 with (go_at_call 16; refine D2.mono ?_; rintro e w8 ⟨rfl, hb8⟩)
              have hw8 := hw7.trans (hb8.mono hw7.size)
              have D3 := CG3.out w8 hw8
              clear D2
              go_upto_region 28 with (go_at_call 16; refine D3.mono ?_; rintro e w9 ⟨lv, rfl, hr9, hb9⟩; have HR9 := Lib.hid hr9; clear hr9)
              have hw9 := hw8.trans (hb9.mono hw8.size)
              have D4 := CG4.out w9 hw9
              clear D3
              go_upto_region 29 with (go_at_call 16; refine D4.mono ?_; rintro e w10 ⟨ov, rfl, hb10⟩)
              have hw10 := hw9.trans (hb10.mono hw9.size)
              have D5 := CI1.out w10 hw10
              clear D4
              go_upto_region 30 with (go_at_call 18; refine D5.mono ?_; rintro e w11 ⟨rfl, hb11⟩)
              have hw11 := hw10.trans (hb11.mono hw10.size)
              have D6 := CI2.out w11 hw11
              clear D5
              go_upto_region 31 with (go_at_call 18; refine D6.mono ?_; rintro e w12 ⟨rfl, hb12⟩)
              have hw12 := hw11.trans (hb12.mono hw11.size)
              clear D6
              have CIt := js_Items (.arr (L.map .str)) SS lv w12 (HR9.out.low (HJ.out w9 hw9).2 ((hb10.trans (hb11.mono hb10.size)).trans (hb12.mono (hb10.trans (hb11.mono hb10.size)).size))) (HJ.out w12 hw12).2 (by simp only [formJ, List.length_cons, List.length_append, List.length_nil]; omega)
              have CT : Calls Tryd.prog 19 #[lv] w12 fun e w' => ∃ ia ic, e = .returned (.tuple #[.slice ia N ic, .bool true]) ∧ argRow w' (.slice ia N ic) N 1 (L.map fun b => .iface 9 (strV b)) ∧ Below w12.heap.size w12 w' := by
                refine CIt.mono ?_
                rintro e w' ⟨v, vs, h1, h2, h3, h4⟩
                have hvs := repL_strs h3
                subst hvs
                have hln : (itemsJ (.arr (L.map .str))).1.length = N := by show (L.map J.str).length = N; rw [List.length_map, HN.out]
                rw [hln] at h2
                obtain ⟨ia, ic, rfl⟩ := owns_slice h2
                exact ⟨ia, ic, h1, argRow_owns h2, h4⟩
              clear CIt
              go_upto_region 32 with (go_at_call 19; refine CT.mono ?_; rintro e w13 ⟨ia, ic, rfl, hr13, hb13⟩; have HR13 := Lib.hid hr13; clear hr13)
              have hw13 := hw12.trans (hb13.mono hw12.size)
              have hb6_13 : Below w6.heap.size w6 w13 := by
                have h1 := hb7.trans (hb8.mono hb7.size)
                have h2 := h1.trans (hb9.mono h1.size)
                have h3 := h2.trans (hb10.mono h2.size)
                have h4 := h3.trans (hb11.mono h3.size)
                have h5 := h4.trans (hb12.mono h4.size)
                exact h5.trans (hb13.mono h5.size)
              obtain ⟨-, na, nc, rfl, -, -, hnc⟩ := argRow_below (argRow_owns HO6.out) hb6_13
              obtain ⟨nb, noff, rfl, -, hnc⟩ := hnc (by decide)
              have hn1 : w13.cell? ⟨nb, noff + 1, none⟩ = some (.string ⟨#[102]⟩) := hnc 1 (by decide)
              have HW13 := Lib.hid hw13
              have hb9_12 := (hb10.trans (hb11.mono hb10.size)).trans (hb12.mono (hb10.trans (hb11.mono hb10.size)).size)
              have HL13 := Lib.hid (HR9.out.low (HJ.out w9 hw9).2 (hb9_12.trans (hb13.mono hb9_12.size)))
              clear hb9_12 CT hw7 hw8 hw9 hw10 hw11 hw12 hw13 hb6 hb7 hb8 hb9 hb10 hb11 hb12 hb13 hb6_13 hnc HO6 CG1 CG2 CG3 CG4
              go_cut [211] from 150 to 211 (fun v wx => v = .bool false ∧ wx = w13)
              case first =>
                clear HN HLS HJ HE CI1 CI2 HW13 HW5 HR9 HBW HR13
                by_cases q1 : o.toList = [110]
                · obtain rfl : V = true := by rw [HV.out]; simp [q1]
                  clear HV
                  go_wp2
                  go_meet
                  exact ⟨rfl, rfl⟩
                · by_cases q2 : o.toList = [102]
                  · obtain rfl : V = true := by rw [HV.out]; simp [q2]
                    clear HV
                    go_wp2
                    go_meet
                    exact ⟨rfl, rfl⟩
                  · by_cases q3 : o.toList = [108]
                    · obtain rfl : V = true := by rw [HV.out]; simp [q3]
                      clear HV
                      go_wp2
                      go_meet
                      exact ⟨rfl, rfl⟩
                    · obtain rfl : V = false := by rw [HV.out]; simp [q1, q2, q3]
                      clear HV
                      go_wp2
                      go_meet
                      exact ⟨congrArg Value.bool (by simp [q1, q2, q3]), rfl⟩
              case rest =>
                obtain ⟨rfl, rfl⟩ := hcut
                have HLV := Lib.hid (fun W (hW : Below wc.heap.size wc W) => (show RepJ W SS (.arr (L.map .str)) lv ∧ (∀ k, SS k → k < W.heap.size) ∧ Below w5.heap.size w5 W from
                  have h5 := HW13.out.trans (hW.mono HW13.out.size)
                  ⟨HL13.out.low (HJ.out _ HW13.out).2 hW, (HJ.out W h5).2, h5⟩))
                clear hn1
                go_upto_region 35 with fail
                have HC2 := Lib.hid (fun (W : World) (hW : Below wc.heap.size wc W) (i : Nat) (hi : i < L.length) => (show (∃ b off, a = some ⟨b, off, none⟩ ∧ W.cell? ⟨b, off + i, none⟩ = some (.string ⟨L[i].toArray⟩)) ∧ (∃ b off, ia = some ⟨b, off, none⟩ ∧ W.cell? ⟨b, off + i, none⟩ = some (.iface 9 (.string ⟨L[i].toArray⟩))) from by
                  have h5 := HW13.out.trans (hW.mono HW13.out.size)
                  have h0 := HW5.out.trans (h5.mono HW5.out.size)
                  constructor
                  · obtain ⟨-, a', cap', e, -, -, hc⟩ := argRow_below HLS.out.2 h0
                    cases e
                    obtain ⟨b, off, e, -, hc⟩ := hc (by omega)
                    refine ⟨b, off, e, ?_⟩
                    have := hc i (by simpa using hi)
                    rw [this]
                    simp [strV]
                  · obtain ⟨-, a', cap', e, -, -, hc⟩ := argRow_below HR13.out hW
                    cases e
                    obtain ⟨b, off, e, -, hc⟩ := hc (by have := HN.out; omega)
                    refine ⟨b, off, e, ?_⟩
                    have := hc i (by simpa using hi)
                    rw [this]
                    simp [strV]))
                go_loopw [30] (fun iv wr => ∃ i : Nat, iv = .int .i64 i ∧ i ≤ N ∧ Below wc.heap.size wc wr) (fun iv _ => N - (intOf iv).toNat)
                case atStart => exact ⟨0, rfl, by omega, Below.refl _ _⟩
                case round =>
                  obtain ⟨i, rfl, hi, hbr⟩ := hrel
                  have HB3 := Lib.hid hbr
                  by_cases hin : i < N
                  · have hil : i < L.length := by rw [HN.out]; exact hin
                    obtain ⟨⟨b, off, rfl, hc1⟩, ⟨b2, off2, rfl, hc2⟩⟩ := HC2.out wr hbr i hil
                    have d1 : decide ((i : Int) < (N : Int)) = true := decide_eq_true (by omega)
                    have CT1 := js_Text (.str L[i]) SS (.iface 9 (.string ⟨L[i].toArray⟩)) wr rfl
                    have CN1 := (show Calls Tryd.prog 18 #[.iface 9 (.string ⟨L[i].toArray⟩)] wr fun e w' => e = .returned (.tuple #[.int .i64 0, .bool false]) ∧ Below wr.heap.size wr w' from js_Int (.str L[i]) SS _ wr rfl (HE.out wr (HLV.out wr hbr).2.2) (by show (quote L[i]).length ≤ _; have := HLS.out.1 L[i] (List.getElem_mem hil); have := quote_len L[i]; omega))
                    obtain ⟨T, hT2⟩ : ∃ T : ByteArray, (⟨L[i].toArray⟩ : ByteArray) = T := ⟨_, rfl⟩
                    have CT2 := (CT1.mono (fun e w' h => by rw [show (textJ (.str L[i])).1 = L[i] from rfl, hT2] at h; exact h) : Calls Tryd.prog 15 #[.iface 9 (.string ⟨L[i].toArray⟩)] wr fun e w' => e = .returned (.tuple #[.string T, .bool true]) ∧ w' = wr)
                    rw [hT2] at hc1 hc2 CN1 CT2
                    have HCK := Lib.hid (fun W (hW : Below wr.heap.size wr W) => (show W.cell? ⟨b, off + i, none⟩ = some (.string T) from by
                      obtain ⟨⟨b', off', e, h⟩, -⟩ := HC2.out W (hbr.trans (hW.mono hbr.size)) i hil
                      cases e
                      rw [hT2] at h
                      exact h))
                    clear CT1 hT2 HC2 hbr HLS HR13 HJ HE HLV HL13 HV CI1 CI2
                    go_wp2_with (first
                      | (go_at_call 15; refine CT2.mono ?_; rintro e w2 ⟨rfl, rfl⟩)
                      | (go_at_call 18; refine CN1.mono ?_; rintro e w3 ⟨rfl, hb3⟩; have HB4 := Lib.hid hb3; have hc3 := HCK.out _ hb3; clear hb3))
                    go_roundw
                    case rel => exact ⟨i + 1, by go_num, by omega, HB3.out.trans (HB4.out.mono HB3.out.size)⟩
                    case measure => simp [intOf]; omega
                  · have d1 : decide ((i : Int) < (N : Int)) = false := decide_eq_false (by omega)
                    have h5 := (HLV.out wr hbr).2.2
                    have E1 := (js_Text (docN n L) SS v5 wr (HJ.out wr h5).1 : Calls Tryd.prog 15 #[v5] wr fun e w' => e = .returned (.tuple #[.string ⟨#[]⟩, .bool false]) ∧ w' = wr)
                    have E2 := ((js_Items (docN n L) SS v5 wr (HJ.out wr h5).1 (HJ.out wr h5).2 hdl).mono (fun e w' ⟨v, vs, h1, h2, h3, h4⟩ => ⟨v, h1, h4⟩) : Calls Tryd.prog 19 #[v5] wr fun e w' => ∃ v, e = .returned (.tuple #[v, .bool false]) ∧ Below wr.heap.size wr w')
                    have HE3 := Lib.hid (fun W (hW : Below wc.heap.size wc W) => ((js_Names (.arr (L.map .str)) SS lv W (HLV.out W hW).1 (HLV.out W hW).2.1 (by simp only [formJ, List.length_cons, List.length_append, List.length_nil]; omega)).mono (fun e w' ⟨v, h1, h2, h3⟩ => ⟨v, h1, h3⟩) : Calls Tryd.prog 17 #[lv] W fun e w' => ∃ v, e = .returned (.tuple #[v, .bool false]) ∧ Below W.heap.size W w'))
                    have HE4 := Lib.hid (fun W (hW : Below wc.heap.size wc W) => ((js_Get .nul SS .nilIface o W rfl (HLV.out W hW).2.1 (by show 4 ≤ _; omega)).mono (fun e w' ⟨u, h1, h2, h3⟩ => ⟨u, h1, h2⟩) : Calls Tryd.prog 16 #[.nilIface, .string o] W fun e w' => ∃ u, e = .returned (.tuple #[u, .bool false]) ∧ Below W.heap.size W w'))
                    clear hbr HC2 HLS HR13 HJ HE HL13 HV CI1 CI2 h5
                    go_upto_region 42 with (go_at_call 15; refine E1.mono ?_; rintro e w2 ⟨rfl, rfl⟩)
                    go_upto_region 43 with (go_at_call 19; refine E2.mono ?_; rintro e w14 ⟨v14, rfl, hb14⟩)
                    have hx14 := HB3.out.trans (hb14.mono HB3.out.size)
                    have E3 := HE3.out w14 hx14
                    clear E1 E2
                    go_upto_region 44 with (go_at_call 17; refine E3.mono ?_; rintro e w15 ⟨v15, rfl, hb15⟩)
                    have hx15 := hx14.trans (hb15.mono hx14.size)
                    have E4 := HE4.out w15 hx15
                    have HX15 := Lib.hid hx15
                    clear E3 hx14 hx15 hb14 hb15
                    go_wp2_with (go_at_call 16; refine E4.mono ?_; rintro e w16 ⟨v16, rfl, hb16⟩; have HB16 := Lib.hid hb16; clear hb16)
                    go_ret
                    have hy := HX15.out.trans (HB16.out.mono HX15.out.size)
                    have hy2 := HW13.out.trans (hy.mono HW13.out.size)
                    exact ⟨rfl, HW5.out.trans (hy2.mono HW5.out.size)⟩
            · have CP0 : Calls Tryd.prog 11 #[.slice a1 X.size c1] W1 fun e w' => ∃ v, e = .returned (.tuple #[v, .int .i64 8]) ∧ Below W1.heap.size W1 w' := by
                refine CP.mono ?_
                rintro e w' ⟨v, h1, h2, h3⟩
                rw [p8] at h1
                exact ⟨v, h1, h3⟩
              clear CP p8 hXd
              go_wp2_with (go_at_call 11; refine CP0.mono ?_; rintro e w5 ⟨v5, rfl, hb5⟩; have HB5 := Lib.hid hb5; clear hb5)
              go_ret
              exact ⟨rfl, HBW.out.trans (HB5.out.mono HBW.out.size)⟩
            · have CP0 : Calls Tryd.prog 11 #[.slice a1 X.size c1] W1 fun e w' => ∃ v, e = .returned (.tuple #[v, .int .i64 4]) ∧ Below W1.heap.size W1 w' := by
                refine CP.mono ?_
                rintro e w' ⟨v, h1, h2, h3⟩
                rw [p4] at h1
                exact ⟨v, h1, h3⟩
              clear CP p4 hXd
              go_wp2_with (go_at_call 11; refine CP0.mono ?_; rintro e w5 ⟨v5, rfl, hb5⟩; have HB5 := Lib.hid hb5; clear hb5)
              go_ret
              exact ⟨rfl, HBW.out.trans (HB5.out.mono HBW.out.size)⟩
    · by_cases hu : u = 0
      · subst hu
        obtain rfl : ds = ⟨#[]⟩ := by
          apply ByteArray.ext
          have : ds.data.toList = [] := Decidable.byContradiction fun h => hq ⟨rfl, h⟩
          exact Array.toList_inj.1 this
        have he : Utf8.encode 48 = ⟨#[48]⟩ := by decide
        have HE := Lib.hid he
        have hes : (Utf8.encode 48).size ≤ 1 := by rw [he]; decide
        clear he hq
        go_wp2
        go_roundw
        case rel => exact ⟨_, 0, rfl, rfl, by omega, by omega, HD.out.step (.inr rfl) HE.out, trivial⟩
        case measure => rw [HE.out]; decide
      · have hs20 := HD.out.small h0 h1
        have hm := mod_small u
        have HV := Lib.hid (div_less u hu0 hu1)
        have hP := dig_pos (u.tmod 10)
        have hN := dig_neg (u.tmod 10)
        have hM := fun E hE => mdig_less u ds E hE hu hu0 hu1
        have HM := Lib.hid hM
        clear hM
        by_cases hs : u.tmod 10 < 0
        · have HE := Lib.hid (hN hm.1 hs)
          have hes : (Utf8.encode (wrap32 (wrap64 (48 + wrap64 (-u.tmod 10))))).size ≤ 1 := by rw [HE.out]; exact Nat.le_refl _
          clear hP hN hm hq
          go_wp2
          go_roundw
          case rel => exact ⟨_, _, rfl, rfl, HV.out.1, HV.out.2.1, HD.out.step (.inl hu) HE.out, trivial⟩
          case measure => exact HM.out _ (by rw [HE.out]; rfl)
        · have HE := Lib.hid (hP (by omega) hm.2)
          have hes : (Utf8.encode (wrap32 (wrap64 (48 + u.tmod 10)))).size ≤ 1 := by rw [HE.out]; exact Nat.le_refl _
          clear hP hN hm hq
          go_wp2
          go_roundw
          case rel => exact ⟨_, _, rfl, rfl, HV.out.1, HV.out.2.1, HD.out.step (.inl hu) HE.out, trivial⟩
          case measure => exact HM.out _ (by rw [HE.out]; rfl)
end Go.Proofs.YtljnbbdhmlfhjaaDoor
