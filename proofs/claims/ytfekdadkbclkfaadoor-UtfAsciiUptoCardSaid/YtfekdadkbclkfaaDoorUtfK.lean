/- The walk of UtfAscii. -/
import Derived.Test.YtfekdadkbclkfaaDoorUtfG
import Derived.Test.YtfekdadkbclkfaaDoorKitB
import Derived.Lib.QuietBelow
import Derived.BigQuiet
import Derived.Deep.QuietTactic
namespace Go.Proofs.YtfekdadkbclkfaaDoor
open Go.RowKit

/-- A byte below 128, and its small form. -/
def low (b : UInt8) : UInt8 := UInt8.ofNat (b.toNat % 128)
def lowS (b : UInt8) : UInt8 := if 65 ≤ b.toNat % 128 ∧ b.toNat % 128 ≤ 90 then UInt8.ofNat (b.toNat % 128 + 32) else low b
theorem low_nat (b : UInt8) : (low b).toNat = b.toNat % 128 := by unfold low; rw [UInt8.toNat_ofNat']; omega
theorem lowS_nat (b : UInt8) : (lowS b).toNat = if 65 ≤ b.toNat % 128 ∧ b.toNat % 128 ≤ 90 then b.toNat % 128 + 32 else b.toNat % 128 := by
  unfold lowS
  split
  · rw [UInt8.toNat_ofNat']; omega
  · exact low_nat b
def apartV (v v' : Value) : Prop := ∀ g, v.ownBlock = some g → v'.ownBlock ≠ some g
theorem kept_apart {v v' : Value} (h : apartV v v') : v'.ownBlock = none ∨ v'.ownBlock ≠ v.ownBlock := by
  cases e : v.ownBlock with
  | none => cases e' : v'.ownBlock with
    | none => exact .inl rfl
    | some g => exact .inr (by simp)
  | some g => exact .inr (h g e)
theorem apartV_symm {v v' : Value} (h : apartV v v') : apartV v' v := fun g h1 h2 => h g h2 h1
theorem apartV_new {v v' : Value} {g H n c : Nat} (h : apartV v v') (hg : v.ownBlock = some g ∨ g = H) (hv : ∀ k, v'.ownBlock = some k → k < H) : apartV (.slice (some ⟨g, 0, none⟩) n c) v' := by
  intro g' h1 h2
  simp [Value.ownBlock] at h1
  subst h1
  rcases hg with hg | hg
  · exact h g hg h2
  · have := hv g h2; omega
theorem byteCells_snoc (l : List UInt8) (c : UInt8) (z : Int) (h : z = (c.toNat : Int)) : Lib.byteCells l ++ [Value.int .u8 z] = Lib.byteCells (l ++ [c]) := by
  subst h; simp [Lib.byteCells]
theorem fold_low (l : List UInt8) : fold (l.map low) = l.map lowS := by
  unfold fold
  have e : runes (l.map low) = (l.map low).map (·.toNat) := by
    have := runes_ascii (l.map low) (by intro b hb; obtain ⟨x, _, rfl⟩ := List.mem_map.1 hb; rw [low_nat]; omega) []
    simpa [runes_nil] using this
  rw [e, List.map_map, List.map_map]
  have e2 : List.map ((smallN ∘ fun x => x.toNat) ∘ low) l = (l.map lowS).map (·.toNat) := by
    rw [List.map_map]
    apply List.map_congr_left
    intro b _
    simp only [Function.comp]
    rw [lowS_nat, low_nat]
    unfold smallN
    repeat' split
    all_goals omega
  rw [e2]
  exact enc_ascii _ (by
    intro b hb
    obtain ⟨x, _, rfl⟩ := List.mem_map.1 hb
    rw [lowS_nat]
    split <;> omega)
theorem asc_valid (S : List UInt8) (h : ∀ b ∈ S, b.toNat < 128) : Lib.validD S = true := by
  have := valid_ascii S h []
  simpa [Lib.validD_nil] using this
theorem asc_runes (S : List UInt8) (h : ∀ b ∈ S, b.toNat < 128) : runes S = S.map (·.toNat) := by
  have := runes_ascii S h []
  simpa [runes_nil] using this
theorem asc_count (S : List UInt8) (h : ∀ b ∈ S, b.toNat < 128) : (runes S).length = S.length := by rw [asc_runes S h, List.length_map]
theorem odd_valid (S : List UInt8) (K : Nat) (h : ∀ b ∈ S, b.toNat < 128) : Lib.validD (S.take K ++ (128 :: S.drop K)) = false := by
  rw [valid_ascii _ (fun b hb => h b (List.mem_of_mem_take hb)), valid_cont _ _ (by decide)]
theorem odd_count (S : List UInt8) (K : Nat) (h : ∀ b ∈ S, b.toNat < 128) : (runes (S.take K ++ (128 :: S.drop K))).length = S.length + 1 := by
  rw [runes_ascii _ (fun b hb => h b (List.mem_of_mem_take hb)), runes_cont _ _ (by decide), List.length_append, List.length_cons, asc_count _ (fun b hb => h b (List.mem_of_mem_drop hb)), List.length_map, List.length_take, List.length_drop]
  omega
theorem fold_asc_len (S : List UInt8) (h : ∀ b ∈ S, b.toNat < 128) : (fold S).length = S.length := by
  unfold fold
  rw [asc_runes S h, List.map_map]
  have e : ∀ (L : List UInt8), (∀ b ∈ L, b.toNat < 128) → (enc (L.map (smallN ∘ fun x => x.toNat))).length = L.length := by
    intro L
    induction L with
    | nil => intro _; rfl
    | cons b L ih =>
      intro hL
      have hb := hL b (by simp)
      have hsm : smallN b.toNat < 128 := by
        unfold smallN
        repeat' split
        all_goals omega
      rw [List.map_cons, enc_cons, List.length_append, ih (fun x hx => hL x (by simp [hx]))]
      rcases encR_shape (smallN b.toNat) (.inl (by omega)) with ⟨_, a, e, _⟩ | ⟨hr, _⟩ | ⟨hr, _⟩ | ⟨hr, _⟩
      · simp only [Function.comp]; rw [e]; simp; omega
      all_goals omega
  exact e S h
theorem smallZ_low (x : Int) (h0 : 0 ≤ x) (h1 : x < 128) : smallZ x = if 65 ≤ x ∧ x ≤ 90 then x + 32 else x := by
  unfold smallZ
  repeat' split
  all_goals omega

theorem info_u8K : (Tryd.prog.info? 5).map (fun i => (i.zero, i.size, i.bytes)) = some (some (.int .u8 0), 1, 1) := by kernel_rfl

set_option maxRecDepth 100000 in
set_option maxHeartbeats 2000000 in
theorem ascii_loop (v : Value) (l : List UInt8) (at' : Int) (w : World) (hT : Tabs w) (hl : l.length ≤ 1048576) (hv : argRow w v l.length 1 (Lib.byteCells l)) :
    Calls Tryd.prog 7 #[v, .int .i64 at'] w fun e w' => e = .returned (.bool true) ∧ Below w.heap.size w w' := by
  obtain ⟨i0, hi, hz0, hz1, hz2⟩ := info_parts info_u8K
  obtain ⟨_, a, cap, rfl, hlc, hcm, hcell⟩ := hv
  have HC := Lib.hid hcell
  clear hcell
  unfold maxLen at hcm
  go_enter Tryd.func7, Tryd.ntmps7
  go_wp2_with fail
  refine (awake_true _ hT).mono ?_
  rintro e w1 ⟨rfl, hb1⟩
  have hT1 := tabs_below hT hb1
  have hs1 := hb1.size
  go_wp2_with fail
  go_loopw [5, 6, 7] (fun s t i wr => ∃ k : Nat, k ≤ l.length ∧ i = .int .i64 k ∧ wr.ownsRow w1.heap.size 5 1 s k (Lib.byteCells ((l.take k).map low)) ∧
    wr.ownsRow w1.heap.size 5 1 t k (Lib.byteCells ((l.take k).map lowS)) ∧ apartV s t ∧ Below w1.heap.size w1 wr) (fun _ _ i _ => l.length - (intOf i).toNat)
  case atStart => exact ⟨0, by omega, rfl, World.ownsRow_nil _ _ _ _, World.ownsRow_nil _ _ _ _, fun g h => by simp [Value.ownBlock] at h, Below.refl _ _⟩
  case round =>
    obtain ⟨k, hk, rfl, hs, ht, hap, hb⟩ := hrel
    by_cases hlt : k < l.length
    · obtain ⟨b, off, rfl, hbl, hcs⟩ := HC.out (by omega)
      have hc : wr.cell? ⟨b, off + k, none⟩ = some (.int .u8 (l[k].toNat : Int)) := by
        rw [hb.cell (p := ⟨b, off + k, none⟩) (Nat.lt_of_lt_of_le hbl hs1), hb1.cell (p := ⟨b, off + k, none⟩) hbl, hcs k (by simpa [Lib.byteCells] using hlt)]
        simp [Lib.byteCells]
      have hx : l[k].toNat < 256 := l[k].toNat_lt
      have htk : (l.take (k + 1)).map low = (l.take k).map low ++ [low l[k]] := by rw [List.take_succ_eq_append_getElem hlt, List.map_append]; rfl
      have htk2 : (l.take (k + 1)).map lowS = (l.take k).map lowS ++ [lowS l[k]] := by rw [List.take_succ_eq_append_getElem hlt, List.map_append]; rfl
      have HTK := Lib.hid htk
      have HTK2 := Lib.hid htk2
      have hl1 := low_nat l[k]
      have hl2 := lowS_nat l[k]
      clear htk htk2 HC hcs
      generalize low l[k] = c1 at *
      generalize lowS l[k] = c2 at *
      generalize l[k].toNat = x at *
      obtain ⟨X, hX, hX0, hX1⟩ : ∃ X : Int, ((x : Nat) : Int) % 128 = X ∧ 0 ≤ X ∧ X < 128 := ⟨_, rfl, by omega, by omega⟩
      have hl1' : X = (c1.toNat : Int) := by omega
      have hl2' : (if 65 ≤ X ∧ X ≤ 90 then X + 32 else X) = (c2.toNat : Int) := by
        have e : (65 ≤ x % 128 ∧ x % 128 ≤ 90) ↔ (65 ≤ X ∧ X ≤ 90) := by omega
        by_cases h : 65 ≤ X ∧ X ≤ 90
        · rw [if_pos h]; rw [if_pos (e.2 h)] at hl2; omega
        · rw [if_neg h]; rw [if_neg (fun a => h (e.1 a))] at hl2; omega
      have hsm := smallZ_low X hX0 hX1
      rw [hl2'] at hsm
      have cS := fun W => utf_Small X W (by omega) (by omega)
      rw [hsm] at cS
      have HL1 := Lib.hid hl1'
      have HL2 := Lib.hid hl2'
      have hsz := hb.size
      have hlen := hl
      clear hl1 hl2 hl1' hl2' hsm
      obtain ⟨q1, hq1⟩ : ∃ t, decide (65 ≤ X) = t := ⟨_, rfl⟩
      obtain ⟨q2, hq2⟩ : ∃ t, decide (X ≤ 90) = t := ⟨_, rfl⟩
      cases q1 <;> cases q2
      any_goals (exfalso; have h1 := hq1; have h2 := hq2; simp only [decide_eq_true_eq, decide_eq_false_iff_not] at h1 h2; omega)
      all_goals
        have h1 := hq1
        have h2 := hq2
        simp only [decide_eq_true_eq, decide_eq_false_iff_not] at h1 h2
        first | rw [← HL2.out, if_pos (by omega)] at cS | rw [← HL2.out, if_neg (by omega)] at cS
        first
          | (have hY := HL2.out; rw [if_pos (by omega)] at hY; have HY := Lib.hid hY; clear hY)
          | (have hY := HL2.out; rw [if_neg (by omega)] at hY; have HY := Lib.hid hY; clear hY)
        have hne : (X != X) = false := by simp
        have hne' : (X + 32 != X + 32) = false := by simp
        go_wp2_with (first
          | (at_builtin; refine wpList_append_lies _ rfl _ _ 34 rfl w1.heap.size 5 i0 (.int .u8 0) 1 1 Tryd.underlying34 hi hz0 hz1 hz2 rfl (by decide) _ _ _ rfl (hs.alloc _) ⟨wr.heap.size, 0, none⟩ 1 1 [_] rfl rfl (cell_one_new _ _ _) (by simp [Value.oneCell']) (by omega) (by unfold maxLen; omega) (by omega) (by simp; omega) (wr.heap.size + 1) (by simp) ?_; intro g1 cap1 w2 rs1 hg1 hw1 hlt1; have hb2 := grown_below hb hsz _ hs hg1; have rt1 := (ht.alloc _).kept hg1 (kept_apart hap); have hap1 := apartV_new (n := k + 1) (c := cap1) hap hw1 (fun j hj => Nat.lt_succ_of_lt (ht.lt j hj).2); have hsz2 := hb2.size; clear hs)
          | (go_at_call 16; refine (cS _).mono ?_; rintro e w' ⟨rfl, rfl⟩)
          | (at_builtin; refine wpList_append_lies _ rfl _ _ 34 rfl w1.heap.size 5 i0 (.int .u8 0) 1 1 Tryd.underlying34 hi hz0 hz1 hz2 rfl (by decide) _ _ _ rfl (rt1.alloc _) ⟨w2.heap.size, 0, none⟩ 1 1 [_] rfl rfl (cell_one_new _ _ _) (by simp [Value.oneCell']) (by omega) (by unfold maxLen; omega) (by omega) (by simp; omega) (w2.heap.size + 1) (by simp) ?_; intro g2 cap2 w3 rt2 hg2 hw2 hlt2; have hb3 := grown_below hb2 hsz2 _ rt1 hg2; have rs2 := (rs1.alloc _).kept hg2 (kept_apart (apartV_symm hap1)); have hap2 := apartV_new (n := k + 1) (c := cap2) (apartV_symm hap1) hw2 (fun j hj => Nat.lt_succ_of_lt (rs1.lt j hj).2); have hck := owns_last rs2; clear ht))
        go_roundw
        case rel => exact ⟨k + 1, by omega, by go_num, by rw [HTK.out, ← byteCells_snoc _ _ _ HL1.out]; exact rs2, by rw [HTK2.out, ← byteCells_snoc _ _ _ HY.out]; exact rt2, apartV_symm hap2, hb3⟩
        case measure => simp [intOf]; omega
    · obtain rfl : k = l.length := by omega
      rw [List.take_length] at hs ht
      clear HC
      obtain ⟨K, hK, hk'⟩ := umod at' l.length
      have hTr := tabs_below hT1 (hb)
      have hbw := below_seq hb1 hb
      obtain ⟨S, hS⟩ : ∃ S, l.map low = S := ⟨_, rfl⟩
      obtain ⟨T, hTT⟩ : ∃ T, l.map lowS = T := ⟨_, rfl⟩
      have hSl : S.length = l.length := by rw [← hS, List.length_map]
      have hasc : ∀ b ∈ S, b.toNat < 128 := by
        intro b hb
        rw [← hS] at hb
        obtain ⟨x, _, rfl⟩ := List.mem_map.1 hb
        rw [low_nat]; omega
      have hfold : fold S = T := by rw [← hS, ← hTT]; exact fold_low l
      rw [hS] at hs
      rw [hTT] at ht
      have HSL := Lib.hid hSl
      clear hS hTT hcm hlc hap hb1 hT1 hT hSl
      obtain ⟨s1, hs1'⟩ : ∃ s : ByteArray, s = ⟨(S.take K).toArray⟩ := ⟨_, rfl⟩
      obtain ⟨s2, hs2'⟩ : ∃ s : ByteArray, s = ⟨(S.drop K).toArray⟩ := ⟨_, rfl⟩
      have hz1 : s1.size ≤ 1048576 := by rw [hs1']; simp [ByteArray.size]; omega
      have hz2 : s2.size ≤ 1048576 := by rw [hs2']; simp only [ByteArray.size, List.size_toArray, List.length_drop]; have := HSL.out; omega
      have hz3 : s1.size + 1 ≤ 9223372036854775807 := by omega
      have hz4 : (s1 ++ (⟨#[128]⟩ : ByteArray)).size + s2.size ≤ 9223372036854775807 := by rw [ByteArray.size_append]; have : (⟨#[128]⟩ : ByteArray).size = 1 := rfl; omega
      have HS1 := Lib.hid hs1'
      have HS2 := Lib.hid hs2'
      obtain ⟨sa, sc, hsv⟩ := owns_slice hs
      obtain ⟨ta, tc, htv⟩ := owns_slice ht
      subst hsv htv
      have hshape : (sa = none ∧ l.length = 0 ∧ sc = 0) ∨ ∃ g, sa = some ⟨g, 0, none⟩ ∧ l.length ≤ sc ∧ sc ≤ 9223372036854775807 ∧ ∀ j (hj : j < S.length), wr.cell? ⟨g, j, none⟩ = some (.int .u8 (S[j].toNat : Int)) := by
        rcases owns_read hs with ⟨hv, h0, _⟩ | ⟨g, cap', hv, hB, hg, hnc, hcm', hxl, hcl⟩
        · left
          simp only [Value.slice.injEq] at hv
          exact ⟨hv.1, h0, hv.2.2⟩
        · right
          simp only [Value.slice.injEq] at hv
          refine ⟨g, hv.1, by omega, by unfold maxLen at hcm'; omega, fun j hj => ?_⟩
          rw [hcl j (by simpa [Lib.byteCells] using hj)]
          simp [Lib.byteCells]
      rcases hshape with ⟨rfl, h0, rfl⟩ | ⟨g, rfl, hnc, hcm, hcl⟩
      · have hK0 : K = 0 := by omega
        subst hK0
        have hS0 : S = [] := List.eq_nil_of_length_eq_zero (HSL.out.trans h0)
        have c1 : ∀ nq, (convert 34 9 (.slice none 0 0)).run Tryd.prog (wr.drewN nq) = .ok (.string ⟨#[]⟩) (wr.drewN nq) := fun nq => conv_nil Tryd.underlying34 Tryd.underlying5 Tryd.underlying9
        have e1 : s1 = ⟨#[]⟩ := by rw [HS1.out, hS0]; rfl
        have e2 : s2 = ⟨#[]⟩ := by rw [HS2.out, hS0]; rfl
        have e12 : s2 = s1 := by rw [e1, e2]
        rw [← e1] at c1
        have c1b : ∀ nq, (convert 34 9 (.slice none l.length 0)).run Tryd.prog (wr.drewN nq) = .ok (.string s1) (wr.drewN nq) := by rw [h0]; exact c1
        subst e12
        clear e1 e2 hs1' hs2'
        have HS0 := Lib.hid (And.intro hS0 h0)
        clear hS0 h0
        go_wp2_with fail
        refine wp_region_quiet_lit (by kernel_rfl) (by kernel_rfl) ?_
        repeat (any_goals (first | go_big_quiet_step (fail) | quiet_step (fail)))
        refine wpQuiet_nil ?_
        intro _ hw'
        obtain ⟨nq, hw''⟩ := hw'
        subst hw''
        have hs' : (wr.drewN nq).ownsRow w1.heap.size 5 1 (Value.slice none l.length 0) l.length (Lib.byteCells S) := hs
        have ht' : (wr.drewN nq).ownsRow w1.heap.size 5 1 (Value.slice ta l.length tc) l.length (Lib.byteCells T) := ht
        have hTz : Tabs (wr.drewN nq) := hTr
        have hbz : Below w.heap.size w (wr.drewN nq) := below_drewN hbw nq
        clear c1 c1b hs ht hTr hbw hb
        generalize wr.drewN nq = wz at *
        have hcvS : ∀ d os, (convert 34 9 (Value.slice none l.length 0)).run Tryd.prog (Sort.grow (redrawn wz d) os) = .ok (.string ⟨S.toArray⟩) (Sort.grow (redrawn wz d) os) := fun d os => conv_owned Tryd.underlying34 Tryd.underlying5 Tryd.underlying9 (by rw [HSL.out]; exact owns_below hs' (below_regrown wz d os))
        have hTl : T.length = l.length := by rw [← hfold]; exact (fold_asc_len S hasc).trans HSL.out
        have hcvT : ∀ d os, (convert 34 9 (Value.slice ta l.length tc)).run Tryd.prog (Sort.grow (redrawn wz d) os) = .ok (.string ⟨T.toArray⟩) (Sort.grow (redrawn wz d) os) := fun d os => conv_owned Tryd.underlying34 Tryd.underlying5 Tryd.underlying9 (by rw [hTl]; exact owns_below ht' (below_regrown wz d os))
        have hodd : (s2 ++ (⟨#[128]⟩ : ByteArray) ++ s2).data.toList = S.take 0 ++ (128 :: S.drop 0) := by
          rw [ByteArray.data_append, ByteArray.data_append, HS2.out, HS0.out.1]; simp
        have cV := fun W hT => utf_Valid ⟨S.toArray⟩ W (by simp only [ByteArray.size, List.size_toArray]; have := HSL.out; unfold maxLen; omega) hT
        have cC := fun W => utf_Count ⟨S.toArray⟩ W (by simp only [ByteArray.size, List.size_toArray]; have := HSL.out; unfold maxLen; omega)
        have cF := fun W => utf_Fold ⟨S.toArray⟩ W (by simp only [ByteArray.size, List.size_toArray]; have := HSL.out; unfold maxLen; omega) (by rw [List.toList_toArray, hfold, hTl]; omega)
        have cVo := fun W hT => utf_Valid (s2 ++ (⟨#[128]⟩ : ByteArray) ++ s2) W (by rw [ByteArray.size_append, ByteArray.size_append]; have : (⟨#[128]⟩ : ByteArray).size = 1 := rfl; unfold maxLen; omega) hT
        have cCo := fun W => utf_Count (s2 ++ (⟨#[128]⟩ : ByteArray) ++ s2) W (by rw [ByteArray.size_append, ByteArray.size_append]; have : (⟨#[128]⟩ : ByteArray).size = 1 := rfl; unfold maxLen; omega)
        rw [List.toList_toArray, asc_valid S hasc] at cV
        rw [List.toList_toArray, asc_count S hasc, HSL.out] at cC
        rw [List.toList_toArray, hfold] at cF
        rw [hodd, odd_valid S 0 hasc] at cVo
        rw [hodd, odd_count S 0 hasc, HSL.out] at cCo
        have hcast : ((l.length + 1 : Nat) : Int) = (l.length : Int) + 1 := by omega
        rw [hcast] at cCo
        have dV : ∀ d os, Calls Tryd.prog 10 #[.string ⟨S.toArray⟩] (Sort.grow (redrawn wz d) os) fun e w'' => e = .returned (.bool true) ∧ ∃ p : Regrown, w'' = Sort.grow (redrawn wz p.d) p.os := fun d os => Calls.regrown_of (cV _ (tabs_below hTz (below_regrown wz d os)))
        have dC : ∀ d os, Calls Tryd.prog 11 #[.string ⟨S.toArray⟩] (Sort.grow (redrawn wz d) os) fun e w'' => e = .returned (.int .i64 l.length) ∧ ∃ p : Regrown, w'' = Sort.grow (redrawn wz p.d) p.os := fun d os => Calls.regrown_of (cC _)
        have dF : ∀ d os, Calls Tryd.prog 12 #[.string ⟨S.toArray⟩] (Sort.grow (redrawn wz d) os) fun e w'' => e = .returned (.string ⟨T.toArray⟩) ∧ ∃ p : Regrown, w'' = Sort.grow (redrawn wz p.d) p.os := fun d os => Calls.regrown_of (cF _)
        have dVo : ∀ d os, Calls Tryd.prog 10 #[.string (s2 ++ (⟨#[128]⟩ : ByteArray) ++ s2)] (Sort.grow (redrawn wz d) os) fun e w'' => e = .returned (.bool false) ∧ ∃ p : Regrown, w'' = Sort.grow (redrawn wz p.d) p.os := fun d os => Calls.regrown_of (cVo _ (tabs_below hTz (below_regrown wz d os)))
        have dCo : ∀ d os, Calls Tryd.prog 11 #[.string (s2 ++ (⟨#[128]⟩ : ByteArray) ++ s2)] (Sort.grow (redrawn wz d) os) fun e w'' => e = .returned (.int .i64 ((l.length : Int) + 1)) ∧ ∃ p : Regrown, w'' = Sort.grow (redrawn wz p.d) p.os := fun d os => Calls.regrown_of (cCo _)
        have hne1 : ((l.length : Int) == (l.length : Int)) = true := by simp
        have hne2 : ((l.length : Int) + 1 == (l.length : Int) + 1) = true := by simp
        clear hodd hTl hfold hasc hcast hs' ht' cV cC cF cVo cCo
        generalize s2 ++ (⟨#[128]⟩ : ByteArray) ++ s2 = odd at *
        generalize (⟨S.toArray⟩ : ByteArray) = SS at *
        generalize (⟨T.toArray⟩ : ByteArray) = TT at *
        go_wp2_with fail
        refine wp_region_quiet_below (by kernel_rfl) (by kernel_rfl) ?_
        repeat (go_big_quiet_step (first | with_reducible exact dV _ _ | with_reducible exact dC _ _ | with_reducible exact dF _ _ | with_reducible exact dVo _ _ | with_reducible exact dCo _ _))
        refine wpQuiet_nil ?_
        intro _ hw'
        obtain ⟨⟨dq, osq⟩, hw''⟩ := hw'
        subst hw''
        go_wp2
        go_ret
        exact ⟨rfl, below_seq hbz (below_regrown wz dq osq)⟩

      · have hcells : ∀ nq j (hj : j < S.length), (wr.drewN nq).cell? ⟨g, j, none⟩ = some (.int .u8 (S[j].toNat : Int)) := fun nq j hj => hcl j hj
        have c1 : ∀ nq, (convert 34 9 (.slice (some ⟨g, 0, none⟩) K sc)).run Tryd.prog (wr.drewN nq) = .ok (.string s1) (wr.drewN nq) := by
          intro nq
          have e : (S.take K).length = K := by have := HSL.out; rw [List.length_take]; omega
          have := conv_cells (P := Tryd.prog) (w := wr.drewN nq) (g := g) (off := 0) (cap := sc) (l := S.take K) Tryd.underlying34 Tryd.underlying5 Tryd.underlying9 (fun j hj => by
            rw [List.length_take] at hj
            rw [Nat.zero_add, hcells nq j (by omega)]; simp)
          rw [e, ← hs1'] at this
          exact this
        have c2 : ∀ nq, (convert 34 9 (.slice (some ⟨g, K, none⟩) (l.length - K) (sc - K))).run Tryd.prog (wr.drewN nq) = .ok (.string s2) (wr.drewN nq) := by
          intro nq
          have e : (S.drop K).length = l.length - K := by rw [List.length_drop, HSL.out]
          have := conv_cells (P := Tryd.prog) (w := wr.drewN nq) (g := g) (off := K) (cap := sc - K) (l := S.drop K) Tryd.underlying34 Tryd.underlying5 Tryd.underlying9 (fun j hj => by
            rw [List.length_drop] at hj
            rw [hcells nq (K + j) (by omega)]; simp)
          rw [e, ← hs2'] at this
          exact this
        have hK' : (K : Int) ≤ (l.length : Int) := by omega
        have hK'' : (K : Int) ≤ (sc : Int) := by omega
        have hK0 : (0 : Int) ≤ (K : Int) := by omega
        clear hcells hcl
        clear hs1' hs2'
        by_cases hKc : K = sc
        · subst hKc
          have hll : l.length = K := by omega
          have d0 : ∀ nq, (convert 34 9 (.slice (some ⟨g, 0, none⟩) 0 0)).run Tryd.prog (wr.drewN nq) = .ok (.string s2) (wr.drewN nq) := by
            intro nq
            have e : S.drop K = [] := List.drop_of_length_le (by rw [HSL.out]; omega)
            rw [HS2.out, e]
            exact conv_nil Tryd.underlying34 Tryd.underlying5 Tryd.underlying9
          clear c2 hll
          have hKK : ((K : Nat) == K) = true := by simp
          go_wp2_with fail
          refine wp_region_quiet_lit (by kernel_rfl) (by kernel_rfl) ?_
          repeat (any_goals (first | go_big_quiet_step (fail) | quiet_step (fail)))
          refine wpQuiet_nil ?_
          intro _ hw'
          obtain ⟨nq, hw''⟩ := hw'
          subst hw''
          have hs' : (wr.drewN nq).ownsRow w1.heap.size 5 1 (Value.slice (some ⟨g, 0, none⟩) l.length K) l.length (Lib.byteCells S) := hs
          have ht' : (wr.drewN nq).ownsRow w1.heap.size 5 1 (Value.slice ta l.length tc) l.length (Lib.byteCells T) := ht
          have hTz : Tabs (wr.drewN nq) := hTr
          have hbz : Below w.heap.size w (wr.drewN nq) := below_drewN hbw nq
          clear c1 d0 hs ht hTr hbw hb
          generalize wr.drewN nq = wz at *
          have hcvS : ∀ d os, (convert 34 9 (Value.slice (some ⟨g, 0, none⟩) l.length K)).run Tryd.prog (Sort.grow (redrawn wz d) os) = .ok (.string ⟨S.toArray⟩) (Sort.grow (redrawn wz d) os) := fun d os => conv_owned Tryd.underlying34 Tryd.underlying5 Tryd.underlying9 (by rw [HSL.out]; exact owns_below hs' (below_regrown wz d os))
          have hTl : T.length = l.length := by rw [← hfold]; exact (fold_asc_len S hasc).trans HSL.out
          have hcvT : ∀ d os, (convert 34 9 (Value.slice ta l.length tc)).run Tryd.prog (Sort.grow (redrawn wz d) os) = .ok (.string ⟨T.toArray⟩) (Sort.grow (redrawn wz d) os) := fun d os => conv_owned Tryd.underlying34 Tryd.underlying5 Tryd.underlying9 (by rw [hTl]; exact owns_below ht' (below_regrown wz d os))
          have hodd : (s1 ++ (⟨#[128]⟩ : ByteArray) ++ s2).data.toList = S.take K ++ (128 :: S.drop K) := by
            rw [ByteArray.data_append, ByteArray.data_append, HS1.out, HS2.out]; simp
          have cV := fun W hT => utf_Valid ⟨S.toArray⟩ W (by simp only [ByteArray.size, List.size_toArray]; have := HSL.out; unfold maxLen; omega) hT
          have cC := fun W => utf_Count ⟨S.toArray⟩ W (by simp only [ByteArray.size, List.size_toArray]; have := HSL.out; unfold maxLen; omega)
          have cF := fun W => utf_Fold ⟨S.toArray⟩ W (by simp only [ByteArray.size, List.size_toArray]; have := HSL.out; unfold maxLen; omega) (by rw [List.toList_toArray, hfold, hTl]; omega)
          have cVo := fun W hT => utf_Valid (s1 ++ (⟨#[128]⟩ : ByteArray) ++ s2) W (by rw [ByteArray.size_append, ByteArray.size_append]; have : (⟨#[128]⟩ : ByteArray).size = 1 := rfl; unfold maxLen; omega) hT
          have cCo := fun W => utf_Count (s1 ++ (⟨#[128]⟩ : ByteArray) ++ s2) W (by rw [ByteArray.size_append, ByteArray.size_append]; have : (⟨#[128]⟩ : ByteArray).size = 1 := rfl; unfold maxLen; omega)
          rw [List.toList_toArray, asc_valid S hasc] at cV
          rw [List.toList_toArray, asc_count S hasc, HSL.out] at cC
          rw [List.toList_toArray, hfold] at cF
          rw [hodd, odd_valid S K hasc] at cVo
          rw [hodd, odd_count S K hasc, HSL.out] at cCo
          have hcast : ((l.length + 1 : Nat) : Int) = (l.length : Int) + 1 := by omega
          rw [hcast] at cCo
          have dV : ∀ d os, Calls Tryd.prog 10 #[.string ⟨S.toArray⟩] (Sort.grow (redrawn wz d) os) fun e w'' => e = .returned (.bool true) ∧ ∃ p : Regrown, w'' = Sort.grow (redrawn wz p.d) p.os := fun d os => Calls.regrown_of (cV _ (tabs_below hTz (below_regrown wz d os)))
          have dC : ∀ d os, Calls Tryd.prog 11 #[.string ⟨S.toArray⟩] (Sort.grow (redrawn wz d) os) fun e w'' => e = .returned (.int .i64 l.length) ∧ ∃ p : Regrown, w'' = Sort.grow (redrawn wz p.d) p.os := fun d os => Calls.regrown_of (cC _)
          have dF : ∀ d os, Calls Tryd.prog 12 #[.string ⟨S.toArray⟩] (Sort.grow (redrawn wz d) os) fun e w'' => e = .returned (.string ⟨T.toArray⟩) ∧ ∃ p : Regrown, w'' = Sort.grow (redrawn wz p.d) p.os := fun d os => Calls.regrown_of (cF _)
          have dVo : ∀ d os, Calls Tryd.prog 10 #[.string (s1 ++ (⟨#[128]⟩ : ByteArray) ++ s2)] (Sort.grow (redrawn wz d) os) fun e w'' => e = .returned (.bool false) ∧ ∃ p : Regrown, w'' = Sort.grow (redrawn wz p.d) p.os := fun d os => Calls.regrown_of (cVo _ (tabs_below hTz (below_regrown wz d os)))
          have dCo : ∀ d os, Calls Tryd.prog 11 #[.string (s1 ++ (⟨#[128]⟩ : ByteArray) ++ s2)] (Sort.grow (redrawn wz d) os) fun e w'' => e = .returned (.int .i64 ((l.length : Int) + 1)) ∧ ∃ p : Regrown, w'' = Sort.grow (redrawn wz p.d) p.os := fun d os => Calls.regrown_of (cCo _)
          have hne1 : ((l.length : Int) == (l.length : Int)) = true := by simp
          have hne2 : ((l.length : Int) + 1 == (l.length : Int) + 1) = true := by simp
          clear hodd hTl hfold hasc hcast hs' ht' cV cC cF cVo cCo
          generalize s1 ++ (⟨#[128]⟩ : ByteArray) ++ s2 = odd at *
          generalize (⟨S.toArray⟩ : ByteArray) = SS at *
          generalize (⟨T.toArray⟩ : ByteArray) = TT at *
          go_wp2_with fail
          refine wp_region_quiet_below (by kernel_rfl) (by kernel_rfl) ?_
          repeat (go_big_quiet_step (first | with_reducible exact dV _ _ | with_reducible exact dC _ _ | with_reducible exact dF _ _ | with_reducible exact dVo _ _ | with_reducible exact dCo _ _))
          refine wpQuiet_nil ?_
          intro _ hw'
          obtain ⟨⟨dq, osq⟩, hw''⟩ := hw'
          subst hw''
          go_wp2
          go_ret
          exact ⟨rfl, below_seq hbz (below_regrown wz dq osq)⟩
        · have hKc' : ((K : Nat) == sc) = false := by simpa using hKc
          go_wp2_with fail
          refine wp_region_quiet_lit (by kernel_rfl) (by kernel_rfl) ?_
          repeat (any_goals (first | go_big_quiet_step (fail) | quiet_step (fail)))
          refine wpQuiet_nil ?_
          intro _ hw'
          obtain ⟨nq, hw''⟩ := hw'
          subst hw''
          have hs' : (wr.drewN nq).ownsRow w1.heap.size 5 1 (Value.slice (some ⟨g, 0, none⟩) l.length sc) l.length (Lib.byteCells S) := hs
          have ht' : (wr.drewN nq).ownsRow w1.heap.size 5 1 (Value.slice ta l.length tc) l.length (Lib.byteCells T) := ht
          have hTz : Tabs (wr.drewN nq) := hTr
          have hbz : Below w.heap.size w (wr.drewN nq) := below_drewN hbw nq
          clear c1 c2 hs ht hTr hbw hb
          generalize wr.drewN nq = wz at *
          have hcvS : ∀ d os, (convert 34 9 (Value.slice (some ⟨g, 0, none⟩) l.length sc)).run Tryd.prog (Sort.grow (redrawn wz d) os) = .ok (.string ⟨S.toArray⟩) (Sort.grow (redrawn wz d) os) := fun d os => conv_owned Tryd.underlying34 Tryd.underlying5 Tryd.underlying9 (by rw [HSL.out]; exact owns_below hs' (below_regrown wz d os))
          have hTl : T.length = l.length := by rw [← hfold]; exact (fold_asc_len S hasc).trans HSL.out
          have hcvT : ∀ d os, (convert 34 9 (Value.slice ta l.length tc)).run Tryd.prog (Sort.grow (redrawn wz d) os) = .ok (.string ⟨T.toArray⟩) (Sort.grow (redrawn wz d) os) := fun d os => conv_owned Tryd.underlying34 Tryd.underlying5 Tryd.underlying9 (by rw [hTl]; exact owns_below ht' (below_regrown wz d os))
          have hodd : (s1 ++ (⟨#[128]⟩ : ByteArray) ++ s2).data.toList = S.take K ++ (128 :: S.drop K) := by
            rw [ByteArray.data_append, ByteArray.data_append, HS1.out, HS2.out]; simp
          have cV := fun W hT => utf_Valid ⟨S.toArray⟩ W (by simp only [ByteArray.size, List.size_toArray]; have := HSL.out; unfold maxLen; omega) hT
          have cC := fun W => utf_Count ⟨S.toArray⟩ W (by simp only [ByteArray.size, List.size_toArray]; have := HSL.out; unfold maxLen; omega)
          have cF := fun W => utf_Fold ⟨S.toArray⟩ W (by simp only [ByteArray.size, List.size_toArray]; have := HSL.out; unfold maxLen; omega) (by rw [List.toList_toArray, hfold, hTl]; omega)
          have cVo := fun W hT => utf_Valid (s1 ++ (⟨#[128]⟩ : ByteArray) ++ s2) W (by rw [ByteArray.size_append, ByteArray.size_append]; have : (⟨#[128]⟩ : ByteArray).size = 1 := rfl; unfold maxLen; omega) hT
          have cCo := fun W => utf_Count (s1 ++ (⟨#[128]⟩ : ByteArray) ++ s2) W (by rw [ByteArray.size_append, ByteArray.size_append]; have : (⟨#[128]⟩ : ByteArray).size = 1 := rfl; unfold maxLen; omega)
          rw [List.toList_toArray, asc_valid S hasc] at cV
          rw [List.toList_toArray, asc_count S hasc, HSL.out] at cC
          rw [List.toList_toArray, hfold] at cF
          rw [hodd, odd_valid S K hasc] at cVo
          rw [hodd, odd_count S K hasc, HSL.out] at cCo
          have hcast : ((l.length + 1 : Nat) : Int) = (l.length : Int) + 1 := by omega
          rw [hcast] at cCo
          have dV : ∀ d os, Calls Tryd.prog 10 #[.string ⟨S.toArray⟩] (Sort.grow (redrawn wz d) os) fun e w'' => e = .returned (.bool true) ∧ ∃ p : Regrown, w'' = Sort.grow (redrawn wz p.d) p.os := fun d os => Calls.regrown_of (cV _ (tabs_below hTz (below_regrown wz d os)))
          have dC : ∀ d os, Calls Tryd.prog 11 #[.string ⟨S.toArray⟩] (Sort.grow (redrawn wz d) os) fun e w'' => e = .returned (.int .i64 l.length) ∧ ∃ p : Regrown, w'' = Sort.grow (redrawn wz p.d) p.os := fun d os => Calls.regrown_of (cC _)
          have dF : ∀ d os, Calls Tryd.prog 12 #[.string ⟨S.toArray⟩] (Sort.grow (redrawn wz d) os) fun e w'' => e = .returned (.string ⟨T.toArray⟩) ∧ ∃ p : Regrown, w'' = Sort.grow (redrawn wz p.d) p.os := fun d os => Calls.regrown_of (cF _)
          have dVo : ∀ d os, Calls Tryd.prog 10 #[.string (s1 ++ (⟨#[128]⟩ : ByteArray) ++ s2)] (Sort.grow (redrawn wz d) os) fun e w'' => e = .returned (.bool false) ∧ ∃ p : Regrown, w'' = Sort.grow (redrawn wz p.d) p.os := fun d os => Calls.regrown_of (cVo _ (tabs_below hTz (below_regrown wz d os)))
          have dCo : ∀ d os, Calls Tryd.prog 11 #[.string (s1 ++ (⟨#[128]⟩ : ByteArray) ++ s2)] (Sort.grow (redrawn wz d) os) fun e w'' => e = .returned (.int .i64 ((l.length : Int) + 1)) ∧ ∃ p : Regrown, w'' = Sort.grow (redrawn wz p.d) p.os := fun d os => Calls.regrown_of (cCo _)
          have hne1 : ((l.length : Int) == (l.length : Int)) = true := by simp
          have hne2 : ((l.length : Int) + 1 == (l.length : Int) + 1) = true := by simp
          clear hodd hTl hfold hasc hcast hs' ht' cV cC cF cVo cCo
          generalize s1 ++ (⟨#[128]⟩ : ByteArray) ++ s2 = odd at *
          generalize (⟨S.toArray⟩ : ByteArray) = SS at *
          generalize (⟨T.toArray⟩ : ByteArray) = TT at *
          go_wp2_with fail
          refine wp_region_quiet_below (by kernel_rfl) (by kernel_rfl) ?_
          repeat (go_big_quiet_step (first | with_reducible exact dV _ _ | with_reducible exact dC _ _ | with_reducible exact dF _ _ | with_reducible exact dVo _ _ | with_reducible exact dCo _ _))
          refine wpQuiet_nil ?_
          intro _ hw'
          obtain ⟨⟨dq, osq⟩, hw''⟩ := hw'
          subst hw''
          go_wp2
          go_ret
          exact ⟨rfl, below_seq hbz (below_regrown wz dq osq)⟩

end Go.Proofs.YtfekdadkbclkfaaDoor
