/-
  strings.ContainsRune and IndexRune at an ASCII text and any rune.
-/
import Derived.Test.YthmhmckkkceclaaDoorRexAl
import Derived.Test.YthmhmckkkceclaaDoorUtfAll
import Derived.Test.YthmhmckkkceclaaDoorShelf
import Derived.WalkMore
import Derived.IntWalk
import Derived.Lib.IndexLaws
import Derived.Lib.TrimAscii
import Derived.Laws.OwnMore
namespace Go.Proofs.YthmhmckkkceclaaDoor
open Go.RowKit
theorem u8_ofX (n : Nat) (a : UInt8) (h : a.toNat = n) : UInt8.ofNat n = a := by
  subst h; simp
theorem utf8_encodeX (r : Nat) (h : scalar r) : Utf8.encode (r : Int) = ⟨(encR r).toArray⟩ := by
  have hv : Utf8.valid (r : Int) = true := by
    unfold scalar at h
    simp only [Utf8.valid, Bool.or_eq_true, Bool.and_eq_true, decide_eq_true_eq]
    omega
  unfold Utf8.encode
  simp only [hv, if_true, Int.toNat_natCast]
  rcases encR_shape r h with ⟨hr, a, e, ha⟩ | ⟨hr, hr', a, b, e, ha, hb⟩ | ⟨hr, hr', a, b, c, e, ha, hb, hc⟩ | ⟨hr, hr', a, b, c, d, e, ha, hb, hc, hd⟩
  · rw [if_pos (by omega), e, u8_ofX _ a ha]
  · rw [if_neg (by omega), if_pos (by omega), e, u8_ofX _ a ha, u8_ofX _ b hb]
  · rw [if_neg (by omega), if_neg (by omega), if_pos (by omega), e, u8_ofX _ a ha, u8_ofX _ b hb, u8_ofX _ c hc]
  · rw [if_neg (by omega), if_neg (by omega), if_neg (by omega), e, u8_ofX _ a ha, u8_ofX _ b hb, u8_ofX _ c hc, u8_ofX _ d hd]
/-- The last byte of a rune that is not ASCII. -/
theorem encode_last (r : Nat) (hr : scalar r) (h : 128 ≤ r) : ∃ (E : ByteArray) (n : Nat), Utf8.encode (r : Int) = E ∧ E.size = n + 1 ∧ 1 ≤ n ∧ n ≤ 3 ∧ ∀ h : n < E.size, 128 ≤ E[n].toNat := by
  rcases encR_shape r hr with ⟨h1, _⟩ | ⟨_, _, a, b, e, ha, hb⟩ | ⟨_, _, a, b, c, e, ha, hb, hc⟩ | ⟨_, _, a, b, c, d, e, ha, hb, hc, hd⟩
  · omega
  · exact ⟨_, 1, by rw [utf8_encodeX r hr, e], rfl, by omega, by omega, fun _ => by show 128 ≤ b.toNat; omega⟩
  · exact ⟨_, 2, by rw [utf8_encodeX r hr, e], rfl, by omega, by omega, fun _ => by show 128 ≤ c.toNat; omega⟩
  · exact ⟨_, 3, by rw [utf8_encodeX r hr, e], rfl, by omega, by omega, fun _ => by show 128 ≤ d.toNat; omega⟩
theorem indexByte_out : ∀ (l : List UInt8) (c : UInt8), c ∉ l → Lib.indexByte l c = -1 := by
  intro l c hc
  have h1 := Lib.indexByte_ge l c
  by_cases h : Lib.indexByte l c = -1
  · exact h
  · obtain ⟨o, ho⟩ : ∃ o : Nat, Lib.indexByte l c = o := ⟨(Lib.indexByte l c).toNat, by omega⟩
    exact absurd (List.mem_of_getElem? (Lib.indexByte_some ho).1) hc
theorem indexByte_in (l : List UInt8) (c : UInt8) : decide (0 ≤ Lib.indexByte l c) = decide (c ∈ l) := by
  by_cases hc : c ∈ l
  · rw [decide_eq_true hc]
    refine decide_eq_true ?_
    have h1 := Lib.indexByte_ge l c
    by_cases h : Lib.indexByte l c = -1
    · obtain ⟨k, hk, e⟩ := List.getElem_of_mem hc
      exact absurd (by rw [List.getElem?_eq_getElem hk, e]) (Lib.indexByte_none h k)
    · omega
  · rw [indexByte_out l c hc, decide_eq_false hc]
    rfl
theorem no_byte (s : ByteArray) (k : Nat) (c : Nat) (hc : 128 ≤ c) (hc2 : c < 256) (hsa : ∀ i (h : i < s.size), s[i].toNat < 128) : Lib.indexByte (s.extract k s.size).data.toList ((c : Int)).toNat.toUInt8 = -1 := by
  refine indexByte_out _ _ fun hm => ?_
  rw [ext_list'] at hm
  obtain ⟨i, hi, e⟩ := List.getElem_of_mem (List.mem_of_mem_drop hm)
  have hi' : i < s.size := by simpa [ByteArray.size_data] using hi
  have h1 := hsa i hi'
  have h2 : s.data.toList[i] = s[i] := rfl
  rw [h2] at e
  rw [e, byteN _ (by omega) (by omega)] at h1
  omega
set_option maxRecDepth 100000 in
set_option maxHeartbeats 1000000 in
theorem index_rune_out (s : ByteArray) (r : Nat) (w : World) (hr : scalar r) (h : 128 ≤ r) (h2 : r ≠ 65533) (hs : 4 ≤ s.size) (hs2 : s.size ≤ 1000) (hsa : ∀ i (h : i < s.size), s[i].toNat < 128) :
    Calls Tryd.prog 50 #[.string s, .int .i32 (r : Int)] w fun e w' => e = .returned (.int .i64 (-1)) ∧ Below w.heap.size w w' := by
  have h3 : ((r : Int) == 65533) = false := by simp; omega
  have h4 : decide ((r : Int) < 128) = false := by simp; omega
  have h5 : decide (0 ≤ (r : Int)) = true := by simp
  have hv : Lib.validRune (r : Int) = true := by
    unfold Lib.validRune
    unfold scalar at hr
    exact decide_eq_true (by omega)
  obtain ⟨E, n, hE, hn, hn1, hn2, hE2⟩ : ∃ (E : ByteArray) (n : Nat), Utf8.encode (r : Int) = E ∧ E.size = n + 1 ∧ 1 ≤ n ∧ n ≤ 3 ∧ ∀ h : n < E.size, 128 ≤ E[n].toNat := encode_last r hr h
  have hnE : n < E.size := by omega
  have hns : n < s.size := by omega
  have hge := hE2 hnE
  have hlt := hsa n hns
  have hlt2 : E[n].toNat < 256 := E[n].toNat_lt
  have hne : (((s[n].toNat : Nat) : Int) != ((E[n].toNat : Nat) : Int)) = true := by simp; omega
  have CI := fun W => Tryd.strings_IndexByte (s.extract (n + 1) s.size) (E[n].toNat : Int) W
  rw [no_byte s (n + 1) _ hge hlt2 hsa] at CI
  have hle : n + 1 ≤ s.size := by omega
  clear hE2 hsa h2 hr h
  go_enter Tryd.func50, Tryd.ntmps50
  go_wp2_with (go_at_call 56; refine (Tryd.utf8_ValidRune _ _).mono ?_; rw [hv]; rintro e w' ⟨rfl, hw⟩; rw [hw])
  go_step3
  go_upto_region 6 with fail
  go_loop [9, 10, 11] (fun i f o => i = .int .i64 (n : Int)) (fun _ _ _ => 0)
  case atStart => rfl
  case round =>
    subst hrel
    clear hn
    go_upto_region 6 with fail
    go_step3
    go_upto_region 6 with fail
    go_quiet (fail)
    go_wp2_with fail
    have b1 : IntKind.i64.wrap ((n : Int) + 1) = (n : Int) + 1 := IntWalk.i64_in _ (by omega)
    have b2 : 0 ≤ (n : Int) + 1 := by omega
    have b4 : (n : Int) + 1 ≤ (s.size : Int) := by omega
    have b3 : ((n : Int) + 1).toNat = n + 1 := by omega
    go_quiet ((go_at_call 55; exact quiet_add_same (CI _)))
    clear b1 b2 b3 b4
    go_wp2
    have key : ∀ (a : Act) (w' : World), bodyPost Tryd.prog Tryd.f50 (fun e w' => e = Ending.returned (Value.int IntKind.i64 (-1)) ∧ Below w.heap.size w w') .ret a w' → bodyPost Tryd.prog Tryd.f50 (fun e w' => e = Ending.returned (Value.int IntKind.i64 (-1)) ∧ Below w.heap.size w w') .ret a w' := fun _ _ h => h
    refine key _ _ ?_
    go_ret
    exact ⟨rfl, by exact below_dN (Below.refl _ _) _⟩
theorem decode_asc (s : ByteArray) (pos : Nat) (hp : pos < s.size) (h : s[pos].toNat < 128) : Utf8.decode s pos = (s[pos].toNat, 1) := by
  rw [decode_drop, List.drop_eq_getElem_cons (by simpa [ByteArray.size_data] using hp)]
  exact Lib.decodeL_ascii _ _ h
set_option maxRecDepth 100000 in
set_option maxHeartbeats 1000000 in
theorem index_rune_bad (s : ByteArray) (w : World) (_hs2 : s.size ≤ 1000) (hsa : ∀ i (h : i < s.size), s[i].toNat < 128) :
    Calls Tryd.prog 50 #[.string s, .int .i32 65533] w fun e w' => e = .returned (.int .i64 (-1)) ∧ Below w.heap.size w w' := by
  have HSA := Lib.hid hsa
  clear hsa
  go_enter Tryd.func50, Tryd.ntmps50
  go_wp2_with fail
  go_loopw [5, 6] (fun i r w' => ∃ (pos : Nat), w' = w.iter s pos) (fun _ _ w' => s.size - w'.iterPos w.heap.size)
  case atStart => exact ⟨0, rfl⟩
  case round =>
    obtain ⟨pos, rfl⟩ := hrel
    by_cases hp : pos < s.size
    · have hnx : ∀ ty, (Instr.next (.pointer (some ⟨w.heap.size, 0, none⟩)) true ty).run Tryd.prog (w.iter s pos) = _ := fun ty => run_next_any w s pos ty hp
      have ha := HSA.out pos hp
      rw [decode_asc s pos hp ha] at hnx
      have hne : (((s[pos].toNat : Nat) : Int) == 65533) = false := by simp; omega
      go_wp2
      go_roundw
      case rel => exact ⟨pos + 1, rfl⟩
      case measure => simp; omega
    · have hnx : ∀ ty, (Instr.next (.pointer (some ⟨w.heap.size, 0, none⟩)) true ty).run Tryd.prog (w.iter s pos) = _ := fun ty => run_next_end w s pos ty hp
      go_wp2
      go_ret
      exact ⟨rfl, below_iter w s pos⟩
/-- Is a rune one of an ASCII text's? -/
theorem contains_rune (s : ByteArray) (l : List Int) (r : Nat) (w : World) (hr : scalar r) (hs : 4 ≤ s.size) (hs2 : s.size ≤ 1000) (hsa : ∀ i (h : i < s.size), s[i].toNat < 128) (hl : s.data.toList.map (fun b => (b.toNat : Int)) = l) :
    Calls Tryd.prog 43 #[.string s, .int .i32 (r : Int)] w fun e w' => e = .returned (.bool (decide ((r : Int) ∈ l))) ∧ Below w.heap.size w w' := by
  by_cases h1 : r < 128
  · refine (Tryd.strings_ContainsRune_ascii s (r : Int) w (by omega) (by omega)).mono ?_
    rintro e w' ⟨rfl, rfl⟩
    refine ⟨?_, Below.refl _ _⟩
    rw [indexByte_in]
    congr 2
    refine decide_eq_decide.2 ?_
    rw [← hl, List.mem_map]
    have hb : ((r : Int).toNat.toUInt8).toNat = r := by rw [byteN _ (by omega) (by omega)]; omega
    constructor
    · intro h
      exact ⟨_, h, by rw [hb]⟩
    · rintro ⟨b, hb1, hb2⟩
      have : b = (r : Int).toNat.toUInt8 := UInt8.toNat_inj.1 (by rw [hb]; omega)
      rw [← this]
      exact hb1
  · have hno : decide ((r : Int) ∈ l) = false := decide_eq_false fun hm => by
      rw [← hl, List.mem_map] at hm
      obtain ⟨b, hb1, hb2⟩ := hm
      obtain ⟨i, hi, e⟩ := List.getElem_of_mem hb1
      have hi' : i < s.size := by simpa [ByteArray.size_data] using hi
      have h3 := hsa i hi'
      have h4 : s.data.toList[i] = s[i] := rfl
      rw [h4] at e
      rw [e] at h3
      omega
    have C : Calls Tryd.prog 50 #[.string s, .int .i32 (r : Int)] w fun e w' => e = .returned (.int .i64 (-1)) ∧ Below w.heap.size w w' := by
      by_cases h2 : r = 65533
      · subst h2
        exact index_rune_bad s w hs2 hsa
      · exact index_rune_out s r w hr (by omega) h2 hs hs2 hsa
    rw [hno]
    clear hno hl hsa
    go_enter Tryd.func43, Tryd.ntmps43
    go_wp2_with (go_at_call 50; refine C.mono ?_; rintro e w' ⟨rfl, hb⟩)
    go_ret
    exact ⟨rfl, hb⟩
end Go.Proofs.YthmhmckkkceclaaDoor
/-
  The program's parser: escape, member.
-/
namespace Go.Proofs.YthmhmckkkceclaaDoor
open Go.RowKit
/-- What a reading of pairs leaves, the nodes as they are. -/
def RunEndO (p : Nat) (w : World) (ov : Value) (Z : List NdL) (deep most : Nat) : Res (List Int) → Ending → World → Prop
  | none, e, w' => Fell p w e w'
  | some (t, r), e, w' => ∃ v, e = .returned v ∧ w'.ownsRow w.heap.size 21 1 v t.length (t.map rCell) ∧ PSo ov Z w' p r deep most ∧ w.grownBy w' (some p)
/-- What a reading of pairs leaves. -/
def RunEnd (X : Nat → Prop) (p : Nat) (w : World) (L : List Nd) (deep most : Nat) : Res (List Int) → Ending → World → Prop
  | none, e, w' => Fell p w e w'
  | some (t, r), e, w' => ∃ v, e = .returned v ∧ w'.ownsRow w.heap.size 21 1 v t.length (t.map rCell) ∧ PS X w' p r L deep most ∧ Mvd p w w'
theorem RunEndO.run {X : Nat → Prop} {p : Nat} {w : World} {ov : Value} {Z : List NdL} {deep most : Nat} {s : List Int} {x : Res (List Int)} {e : Ending} {w' : World} (h0 : PSo ov Z w p s deep most) (hf : Free X Z) (h : RunEndO p w ov Z deep most x e w') : RunEnd X p w (Z.map Prod.fst) deep most x e w' := by
  cases x with
  | none => exact h
  | some x =>
    obtain ⟨v, h1, h2, h3, h4⟩ := h
    exact ⟨v, h1, h2, h3.ps hf, h0.mvd h4⟩
theorem run_new {p : Nat} {w w1 : World} {ov : Value} {Z : List NdL} {deep most : Nat} {r : List Int} (t : List Int) (h : PSo ov Z w1 p r deep most) (hm : w.grownBy w1 (some p)) (ht : t.length ≤ 100) :
    RunEndO p w ov Z deep most (some (t, r)) (.returned (.slice (some ⟨w1.heap.size, 0, none⟩) t.length t.length)) (w1.alloc (.cells (t.map rCell).toArray 21)) := by
  have hb := belowA' (o := .cells (t.map rCell).toArray 21) (Below.refl w1.heap.size w1) (Nat.le_refl _)
  have ho := owns_new w1 (t.map rCell).toArray 21 t.length (by simp) (by unfold maxLen; omega)
  exact ⟨_, rfl, owns_base ho hm.size, h.keptB hb, hm.trans (grown_of_below hb _)⟩
theorem asc_of (l : List UInt8) (h : l.all (fun b => decide (b.toNat < 128)) = true) : ∀ i (h : i < (⟨l.toArray⟩ : ByteArray).size), (⟨l.toArray⟩ : ByteArray)[i].toNat < 128 := fun i hi => by
  have := List.all_eq_true.1 h ((⟨l.toArray⟩ : ByteArray)[i]) (List.getElem_mem (l := l) (by simpa [ByteArray.size] using hi))
  simpa using this
theorem contains_special (r : Nat) (w : World) (hr : scalar r) : Calls Tryd.prog 43 #[.string specialT, .int .i32 (r : Int)] w fun e w' => e = .returned (.bool (decide ((r : Int) ∈ special))) ∧ Below w.heap.size w w' :=
  contains_rune specialT special r w hr (by decide) (by decide) (asc_of [92, 40, 41, 91, 93, 123, 125, 42, 43, 63, 124, 46, 94, 36] (by decide)) (by decide)
theorem contains_special2 (r : Nat) (w : World) (hr : scalar r) : Calls Tryd.prog 43 #[.string specialT2, .int .i32 (r : Int)] w fun e w' => e = .returned (.bool (decide ((r : Int) ∈ special ++ [45]))) ∧ Below w.heap.size w w' :=
  contains_rune specialT2 (special ++ [45]) r w hr (by decide) (by decide) (asc_of [92, 40, 41, 91, 93, 123, 125, 42, 43, 63, 124, 46, 94, 36, 45] (by decide)) (by decide)
theorem contains_member (r : Nat) (w : World) (hr : scalar r) : Calls Tryd.prog 43 #[.string memberT, .int .i32 (r : Int)] w fun e w' => e = .returned (.bool (decide ((r : Int) ∈ ([91, 93, 94, 45] : List Int)))) ∧ Below w.heap.size w w' :=
  contains_rune memberT [91, 93, 94, 45] r w hr (by decide) (by decide) (asc_of [91, 93, 94, 45] (by decide)) (by decide)
set_option maxRecDepth 100000 in
set_option maxHeartbeats 4000000 in
theorem par_escapeO (p : Nat) (w : World) (ov : Value) (Z : List NdL) (s : List Int) (deep most : Nat) (hs : Scal s) (h : PSo ov Z w p s deep most) :
    Calls Tryd.prog 42 #[.pointer (some ⟨p, 0, none⟩)] w (RunEndO p w ov Z deep most (escP s)) := by
  cases s with
  | nil =>
    show Calls _ _ _ _ (Fell p w)
    have C := par_take_none (X := fun _ => False) p w _ deep most (h.ps fun _ _ _ _ hx => hx)
    clear h hs
    go_enter Tryd.func42, Tryd.ntmps42
    go_wp2_with (go_at_call 40; refine C.mono ?_; rintro e w' ⟨rfl, hb⟩)
    exact ⟨rfl, rfl, hb⟩
  | cons c s =>
    obtain ⟨r, hr, rfl⟩ := hs c (by simp)
    have C := par_takeO p w ov Z (r : Int) s deep most h
    have hm0 := fun w1 (hg : w.grownBy w1 (some p)) => h.mvd hg
    have HM0 := Lib.hid hm0
    clear hm0
    have HC := Lib.hid (fun W => contains_special2 r W hr)
    unfold specialT2 at HC
    have HX := fun (hd : ¬ ((r : Int) = 110)) (h2 : ¬ ((r : Int) = 116)) (h3 : ¬ ((r : Int) = 100)) (h4 : ¬ ((r : Int) = 119)) (h5 : ¬ ((r : Int) = 115)) => (by simp only [escP, if_neg hd, if_neg h2, if_neg h3, if_neg h4, if_neg h5] : escP ((r : Int) :: s) = if (r : Int) ∈ special ∨ (r : Int) = 45 then some ([(r : Int), (r : Int)], s) else none)
    have HX := Lib.hid HX
    clear hs h
    obtain ⟨c, hc⟩ : ∃ c, (r : Int) = c := ⟨_, rfl⟩
    rw [hc] at C HC HX ⊢
    clear hc hr
    by_cases h1 : c = 110
    · subst h1
      rw [show escP (110 :: s) = some ([10, 10], s) from rfl]
      clear HC HX
      go_enter Tryd.func42, Tryd.ntmps42
      go_wp2_with (go_at_call 40; refine C.mono ?_; rintro e w' ⟨rfl, hp, hm⟩; have HP := Lib.hid hp; clear hp)
      go_ret
      exact run_new [10, 10] HP.out hm (by decide)
    by_cases h2 : c = 116
    · subst h2
      rw [show escP (116 :: s) = some ([9, 9], s) from rfl]
      clear HC HX
      go_enter Tryd.func42, Tryd.ntmps42
      go_wp2_with (go_at_call 40; refine C.mono ?_; rintro e w' ⟨rfl, hp, hm⟩; have HP := Lib.hid hp; clear hp)
      go_ret
      exact run_new [9, 9] HP.out hm (by decide)
    by_cases h3 : c = 100
    · subst h3
      rw [show escP (100 :: s) = some ([48, 57], s) from rfl]
      clear HC HX
      go_enter Tryd.func42, Tryd.ntmps42
      go_wp2_with (go_at_call 40; refine C.mono ?_; rintro e w' ⟨rfl, hp, hm⟩; have HP := Lib.hid hp; clear hp)
      go_ret
      exact run_new [48, 57] HP.out hm (by decide)
    by_cases h4 : c = 119
    · subst h4
      rw [show escP (119 :: s) = some ([48, 57, 65, 90, 95, 95, 97, 122], s) from rfl]
      clear HC HX
      go_enter Tryd.func42, Tryd.ntmps42
      go_wp2_with (go_at_call 40; refine C.mono ?_; rintro e w' ⟨rfl, hp, hm⟩; have HP := Lib.hid hp; clear hp)
      go_ret
      exact run_new [48, 57, 65, 90, 95, 95, 97, 122] HP.out hm (by decide)
    by_cases h5 : c = 115
    · subst h5
      rw [show escP (115 :: s) = some ([9, 10, 13, 13, 32, 32], s) from rfl]
      clear HC HX
      go_enter Tryd.func42, Tryd.ntmps42
      go_wp2_with (go_at_call 40; refine C.mono ?_; rintro e w' ⟨rfl, hp, hm⟩; have HP := Lib.hid hp; clear hp)
      go_ret
      exact run_new [9, 10, 13, 13, 32, 32] HP.out hm (by decide)
    rw [HX.out h1 h2 h3 h4 h5]
    have g1 : (c == 110) = false := by simpa using h1
    have g2 : (c == 116) = false := by simpa using h2
    have g3 : (c == 100) = false := by simpa using h3
    have g4 : (c == 119) = false := by simpa using h4
    have g5 : (c == 115) = false := by simpa using h5
    clear h1 h2 h3 h4 h5 HX
    by_cases hm : c ∈ special ++ [45]
    · have hm' : c ∈ special ∨ c = 45 := by simpa using hm
      rw [if_pos hm']
      rw [decide_eq_true hm] at HC
      clear hm hm'
      go_enter Tryd.func42, Tryd.ntmps42
      go_wp2_with (first | (go_at_call 40; refine C.mono ?_; rintro e w1 ⟨rfl, hp, hm⟩; have HP := Lib.hid hp; clear hp) | (go_at_call 43; refine (HC.out _).mono ?_; rintro e w2 ⟨rfl, hb⟩) | (go_at_call 18; refine (par_must p _).mono ?_; rintro e w3 ⟨rfl, rfl⟩))
      go_ret
      exact run_new [c, c] (HP.out.keptB hb) (hm.trans (grown_of_below hb _)) (by show 2 ≤ 100; decide)
    · have hm' : ¬ (c ∈ special ∨ c = 45) := by simpa using hm
      rw [if_neg hm']
      rw [decide_eq_false hm] at HC
      clear hm hm'
      show Calls _ _ _ _ (Fell p w)
      go_enter Tryd.func42, Tryd.ntmps42
      go_wp2_with (first | (go_at_call 40; refine C.mono ?_; rintro e w1 ⟨rfl, hp, hm⟩; have HP := Lib.hid hp; clear hp) | (go_at_call 43; refine (HC.out _).mono ?_; rintro e w2 ⟨rfl, hb⟩) | (go_at_call 18; refine (par_mustnt p _).mono ?_; rintro e w3 ⟨rfl, rfl⟩))
      exact ⟨rfl, rfl, (HM0.out _ hm).low.trans (hb.mono (Nat.le_of_lt HP.out.lt))⟩
set_option maxRecDepth 100000 in
set_option maxHeartbeats 4000000 in
theorem par_memberO (p : Nat) (w : World) (ov : Value) (Z : List NdL) (s : List Int) (deep most : Nat) (hs : Scal s) (h : PSo ov Z w p s deep most) :
    Calls Tryd.prog 47 #[.pointer (some ⟨p, 0, none⟩)] w (RunEndO p w ov Z deep most (memP s)) := by
  cases s with
  | nil =>
    show Calls _ _ _ _ (Fell p w)
    have C := par_take_none (X := fun _ => False) p w _ deep most (h.ps fun _ _ _ _ hx => hx)
    clear h hs
    go_enter Tryd.func47, Tryd.ntmps47
    go_wp2_with (go_at_call 40; refine C.mono ?_; rintro e w' ⟨rfl, hb⟩)
    exact ⟨rfl, rfl, hb⟩
  | cons c s =>
    obtain ⟨r, hr, rfl⟩ := hs c (by simp)
    have hst := hs.tail
    have C := par_takeO p w ov Z (r : Int) s deep most h
    have hm0 := fun w1 (hg : w.grownBy w1 (some p)) => h.mvd hg
    have HM0 := Lib.hid hm0
    clear hm0
    have HC := Lib.hid (fun W => contains_member r W hr)
    unfold memberT at HC
    clear hs h
    obtain ⟨c, hc⟩ : ∃ c, (r : Int) = c := ⟨_, rfl⟩
    rw [hc] at C HC ⊢
    clear hc hr
    by_cases h1 : c = 92
    · subst h1
      have CE := Lib.hid (fun W hW => par_escapeO p W ov Z s deep most hst hW)
      rw [show memP (92 :: s) = escP s from rfl]
      cases he : escP s with
      | none =>
        rw [he] at CE
        clear HC he hst
        show Calls _ _ _ _ (Fell p w)
        go_enter Tryd.func47, Tryd.ntmps47
        go_wp2_with (first | (go_at_call 40; refine C.mono ?_; rintro e w1 ⟨rfl, hp, hm⟩; have HP := Lib.hid hp; clear hp) | (go_at_call 42; refine (CE.out _ HP.out).mono ?_; rintro e w2 ⟨rfl, hb⟩))
        exact ⟨rfl, rfl, (HM0.out _ hm).low.trans hb⟩
      | some x =>
        obtain ⟨t, u⟩ := x
        rw [he] at CE
        clear HC he hst
        go_enter Tryd.func47, Tryd.ntmps47
        go_wp2_with (first | (go_at_call 40; refine C.mono ?_; rintro e w1 ⟨rfl, hp, hm⟩; have HP := Lib.hid hp; clear hp) | (go_at_call 42; refine (CE.out _ HP.out).mono ?_; rintro e w2 ⟨v, rfl, ho, hp2, hm2⟩; have HO := Lib.hid (And.intro ho hp2); clear ho hp2))
        go_ret
        exact ⟨v, rfl, owns_base HO.out.1 hm.size, HO.out.2, hm.trans hm2⟩
    · have g1 : (c == 92) = false := by simpa using h1
      have e1 : memP (c :: s) = if c = 91 ∨ c = 93 ∨ c = 94 ∨ c = 45 then none else some ([c, c], s) := by simp only [memP, if_neg h1]
      rw [e1]
      clear h1 e1 hst
      by_cases hm : c ∈ ([91, 93, 94, 45] : List Int)
      · have hm' : c = 91 ∨ c = 93 ∨ c = 94 ∨ c = 45 := by simpa using hm
        rw [if_pos hm']
        rw [decide_eq_true hm] at HC
        clear hm hm'
        show Calls _ _ _ _ (Fell p w)
        go_enter Tryd.func47, Tryd.ntmps47
        go_wp2_with (first | (go_at_call 40; refine C.mono ?_; rintro e w1 ⟨rfl, hp, hm⟩; have HP := Lib.hid hp; clear hp) | (go_at_call 43; refine (HC.out _).mono ?_; rintro e w2 ⟨rfl, hb⟩) | (go_at_call 18; refine (par_mustnt p _).mono ?_; rintro e w3 ⟨rfl, rfl⟩))
        exact ⟨rfl, rfl, (HM0.out _ hm).low.trans (hb.mono (Nat.le_of_lt HP.out.lt))⟩
      · have hm' : ¬ (c = 91 ∨ c = 93 ∨ c = 94 ∨ c = 45) := by simpa using hm
        rw [if_neg hm']
        rw [decide_eq_false hm] at HC
        clear hm hm'
        go_enter Tryd.func47, Tryd.ntmps47
        go_wp2_with (first | (go_at_call 40; refine C.mono ?_; rintro e w1 ⟨rfl, hp, hm⟩; have HP := Lib.hid hp; clear hp) | (go_at_call 43; refine (HC.out _).mono ?_; rintro e w2 ⟨rfl, hb⟩) | (go_at_call 18; refine (par_must p _).mono ?_; rintro e w3 ⟨rfl, rfl⟩))
        go_ret
        exact run_new [c, c] (HP.out.keptB hb) (hm.trans (grown_of_below hb _)) (by show 2 ≤ 100; decide)
theorem par_escape {X : Nat → Prop} (p : Nat) (w : World) (s : List Int) (L : List Nd) (deep most : Nat) (hs : Scal s) (h : PS X w p s L deep most) :
    Calls Tryd.prog 42 #[.pointer (some ⟨p, 0, none⟩)] w (RunEnd X p w L deep most (escP s)) := by
  obtain ⟨sv, ov, Z, h, rfl, hf⟩ := h
  exact (par_escapeO p w ov Z s deep most hs ⟨sv, h⟩).mono fun e w' hh => RunEndO.run ⟨sv, h⟩ hf hh
end Go.Proofs.YthmhmckkkceclaaDoor
/-
  slices.SortFunc at pairs of runes.
-/
namespace Go.Proofs.YthmhmckkkceclaaDoor
open Go.RowKit Go.Sort Go.Lib Go.Shelf
abbrev PrS := {p : Pr // 0 ≤ p.1 ∧ p.1 ≤ 1114111}
instance : Inhabited PrS := ⟨⟨(0, 0), by decide⟩⟩
def encPr (x : PrS) : List Value := [.int .i32 x.1.1, .int .i32 x.1.2]
def prCells (L : List PrS) : List Value := L.flatMap encPr
theorem prCells_len (L : List PrS) : (prCells L).length = L.length * 2 := by
  induction L with
  | nil => rfl
  | cons x L ih =>
    show (encPr x ++ prCells L).length = _
    rw [List.length_append, ih, List.length_cons]
    show 2 + _ = _
    omega
theorem prCells_append (A B : List PrS) : prCells (A ++ B) = prCells A ++ prCells B := List.flatMap_append
theorem prCells_get : ∀ (L : List PrS) (k : Nat) (h : k < L.length), (prCells L)[k * 2]? = some (.int .i32 L[k].1.1) ∧ (prCells L)[k * 2 + 1]? = some (.int .i32 L[k].1.2)
  | x :: L, 0, _ => ⟨rfl, rfl⟩
  | x :: L, k + 1, h => by
    have ih := prCells_get L k (by simpa using h)
    have e : ∀ j, (prCells (x :: L))[j + 2]? = (prCells L)[j]? := fun j => rfl
    rw [show (k + 1) * 2 = k * 2 + 2 by omega, e, show k * 2 + 2 + 1 = k * 2 + 1 + 2 by omega, e]
    exact ih
theorem alloc_eq_growX (w : World) (o : Obj) : w.alloc o = Go.Sort.grow w #[o] := rfl
set_option maxRecDepth 100000 in
theorem pair_cmp (x y : PrS) (W : World) : Calls Tryd.prog 54 #[.agg #[.int .i32 x.1.1, .int .i32 x.1.2], .agg #[.int .i32 y.1.1, .int .i32 y.1.2]] W fun e w' =>
    e = .returned (.int .i64 (x.1.1 - y.1.1)) ∧ ∃ q os', w' = Go.Sort.grow (W.drewN q) os' := by
  obtain ⟨⟨a, b⟩, h1, h2⟩ := x
  obtain ⟨⟨c, d⟩, h3, h4⟩ := y
  simp only at h1 h2 h3 h4 ⊢
  go_enter Tryd.func54, Tryd.ntmps54
  go_wp2
  go_ret
  exact ⟨rfl, 0, _, by rw [alloc_eq_growX, alloc_eq_growX, grow_grow]; rfl⟩
theorem holds_idX {w : World} {g : Nat} {cur : Array Value} {e : TypeId} {xs : List Value} (hb : w.heap[g]? = some (.cells cur e (0, 0))) (ht : cur.toList.take xs.length = xs) : Holds id w g 0 xs.toArray := by
  intro j hj
  have hj' : j < xs.length := by simpa using hj
  refine ⟨?_, by simp [World.frozen?, hb]⟩
  have h1 : (cur.toList.take xs.length)[j]? = xs[j]? := by rw [ht]
  rw [List.getElem?_take_of_lt hj'] at h1
  simp only [World.cell?, hb, Nat.zero_add]
  simp only [Option.isSome_none, Bool.false_eq_true, if_false]
  rw [← Array.getElem?_toList, h1]
  simp [hj']
theorem heap_idX {w : World} {g n : Nat} {os : Array Obj} {cur : Array Value} {e : TypeId} {fr : Nat × Nat} (F : Array Value) (hb : w.heap[g]? = some (.cells cur e fr)) :
    (grow (putRow id (Sort.ahead w n) g 0 F) os).heap[g]? = some (.cells (putCells id 0 F cur) e fr) := by
  have hg : g < w.heap.size := (Array.getElem?_eq_some_iff.1 hb).1
  rw [heap_grow_old _ _ (by simpa using hg)]
  simp [putRow, mapBlock, Sort.ahead, Array.getElem?_modify, hb, onCells]
theorem grownBy_idX {w : World} {g n : Nat} {os : Array Obj} (F : Array Value) : w.grownBy (grow (putRow id (Sort.ahead w n) g 0 F) os) (some g) := by
  refine ⟨rfl, rfl, rfl, by simp, fun k hk hne => ?_⟩
  rw [heap_grow_old _ _ (by simpa using hk)]
  have : g ≠ k := fun e => hne (by rw [e])
  simp [putRow, mapBlock, Sort.ahead, Array.getElem?_modify, this]
theorem take_idX (cur : Array Value) (xs : List Value) (h : xs.length ≤ cur.size) : (putCells id 0 xs.toArray cur).toList.take xs.length = xs := by
  apply List.ext_getElem?
  intro j
  by_cases hj : j < xs.length
  · rw [List.getElem?_take_of_lt hj, Array.getElem?_toList]
    simp [putCells, hj, show j < cur.size by omega]
  · rw [List.getElem?_take_eq_none (by omega), List.getElem?_eq_none (by omega)]
theorem flat_pr (L : List PrS) : flatK encPr 2 L.toArray = (prCells L).toArray := by
  refine ext_get! (by simp [prCells_len]) fun t ht => ?_
  have ht' : t < L.length * 2 := by simpa using ht
  rw [get_flatK _ _ _ t (by simpa using ht')]
  have hk : t / 2 < L.length := by omega
  obtain ⟨h1, h2⟩ := prCells_get L (t / 2) hk
  have e0 : L.toArray[t / 2]! = L[t / 2] := by simp [hk]
  rw [e0]
  have hl := prCells_len L
  have e1 : (prCells L).toArray[t]! = (prCells L)[t]'(by omega) := by
    rw [getElem!_pos _ t (by simp; omega)]
    simp
  rw [e1]
  rcases Nat.mod_two_eq_zero_or_one t with hm | hm
  · have et : t / 2 * 2 = t := by omega
    rw [et, List.getElem?_eq_getElem (by omega)] at h1
    rw [hm, Option.some.inj h1]
    rfl
  · have et : t / 2 * 2 + 1 = t := by omega
    rw [et, List.getElem?_eq_getElem (by omega)] at h2
    rw [hm, Option.some.inj h2]
    rfl

def lessP (x y : PrS) : Bool := decide (x.1.1 < y.1.1)
theorem lt_pr (x y : PrS) : ltOf (fun x y : PrS => x.1.1 - y.1.1) x y = lessP x y := by
  show decide (x.1.1 - y.1.1 < 0) = _
  exact decide_eq_decide.2 (by omega)
theorem swoP : SWO (ltOf fun x y : PrS => x.1.1 - y.1.1) where
  irrefl x := by rw [lt_pr]; unfold lessP; simp
  trans x y z h1 h2 := by
    rw [lt_pr] at *
    unfold lessP at *
    simp only [decide_eq_true_eq] at *
    omega
  ntrans x y z h1 h2 := by
    rw [lt_pr] at *
    unfold lessP at *
    simp only [decide_eq_false_iff_not] at *
    omega
/-- First runes do not fall. -/
def RisingP (L : List PrS) : Prop := ∀ i j (h : i < j) (hj : j < L.length), lessP L[j] (L[i]'(by omega)) = false
theorem pair_sort {w : World} {B : Nat} {v : Value} {L : List PrS} (h : w.ownsRow B 76 2 v L.length (prCells L)) (hL : L.length ≤ 1000000) :
    Calls Tryd.prog 53 #[v, .func (.func 54) #[] #[]] w fun e w' => e = .returned (.tuple #[]) ∧
      ∃ L', L'.Perm L ∧ RisingP L' ∧ w'.ownsRow B 76 2 v L'.length (prCells L') ∧ w.grownBy w' v.ownBlock := by
  rcases h.2 with ⟨rfl, h0⟩ | ⟨g, cap, cur, rfl, hbase, hb, h1, h2, h3, h4⟩
  · have : L = [] := List.eq_nil_of_length_eq_zero h0
    subst this
    refine (AnyF.slices_SortFunc_none Tryd.sortPair none 0 _ w).mono ?_
    rintro e w' ⟨rfl, rfl⟩
    exact ⟨rfl, [], List.Perm.refl _, fun i j _ hj => by simp at hj, h, World.grownBy.refl _ _⟩
  · have eg : ∀ args w, (callFunc 54 args).run Tryd.prog w = .ok (.enter 54 args) w := enters_of Tryd.func54 (by kernel_rfl) rfl
    have hlen := prCells_len L
    have hH : HoldsK encPr 2 w g 0 L.toArray := by
      unfold HoldsK
      rw [flat_pr]
      exact holds_idX hb (by rw [hlen]; exact h4)
    have hcmp : CmpLays Tryd.prog 54 #[] encPr 2 (fun x y => x.1.1 - y.1.1) g 0 L.toArray.size w := fun m os dk _ x y => pair_cmp x y _
    have hcon := AnyQ.slices_SortFunc Tryd.sortPair 2 Tryd.isAgg76 Tryd.sizeOf76 encPr (fun _ => rfl) (fun x v hv => by simp [encPr] at hv; rcases hv with rfl | rfl <;> rfl) (fun x y => x.1.1 - y.1.1) swoP 54 #[] g 0 cap L.toArray w eg hcmp hH (Array.getElem?_eq_some_iff.1 hb).1 (by simp; omega)
    have e1 : (L.toArray).size = L.length := by simp
    rw [e1] at hcon
    refine (show Calls Tryd.prog 53 _ _ _ from hcon).mono ?_
    rintro e w' ⟨rfl, d', n, os, hp, hs, rfl⟩
    have hd : d' = d'.toList.toArray := by simp
    have hsz : d'.toList.length = L.length := by have := hp.1; simpa using this
    refine ⟨rfl, d'.toList, ?_, ?_, ?_, ?_⟩
    · have := hp.2.2
      have ex : d'.extract 0 L.length = d' := by rw [← hsz]; simp
      rw [ex] at this
      simpa using this
    · intro i j hij hj
      have := hs i j (Nat.zero_le _) hij (by omega)
      rw [lt_pr] at this
      have g1 : d'[j]! = d'.toList[j] := by rw [getElem!_pos d' j (by simpa using hj)]; simp
      have g2 : d'[i]! = d'.toList[i] := by rw [getElem!_pos d' i (by have : i < d'.toList.length := by omega
                                                                      simpa using this)]; simp
      rw [g1, g2] at this
      exact this
    · have hfl : flatK encPr 2 d' = (prCells d'.toList).toArray := by
        conv => lhs; rw [hd]
        exact flat_pr _
      have hl2 := prCells_len d'.toList
      unfold sortWorldK putRowK
      rw [hfl]
      refine ⟨by rw [hl2], .inr ⟨g, cap, _, by rw [hsz], hbase, heap_idX _ hb, by omega, h2, by simp [putCells, h3], ?_⟩⟩
      rw [← hl2]
      exact take_idX cur _ (by rw [h3]; omega)
    · exact grownBy_idX _
end Go.Proofs.YthmhmckkkceclaaDoor
/-
  rexp.merged.
-/
namespace Go.Proofs.YthmhmckkkceclaaDoor
open Go.RowKit
theorem EPr : ElemT Tryd.prog 75 76 (.agg #[.int .i32 0, .int .i32 0]) 2 8 := ⟨Tryd.underlying75, by kernel_rfl, rfl, by decide⟩
theorem ERn : ElemT Tryd.prog 31 21 (.int .i32 0) 1 4 := ⟨Tryd.underlying31, by kernel_rfl, rfl, by decide⟩
/-- A row of runes, rune by rune. -/
theorem run_at {w : World} {v : Value} {set : List Int} (h : argRow w v set.length 1 (set.map rCell)) : ∃ a c, v = .slice a set.length c ∧ c ≤ maxLen ∧ (∀ k, k < set.length → ∃ b off, a = some ⟨b, off, none⟩ ∧ b < w.heap.size) ∧
    ∀ b off, a = some ⟨b, off, none⟩ → ∀ k (hk : k < set.length), ∀ W, Below w.heap.size w W → W.cell? ⟨b, off + k, none⟩ = some (.int .i32 set[k]) := by
  obtain ⟨_, a, c, e, h1, h2, hc⟩ := h
  refine ⟨a, c, e, h2, fun k hk => ?_, fun b off ha k hk W hW => ?_⟩
  · obtain ⟨b, off, ha, hb, _⟩ := hc (by omega)
    exact ⟨b, off, ha, hb⟩
  · obtain ⟨b', off', ha', hb, hcs⟩ := hc (by omega)
    rw [ha] at ha'
    cases ha'
    have := hcs k (by simpa using hk)
    rw [List.getElem_map] at this
    rw [hW.cell (p := ⟨b, off + k, none⟩) hb]
    exact this
theorem flat_get : ∀ (Q : List Pr) (k : Nat) (h : k < Q.length), (flat Q)[2 * k]? = some Q[k].1 ∧ (flat Q)[2 * k + 1]? = some Q[k].2
  | q :: Q, 0, _ => ⟨rfl, rfl⟩
  | q :: Q, k + 1, h => by
    have ih := flat_get Q k (by simpa using h)
    have e : ∀ j, (flat (q :: Q))[j + 2]? = (flat Q)[j]? := fun j => rfl
    rw [show 2 * (k + 1) = 2 * k + 2 by omega, e, show 2 * k + 2 + 1 = 2 * k + 1 + 2 by omega, e]
    exact ih
theorem pr_at {w : World} {B : Nat} {v : Value} {L : List PrS} (h : w.ownsRow B 76 2 v L.length (prCells L)) {k : Nat} (hk : k < L.length) :
    ∃ g c, v = .slice (some ⟨g, 0, none⟩) L.length c ∧ ∀ W, Below w.heap.size w W → W.cell? ⟨g, k * 2, none⟩ = some (.int .i32 L[k].1.1) ∧ W.cell? ⟨g, k * 2 + 1, none⟩ = some (.int .i32 L[k].1.2) := by
  rcases h.2 with ⟨_, h0⟩ | ⟨g, cap, cur, rfl, hB, hg, h1, h2, h3, h4⟩
  · omega
  · refine ⟨g, cap, rfl, fun W hW => ?_⟩
    obtain ⟨g1, g2⟩ := prCells_get L k hk
    have hb := (Array.getElem?_eq_some_iff.1 hg).1
    have c1 := h.cells (g := g) rfl _ _ g1
    have c2 := h.cells (g := g) rfl _ _ g2
    rw [Go.WideShapes.add_plain, Nat.zero_add] at c1 c2
    rw [hW.cell (p := ⟨g, k * 2, none⟩) hb, hW.cell (p := ⟨g, k * 2 + 1, none⟩) hb]
    exact ⟨c1, c2⟩
theorem rising_pairs {L : List PrS} (h : RisingP L) : (L.map Subtype.val).Pairwise fun p q => p.1 ≤ q.1 := by
  rw [List.pairwise_iff_getElem]
  intro i j hi hj hij
  rw [List.length_map] at hi hj
  have := h i j hij hj
  unfold lessP at this
  simp only [decide_eq_false_iff_not] at this
  rw [List.getElem_map, List.getElem_map]
  omega
/-- Pairs with bounds. -/
theorem prs_pack (Q : List Pr) (hQ : Prs Q) : ∃ QS : List PrS, QS.map Subtype.val = Q :=
  ⟨Q.pmap (fun q h => ⟨q, h⟩) (fun q hq => ⟨(hQ q hq).1, by have := hQ q hq; omega⟩), by rw [List.map_pmap]; simp⟩
set_option maxRecDepth 100000 in
set_option maxHeartbeats 4000000 in
theorem par_merged (w : World) (v : Value) (QS : List PrS) (hQ : Prs (QS.map Subtype.val)) (hl : QS.length ≤ 1000) (hv : argRow w v (flat (QS.map Subtype.val)).length 1 ((flat (QS.map Subtype.val)).map rCell)) :
    Calls Tryd.prog 48 #[v] w fun e w' => ∃ v', e = .returned v' ∧ w'.ownsRow w.heap.size 21 1 v' (cleanP (flat (QS.map Subtype.val)) false).length ((cleanP (flat (QS.map Subtype.val)) false).map rCell) ∧ Below w.heap.size w w' := by
  have hfl : (flat (QS.map Subtype.val)).length = 2 * QS.length := by rw [flat_length, List.length_map]
  have hget := fun k (h : k < QS.length) => flat_get (QS.map Subtype.val) k (by rw [List.length_map]; exact h)
  obtain ⟨a, c, rfl, hcm, hab, hcs⟩ := run_at hv
  have HCS : Hid (∀ k (h : k < QS.length), ∃ b off, a = some ⟨b, off, none⟩ ∧ ∀ W, Below w.heap.size w W → W.cell? ⟨b, off + 2 * k, none⟩ = some (.int .i32 QS[k].1.1) ∧ W.cell? ⟨b, off + (2 * k + 1), none⟩ = some (.int .i32 QS[k].1.2)) := Lib.hid (fun k h => by
    obtain ⟨b, off, ha, hb⟩ := hab (2 * k) (by rw [hfl]; omega)
    refine ⟨b, off, ha, fun W hW => ?_⟩
    have h1 := hcs b off ha (2 * k) (by rw [hfl]; omega) W hW
    have h2 := hcs b off ha (2 * k + 1) (by rw [hfl]; omega) W hW
    obtain ⟨g1, g2⟩ := hget k h
    rw [List.getElem?_eq_getElem (by rw [hfl]; omega)] at g1 g2
    rw [Option.some.inj g1, List.getElem_map] at h1
    rw [Option.some.inj g2, List.getElem_map] at h2
    exact ⟨h1, h2⟩)
  clear hv hab hcs hget
  rw [hfl]
  obtain ⟨N, hN⟩ : ∃ N, 2 * QS.length = N := ⟨_, rfl⟩
  rw [hN]
  have HN := Lib.hid hN
  have hNl : N ≤ 2000 := by omega
  clear hfl hN
  unfold maxLen at hcm
  go_enter Tryd.func48, Tryd.ntmps48
  go_wp2_with fail
  go_loopw [3, 4] (fun ps i wr => ∃ k j : Nat, k ≤ QS.length ∧ 2 * k = j ∧ i = .int .i64 (j : Int) ∧ wr.ownsRow w.heap.size 76 2 ps k (prCells (QS.take k)) ∧ Below w.heap.size w wr) (fun _ i _ => N - (intOf i).toNat)
  case atStart => exact ⟨0, 0, by omega, rfl, rfl, World.ownsRow_nil _ _ _ _, Below.refl _ _⟩
  case round =>
    obtain ⟨k, j, hk, hj, rfl, hown, hbr⟩ := hrel
    have HJ := Lib.hid hj
    have hjN : j ≤ N := by have := HN.out; omega
    by_cases hlt : k < QS.length
    · have hj1 : j < N := by have := HN.out; omega
      have hj2 : j + 1 < N := by have := HN.out; omega
      obtain ⟨b, off, rfl, hcell⟩ := HCS.out k hlt
      obtain ⟨x1, x2⟩ := hcell wr hbr
      rw [hj] at x1 x2
      have e1 : prCells (QS.take (k + 1)) = prCells (QS.take k) ++ [.int .i32 QS[k].1.1, .int .i32 QS[k].1.2] := by rw [List.take_succ_eq_append_getElem hlt, prCells_append]; rfl
      have HE1 := Lib.hid e1
      have HOWN := Lib.hid hown
      obtain ⟨pa, pc, rfl⟩ := owns_slice hown
      have hsz := hbr.size
      clear hj hcell e1 hown
      generalize QS[k].1.1 = q1 at *
      generalize QS[k].1.2 = q2 at *
      go_upto_region 5 with fail
      have y1 : IntKind.i64.wrap ((j : Int) + 1) = (j : Int) + 1 := IntWalk.i64_in _ (by omega)
      have y2 : 0 ≤ (j : Int) + 1 := by omega
      have y3 : ((j : Int) + 1).toNat = j + 1 := by omega
      have y4 : (j : Int) + 1 < (N : Int) := by omega
      go_region_law (go_loud (refine step_append_src rfl (.tmp 15) (.tmp 26) _ _ (by rfl) w.heap.size EPr _ k (prCells (QS.take k)) rfl (by (repeat (first | exact HOWN.out | with_reducible refine World.ownsRow.alloc ?_ _ | with_reducible refine World.ownsRow.drew ?_)); done) _ 1 [.int .i32 q1, .int .i32 q2] rfl (by first | exact src_last (cs := #[.int .i32 q1, .int .i32 q2]) Tryd.underlying75 1 1 2 rfl rfl (by simp [Value.oneCell']) | exact src_new (cs := #[.int .i32 q1, .int .i32 q2]) (t := 76) (fr := (0, 0)) Tryd.underlying75 1 1 2 (by exact heap_alloc_new wr _) rfl (by simp [Value.oneCell'])) (by unfold maxLen; omega) (by omega) (by simp; omega) ?_; intro v9 w9 hown9 hgr9 _ _))
      all_goals
        clear y1 y2 y3 y4
        go_wp2_with fail
        go_roundw
        case rel => exact ⟨k + 1, j + 2, by omega, by have := HJ.out; omega, by go_num, by rw [HE1.out]; exact hown9, Below.grown (by (repeat (first | exact hbr | (with_reducible refine belowA' ?_ (by first | omega | (simp; done) | (simp; omega))) | with_reducible refine Below.drew ?_)); done) hgr9 (by simp; omega) (fun g hg => (HOWN.out.lt g hg).1)⟩
        case measure => simp [intOf]; omega
    · obtain rfl : k = QS.length := by omega
      have hjN' : j = N := by have := HN.out; omega
      subst hjN'
      rw [List.take_length] at hown
      have CS := pair_sort hown (by omega)
      have hsz := hbr.size
      have HB := Lib.hid hbr
      have hpr : ∀ W, wr.grownBy W u3.ownBlock → Below w.heap.size w W := fun W hW => hbr.grown hW hsz (fun g hg => (hown.lt g hg).1)
      have HPR := Lib.hid hpr
      obtain ⟨pa, pc, rfl⟩ := owns_slice hown
      clear hown hpr hbr hj hk hlt
      go_upto_region 8 with (go_at_call 53; refine CS.mono ?_; rintro e w1 ⟨rfl, QT, hperm, hris, hown1, hg1⟩; have HR := Lib.hid (And.intro hperm (And.intro hris (And.intro hown1 hg1))); clear hperm hris hown1 hg1)
      obtain ⟨hperm, hris, hown1, hg1⟩ := HR.out
      have hlT : QT.length = QS.length := hperm.length_eq
      have hfin : mrgL (QT.map Subtype.val) = cleanP (flat (QS.map Subtype.val)) false := merged_clean hQ (hperm.map _) (rising_pairs hris)
      have hb1 := HPR.out w1 hg1
      have hbd : ∀ k (h : k < QT.length), 0 ≤ QT[k].1.1 ∧ QT[k].1.1 ≤ 1114111 ∧ 0 ≤ QT[k].1.2 ∧ QT[k].1.2 ≤ 1114111 := fun k h => by
        have := hQ QT[k].1 ((hperm.map Subtype.val).mem_iff.1 (List.mem_map.2 ⟨QT[k], List.getElem_mem h, rfl⟩))
        omega
      rw [← hlT] at hown1 ⊢
      have HAT := Lib.hid (fun k (h : k < QT.length) => pr_at hown1 h)
      have HFIN := Lib.hid hfin
      have HBD := Lib.hid hbd
      have HB1 := Lib.hid hb1
      have hszT := hb1.size
      have hlT2 : QT.length ≤ 1000 := by omega
      clear HR hperm hris hown1 hg1 hfin hb1 hbd CS HPR HB HCS hlT HJ hQ hl
      go_wp2_with fail
      go_loopw [32, 5] (fun i o wr => ∃ (k : Nat) (out : List Int), k ≤ QT.length ∧ i = .int .i64 (k : Int) ∧ ((QT.take k).map Subtype.val).foldl mrgOne [] = out ∧ (∀ x ∈ out, 0 ≤ x ∧ x ≤ 1114111) ∧ out.length ≤ 2 * k ∧ wr.ownsRow w1.heap.size 21 1 o out.length (out.map rCell) ∧ Below w1.heap.size w1 wr) (fun i _ _ => QT.length - (intOf i).toNat)
      case atStart => exact ⟨0, [], by omega, rfl, rfl, by simp, by simp, World.ownsRow_nil _ _ _ _, Below.refl _ _⟩
      case round =>
        obtain ⟨k, out, hk, rfl, hfold, hrange, hlen, hown, hbr⟩ := hrel
        by_cases hlt : k < QT.length
        · obtain ⟨g, cc, hsl, hcell⟩ := HAT.out k hlt
          cases hsl
          obtain ⟨x1, x2⟩ := hcell wr hbr
          obtain ⟨b1, b2, b3, b4⟩ := HBD.out k hlt
          have hstep : ((QT.take (k + 1)).map Subtype.val).foldl mrgOne [] = mrgOne out QT[k].1 := by
            rw [List.take_succ_eq_append_getElem hlt, List.map_append, List.foldl_append, hfold]
            rfl
          have HST := Lib.hid hstep
          have HFO := Lib.hid hfold
          clear hcell hstep hfold
          obtain ⟨⟨⟨q1, q2⟩, hq⟩, hqq⟩ : ∃ q, QT[k] = q := ⟨_, rfl⟩
          rw [hqq] at x1 x2 b1 b2 b3 b4 HST
          simp only at x1 x2 b1 b2 b3 b4 HST
          clear hqq hq
          have hbx := belowA' (o := .cells #[.int .i32 q1, .int .i32 q2] 76) (Below.refl wr.heap.size wr) (Nat.le_refl _)
          have hx := heap_alloc_new wr (.cells #[.int .i32 q1, .int .i32 q2] 76)
          have z0 := cellX hx (j := 0) rfl
          have z1 := cellX hx (j := 1) rfl
          have hwz := hbr.size
          clear hx
          rcases list_snoc out with rfl | ⟨o, z, rfl⟩
          · obtain ⟨oa, oc, rfl⟩ := owns_slice hown
            have HOWN := Lib.hid hown
            have hmo : mrgOne [] (q1, q2) = [q1, q2] := rfl
            rw [hmo] at HST
            obtain ⟨m, hm⟩ : ∃ m, ([] : List Int).length = m := ⟨_, rfl⟩
            have hm0 : m = 0 := hm.symm
            rw [List.map_nil, hm] at HOWN
            rw [hm]
            subst hm0
            clear hown hmo hm
            go_upto_region 12 with fail
            go_quiet (fail)
            go_wp2_with (at_builtin; go_loud (refine wpList_append_src rfl _ _ _ _ rfl w1.heap.size ERn _ 0 ([]) rfl (owns_below HOWN.out (by (repeat (first | assumption | with_reducible exact Below.refl _ _ | (with_reducible refine belowA' ?_ (by first | omega | (simp; done) | (simp; omega))) | with_reducible refine Below.drew ?_ | with_reducible refine below_dN ?_ _)); done)) _ 2 [.int .i32 q1, .int .i32 q2] rfl (by exact src_last (cs := #[.int .i32 q1, .int .i32 q2]) Tryd.underlying31 2 2 1 (by simp) rfl (by simp [Value.oneCell'])) (by unfold maxLen; omega) (by omega) (by simp; omega) ?_); intro v9 w9 hown9 hgr9 _ _)
            go_roundw
            case rel => exact ⟨k + 1, [q1, q2], by omega, by go_num, HST.out, fun x hx => (by simp at hx; omega), by simp; omega, hown9, Below.grown (Below.trans hbr (Below.mono (show Below wr.heap.size wr _ by (repeat (first | assumption | with_reducible exact Below.refl _ _ | (with_reducible refine belowA' ?_ (by first | omega | (simp; done) | (simp; omega))) | with_reducible refine Below.drew ?_ | with_reducible refine below_dN ?_ _)); done) (by omega))) hgr9 (by simp; omega) (fun g hg => (HOWN.out.lt g hg).1)⟩
            case measure => simp [intOf]; omega
          · obtain ⟨og, oc, hsl, hog, hogl, hoc1, hoc2, -, hocell⟩ := owns_some hown (by simp)
            subst hsl
            have hlast := hocell o.length (by simp)
            rw [List.getElem_map, List.getElem_append_right (Nat.le_refl _)] at hlast
            simp only [Nat.sub_self, List.getElem_cons_zero] at hlast
            have hmo : mrgOne (o ++ [z]) (q1, q2) = if q1 ≤ z + 1 then o ++ [max z q2] else (o ++ [z]) ++ [q1, q2] := by
              unfold mrgOne
              rw [List.getLast?_concat, List.dropLast_concat]
            rw [hmo] at HST
            have hz := hrange z (by simp)
            have hst := hown.stored o.length (.int .i32 (max z q2))
            have hset : ((o ++ [z]).map rCell).set o.length (.int .i32 (max z q2)) = (o ++ [max z q2]).map rCell := by
              rw [List.map_append, List.set_append_right _ _ (by simp)]
              simp [rCell]
            obtain ⟨m, hm⟩ : ∃ m, (o ++ [z]).length = m := ⟨_, rfl⟩
            have hm1 : o.length = m - 1 := by rw [← hm]; simp
            have hm0 : 0 < m := by rw [← hm]; simp
            have hm2 : ∀ y, (o ++ [y]).length = m := fun y => by rw [← hm]; simp
            rw [hm] at hlen hown ⊢
            rw [hm1] at hlast hset
            have HM2 := Lib.hid hm2
            have HOWN := Lib.hid hown
            have HFR := Lib.hid (hown.frozenAt (m - 1))
            have HR := Lib.hid hrange
            have HSET := Lib.hid hset
            clear hst hset hown hm hm1 hm2 hmo hocell hrange
            have hb0 : wr.cell? ⟨og, m - 1, none⟩ = some (.int .i32 z) := hlast
            have hox : (wr.alloc (.cells #[.int .i32 q1, .int .i32 q2] 76)).cell? ⟨og, m - 1, none⟩ = some (.int .i32 z) := (hbx.cell (p := ⟨og, m - 1, none⟩) hogl).trans hlast
            have hof : (wr.alloc (.cells #[.int .i32 q1, .int .i32 q2] 76)).frozen? ⟨og, m - 1, none⟩ = false := (hbx.frozen (p := ⟨og, m - 1, none⟩) hogl).trans HFR.out
            have y1 : IntKind.i64.wrap ((m : Int) - 1) = (m : Int) - 1 := IntWalk.i64_in _ (by omega)
            have y2 : 0 ≤ (m : Int) - 1 := by omega
            have y3 : ((m : Int) - 1).toNat = m - 1 := by omega
            have y4 : (m : Int) - 1 < (m : Int) := by omega
            have y5 : decide ((0 : Int) < (m : Int)) = true := decide_eq_true (by omega)
            have y6 : IntKind.i32.wrap (z + 1) = z + 1 := by rw [IntKind.wrap_i32]; omega
            have y7 : (1 : Int) ≤ (m : Int) := by omega
            by_cases hc : q1 ≤ z + 1
            · rw [if_pos hc] at HST
              have y8 : decide (q1 ≤ z + 1) = true := decide_eq_true hc
              go_upto_region 12 with fail
              go_quiet (fail)
              go_wp2_with fail
              clear y5 y6 y8
              go_region_law (fail)
              all_goals
                clear y1 y2 y3 y4
                go_wp2_with fail
                go_roundw
                case rel => exact ⟨k + 1, o ++ [max z q2], by omega, by go_num, HST.out, fun x hx => (by
                  rcases List.mem_append.1 hx with hx | hx
                  · exact HR.out x (by simp [hx])
                  · simp at hx; omega), by rw [HM2.out]; omega, by rw [HM2.out, ← HSET.out]; exact ((owns_below HOWN.out (by (repeat (first | assumption | with_reducible exact Below.refl _ _ | (with_reducible refine belowA' ?_ (by first | omega | (simp; done) | (simp; omega))) | with_reducible refine Below.drew ?_ | with_reducible refine below_dN ?_ _)); done)).stored (m - 1) _).1, Below.grown (Below.trans hbr (Below.mono (show Below wr.heap.size wr _ from (by (repeat (first | assumption | with_reducible exact Below.refl _ _ | (with_reducible refine belowA' ?_ (by first | omega | (simp; done) | (simp; omega))) | with_reducible refine Below.drew ?_ | with_reducible refine below_dN ?_ _)); done)) hwz)) (gset _ og (m - 1) _) (by simp; omega) (fun g hg => by cases hg; exact hog)⟩
                case measure => simp [intOf]; omega
            · rw [if_neg hc] at HST
              have y8 : decide (q1 ≤ z + 1) = false := decide_eq_false hc
              go_upto_region 12 with fail
              go_quiet (fail)
              clear y1 y2 y3 y4 y5 y6 y8
              go_wp2_with (at_builtin; go_loud (refine wpList_append_src rfl _ _ _ _ rfl w1.heap.size ERn _ m ((o ++ [z]).map rCell) rfl (owns_below HOWN.out (by (repeat (first | assumption | with_reducible exact Below.refl _ _ | (with_reducible refine belowA' ?_ (by first | omega | (simp; done) | (simp; omega))) | with_reducible refine Below.drew ?_ | with_reducible refine below_dN ?_ _)); done)) _ 2 [.int .i32 q1, .int .i32 q2] rfl (by exact src_last (cs := #[.int .i32 q1, .int .i32 q2]) Tryd.underlying31 2 2 1 (by simp) rfl (by simp [Value.oneCell'])) (by unfold maxLen; omega) (by omega) (by simp; omega) ?_); intro v9 w9 hown9 hgr9 _ _)
              go_roundw
              case rel => exact ⟨k + 1, o ++ [z] ++ [q1, q2], by omega, by go_num, HST.out, fun x hx => (by
                rcases List.mem_append.1 hx with hx | hx
                · exact HR.out x hx
                · simp at hx; omega), by rw [List.length_append, HM2.out]; show m + 2 ≤ _; omega, by rw [List.length_append, HM2.out, List.map_append]; exact hown9, Below.grown (Below.trans hbr (Below.mono (show Below wr.heap.size wr _ by (repeat (first | assumption | with_reducible exact Below.refl _ _ | (with_reducible refine belowA' ?_ (by first | omega | (simp; done) | (simp; omega))) | with_reducible refine Below.drew ?_ | with_reducible refine below_dN ?_ _)); done) (by omega))) hgr9 (by simp; omega) (fun g hg => (HOWN.out.lt g hg).1)⟩
              case measure => simp [intOf]; omega
        · obtain rfl : k = QT.length := by omega
          rw [List.take_length] at hfold
          go_wp2_with fail
          go_ret
          have h1 : mrgL (QT.map Subtype.val) = out := hfold
          rw [HFIN.out] at h1
          exact ⟨_, rfl, by rw [h1]; exact owns_base hown hszT, HB1.out.trans (hbr.mono hszT)⟩
end Go.Proofs.YthmhmckkkceclaaDoor
/-
  rexp.others.
-/
namespace Go.Proofs.YthmhmckkkceclaaDoor
open Go.RowKit
theorem flat_drop (P : List Pr) (k : Nat) (h : k < P.length) : flat (P.drop k) = P[k].1 :: P[k].2 :: flat (P.drop (k + 1)) := by
  rw [List.drop_eq_getElem_cons h, flat_cons]
set_option maxRecDepth 100000 in
set_option maxHeartbeats 4000000 in
theorem par_others (w : World) (v : Value) (P : List Pr) (hP : Prs P) (hl : P.length ≤ 2100) (hv : argRow w v (flat P).length 1 ((flat P).map rCell)) :
    Calls Tryd.prog 49 #[v] w fun e w' => ∃ v', e = .returned v' ∧ w'.ownsRow w.heap.size 21 1 v' (othL 0 [] (flat P)).length ((othL 0 [] (flat P)).map rCell) ∧ Below w.heap.size w w' := by
  have hfl : (flat P).length = 2 * P.length := flat_length P
  have hget := fun k (h : k < P.length) => flat_get P k h
  obtain ⟨a, c, rfl, hcm, hab, hcs⟩ := run_at hv
  have HCS : Hid (∀ k (h : k < P.length), ∃ b off, a = some ⟨b, off, none⟩ ∧ ∀ W, Below w.heap.size w W → W.cell? ⟨b, off + 2 * k, none⟩ = some (.int .i32 P[k].1) ∧ W.cell? ⟨b, off + (2 * k + 1), none⟩ = some (.int .i32 P[k].2)) := Lib.hid (fun k h => by
    obtain ⟨b, off, ha, hb⟩ := hab (2 * k) (by rw [hfl]; omega)
    refine ⟨b, off, ha, fun W hW => ?_⟩
    have h1 := hcs b off ha (2 * k) (by rw [hfl]; omega) W hW
    have h2 := hcs b off ha (2 * k + 1) (by rw [hfl]; omega) W hW
    obtain ⟨g1, g2⟩ := hget k h
    rw [List.getElem?_eq_getElem (by rw [hfl]; omega)] at g1 g2
    rw [Option.some.inj g1] at h1
    rw [Option.some.inj g2] at h2
    exact ⟨h1, h2⟩)
  clear hv hab hcs hget
  rw [hfl]
  obtain ⟨N, hN⟩ : ∃ N, 2 * P.length = N := ⟨_, rfl⟩
  rw [hN]
  have HN := Lib.hid hN
  have hNl : N ≤ 4200 := by omega
  have HBD := Lib.hid (fun k (h : k < P.length) => hP P[k] (List.getElem_mem h))
  obtain ⟨R, hR⟩ : ∃ R, othL 0 [] (flat P) = R := ⟨_, rfl⟩
  rw [hR]
  have HR := Lib.hid hR
  clear hfl hN hP hR
  unfold maxLen at hcm
  go_enter Tryd.func49, Tryd.ntmps49
  go_wp2_with fail
  go_loopw [3, 4, 5] (fun o fr i wr => ∃ (k j : Nat) (out : List Int) (f : Int), k ≤ P.length ∧ 2 * k = j ∧ i = .int .i64 (j : Int) ∧ fr = .int .i32 f ∧ 0 ≤ f ∧ f ≤ 1114112 ∧ othL f out (flat (P.drop k)) = R ∧ out.length ≤ j ∧ wr.ownsRow w.heap.size 21 1 o out.length (out.map rCell) ∧ Below w.heap.size w wr) (fun _ _ i _ => N - (intOf i).toNat)
  case atStart => exact ⟨0, 0, [], 0, by omega, rfl, rfl, rfl, by omega, by omega, by rw [List.drop_zero]; exact HR.out, by simp, World.ownsRow_nil _ _ _ _, Below.refl _ _⟩
  case round =>
    obtain ⟨k, j, out, f, hk, hj, rfl, rfl, hf0, hf1, hoth, hlen, hown, hbr⟩ := hrel
    have HJ := Lib.hid hj
    have hjN : j ≤ N := by have := HN.out; omega
    have HOWN := Lib.hid hown
    obtain ⟨oa, oc, rfl⟩ := owns_slice hown
    have hsz := hbr.size
    by_cases hlt : k < P.length
    · have hj1 : j < N := by have := HN.out; omega
      have hj2 : j + 1 < N := by have := HN.out; omega
      obtain ⟨b, off, rfl, hcell⟩ := HCS.out k hlt
      have hcell' := fun W hW => hcell W hW
      rw [hj] at hcell'
      obtain ⟨x1, x2⟩ := hcell' wr hbr
      have HC := Lib.hid hcell'
      obtain ⟨b1, b2, b3⟩ := HBD.out k hlt
      rw [flat_drop P k hlt] at hoth
      unfold othL at hoth
      generalize P[k].1 = q1 at *
      generalize P[k].2 = q2 at *
      obtain ⟨m, hm⟩ : ∃ m, out.length = m := ⟨_, rfl⟩
      rw [hm] at HOWN hlen ⊢
      have HM := Lib.hid hm
      have y1 : IntKind.i64.wrap ((j : Int) + 1) = (j : Int) + 1 := IntWalk.i64_in _ (by omega)
      have y2 : 0 ≤ (j : Int) + 1 := by omega
      have y3 : ((j : Int) + 1).toNat = j + 1 := by omega
      have y4 : (j : Int) + 1 < (N : Int) := by omega
      have y5 : (1 : Int) ≤ q1 ∨ True := .inr trivial
      clear hj hcell hcell' hown hm y5
      by_cases hfq : f < q1
      · have hd : decide (f < q1) = true := decide_eq_true hfq
        rw [if_pos hfq] at hoth
        have HO := Lib.hid hoth
        clear hoth
        go_wp2_with (at_builtin; go_loud (refine wpList_append_src rfl _ _ _ _ rfl w.heap.size ERn _ m (out.map rCell) rfl (owns_below HOWN.out (by (repeat (first | assumption | with_reducible exact Below.refl _ _ | (with_reducible refine belowA' ?_ (by first | omega | (simp; done) | (simp; omega))) | with_reducible refine Below.drew ?_ | with_reducible refine below_dN ?_ _)); done)) _ 2 [.int .i32 (f), .int .i32 (q1 - 1)] rfl (by exact src_last (cs := #[.int .i32 (f), .int .i32 (q1 - 1)]) Tryd.underlying31 2 2 1 (by simp) rfl (by simp [Value.oneCell'])) (by unfold maxLen; omega) (by omega) (by first | omega | (simp; done) | (simp; omega)) ?_); intro v9 w9 hown9 hgr9 _ _; have hb9 : Below w.heap.size w w9 := Below.grown (Below.trans hbr (Below.mono (show Below wr.heap.size wr _ from (by (repeat (first | assumption | with_reducible exact Below.refl _ _ | (with_reducible refine belowA' ?_ (by first | omega | (simp; done) | (simp; omega))) | with_reducible refine Below.drew ?_ | with_reducible refine below_dN ?_ _)); done)) hsz)) hgr9 (by first | omega | (simp; omega)) (fun g hg => (HOWN.out.lt g hg).1); obtain ⟨x3, x4⟩ := HC.out w9 hb9; have HOWN9 := Lib.hid hown9; clear hown9 hgr9)
        go_roundw
        case rel => exact ⟨k + 1, j + 2, out ++ [f, q1 - 1], q2 + 1, by omega, by have := HJ.out; omega, by go_num, by first | rfl | go_num, by omega, by omega, HO.out, by rw [List.length_append, HM.out]; show m + 2 ≤ _; omega, by rw [List.length_append, HM.out, List.map_append]; exact HOWN9.out, hb9⟩
        case measure => simp [intOf]; omega
      · have hd : decide (f < q1) = false := decide_eq_false hfq
        rw [if_neg hfq] at hoth
        have HO := Lib.hid hoth
        clear hoth
        go_wp2_with fail
        go_roundw
        case rel => exact ⟨k + 1, j + 2, out, q2 + 1, by omega, by have := HJ.out; omega, by go_num, by first | rfl | go_num, by omega, by omega, HO.out, by rw [HM.out]; omega, by rw [HM.out]; exact HOWN.out, hbr⟩
        case measure => simp [intOf]; omega
    · obtain rfl : k = P.length := by omega
      have hjN' : j = N := by have := HN.out; omega
      subst hjN'
      rw [List.drop_length] at hoth
      unfold flat at hoth
      rw [List.flatMap_nil] at hoth
      unfold othL at hoth
      obtain ⟨m, hm⟩ : ∃ m, out.length = m := ⟨_, rfl⟩
      rw [hm] at HOWN hlen ⊢
      have HM := Lib.hid hm
      clear hj hown hm
      by_cases hfq : f ≤ 1114111
      · have hd : decide (f ≤ 1114111) = true := decide_eq_true hfq
        rw [if_pos hfq] at hoth
        have HO := Lib.hid hoth
        clear hoth
        go_wp2_with (at_builtin; go_loud (refine wpList_append_src rfl _ _ _ _ rfl w.heap.size ERn _ m (out.map rCell) rfl (owns_below HOWN.out (by (repeat (first | assumption | with_reducible exact Below.refl _ _ | (with_reducible refine belowA' ?_ (by first | omega | (simp; done) | (simp; omega))) | with_reducible refine Below.drew ?_ | with_reducible refine below_dN ?_ _)); done)) _ 2 [.int .i32 (f), .int .i32 (1114111)] rfl (by exact src_last (cs := #[.int .i32 (f), .int .i32 (1114111)]) Tryd.underlying31 2 2 1 (by simp) rfl (by simp [Value.oneCell'])) (by unfold maxLen; omega) (by omega) (by first | omega | (simp; done) | (simp; omega)) ?_); intro v9 w9 hown9 hgr9 _ _)
        go_ret
        exact ⟨_, rfl, by rw [← HO.out, List.length_append, HM.out, List.map_append]; exact hown9, Below.grown (Below.trans hbr (Below.mono (show Below wr.heap.size wr _ from (by (repeat (first | assumption | with_reducible exact Below.refl _ _ | (with_reducible refine belowA' ?_ (by first | omega | (simp; done) | (simp; omega))) | with_reducible refine Below.drew ?_ | with_reducible refine below_dN ?_ _)); done)) hsz)) hgr9 (by first | omega | (simp; omega)) (fun g hg => (HOWN.out.lt g hg).1)⟩
      · have hd : decide (f ≤ 1114111) = false := decide_eq_false hfq
        rw [if_neg hfq] at hoth
        have HO := Lib.hid hoth
        clear hoth
        go_wp2_with fail
        go_ret
        exact ⟨_, rfl, by rw [← HO.out, HM.out]; exact HOWN.out, hbr⟩
end Go.Proofs.YthmhmckkkceclaaDoor
