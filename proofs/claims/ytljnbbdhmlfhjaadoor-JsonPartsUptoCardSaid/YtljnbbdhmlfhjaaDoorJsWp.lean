/-
  json.writer: list, of an object.
-/
import Derived.Test.YtljnbbdhmlfhjaaDoorJsWo
namespace Go.Proofs.YtljnbbdhmlfhjaaDoor
open Go.RowKit
/-- An object's members so far. -/
structure MIt (B q : Nat) (w : World) (out : Bs) (bad : Bool) (d : Nat) (l : List (Bs × J)) (i : Nat) (W : World) (out' : Bs) (bad' : Bool) : Prop where
  st : WSt B q out' bad' W
  wt : Went B q w W
  fl : bad' = (bad || !okWM d (l.take i))
  eq : bad' = false → out' = out ++ 123 :: formM (l.take i)
  le : out'.length ≤ out.length + 1 + (formM (l.take i)).length
theorem MIt.done {B q d i : Nat} {w W : World} {out out' : Bs} {bad bad' : Bool} {l : List (Bs × J)} (h : MIt B q w out bad d l i W out' bad') (hb : bad' = true) : WEnd B q w out bad (okWM d l) (123 :: (formM l ++ [125])) (.returned (.tuple #[])) W := by
  have h1 := h.fl
  have h2 := formM_take l i
  have h3 := h.le
  refine ⟨rfl, out', bad', h.st, h.wt, ?_, fun e => ?_, ?_⟩
  · rw [hb] at h1 ⊢
    cases bad with
    | true => rfl
    | false =>
      cases hk : okWM d l with
      | false => rfl
      | true => rw [okWM_take d l i hk] at h1; cases h1
  · rw [hb] at e; cases e
  · simp only [List.length_cons, List.length_append, List.length_nil]; omega
theorem MIt.fin {B q d : Nat} {w W W' : World} {out out' : Bs} {bad bad' : Bool} {l : List (Bs × J)} (h : MIt B q w out bad d l l.length W out' bad') (hs : WSt B q (out' ++ [125]) bad' W') (hg : Went B q W W') : WEnd B q w out bad (okWM d l) (123 :: (formM l ++ [125])) (.returned (.tuple #[])) W' := by
  have h1 := h.fl
  have h3 := h.le
  have h4 := h.eq
  rw [List.take_length] at h1 h3 h4
  refine ⟨rfl, _, bad', hs, h.wt.trans hg, h1, fun e => ?_, ?_⟩
  · rw [h4 e]; simp
  · simp only [List.length_cons, List.length_append, List.length_nil]; omega
theorem MIt.next {B q d i : Nat} {w W W' : World} {out out' out1 : Bs} {bad : Bool} {l : List (Bs × J)} (h : MIt B q w out bad d l i W out' false) (hi : i < l.length) (h1 : out1 = out' ++ (if i = 0 then [] else [44])) {out2 : Bs} {bad2 : Bool} (hs : WSt B q out2 bad2 W') (hg : Went B q W W')
    (hb : bad2 = (false || !okWE d l[i])) (he : bad2 = false → out2 = out1 ++ formE l[i]) (hl : out2.length ≤ out1.length + (formE l[i]).length) : MIt B q w out bad d l (i + 1) W' out2 bad2 := by
  have htk : l.take (i + 1) = l.take i ++ [l[i]] := List.take_succ_eq_append_getElem hi
  have h0 : (l.take i = []) ↔ i = 0 := by
    rw [List.take_eq_nil_iff]
    constructor
    · rintro (h | h)
      · exact h
      · rw [h] at hi; cases hi
    · exact .inl
  have hfl := h.fl
  have heq := h.eq rfl
  have hle := h.le
  have hf : formM (l.take (i + 1)) = formM (l.take i) ++ (if i = 0 then [] else [44]) ++ formE l[i] := by
    rw [htk, formM_snoc]
    by_cases hz : i = 0
    · rw [if_pos (h0.2 hz), if_pos hz]
    · rw [if_neg (fun e => hz (h0.1 e)), if_neg hz]
  refine ⟨hs, h.wt.trans hg, ?_, fun e => ?_, ?_⟩
  · rw [hb, htk, okWM_snoc]
    cases bad
    · cases hk : okWM d (l.take i)
      · rw [hk] at hfl; cases hfl
      · simp
    · cases hfl
  · rw [he e, h1, heq, hf]; simp
  · rw [hf, List.length_append, List.length_append]
    rw [h1, List.length_append] at hl
    omega
set_option maxRecDepth 100000 in
set_option maxHeartbeats 20000000 in
theorem list_obj {B q d k kx : Nat} {S : Nat → Prop} {sv : Value} {l : List (Bs × J)} {vs : List Value} {out : Bs} {bad : Bool} {w : World} (hx : ∀ x ∈ l, WOk x.2) (hw : WSt B q out bad w) (hc : CapO B q d k kx sv w) (hT : TabB B w)
    (hrow : RowS w S sv l.length 2 vs) (hrep : RepM w S l vs) (hS : ∀ k, S k → k < B) (hd : d + 1 + (formM l).length ≤ 2199023255552) (hl : out.length + 6 * (formM l).length + 14 ≤ 1099511627776) :
    Calls Tryd.prog 47 #[.pointer (some ⟨q, 0, none⟩), .int .u8 123, .int .u8 125, .int .i64 (l.length : Int), .func (.func 49) #[] #[.pointer (some ⟨k, 0, none⟩), .pointer (some ⟨kx, 0, none⟩), .pointer (some ⟨k + 1, 0, none⟩)]] w (WEnd B q w out bad (okWM (d + 1) l) (123 :: (formM l ++ [125]))) := by
  have C1 := w_byte B q out bad 123 123 rfl w hw (by omega)
  have HP := Lib.hid (fun (i : Nat) (hi : i < l.length) (W : World) (o : Bs) (b : Bool) (hW : WSt B q o b W) (hg : Went B q w W) (ho : o.length + 6 * (formE l[i]).length + 2 ≤ 1099511627776) =>
    part_obj i hi (hx _ (List.getElem_mem hi)) hW (hc.to hg.2) (hT.to hg.1) (hrow.low hS hg.1) (hrep.low hS hg.1) hS (by have := mem_le l i hi; omega) ho)
  have hrl := repM_len hrep
  have hle : l.length ≤ (formM l).length + 1 := by
    have : ∀ m : List (Bs × J), m.length ≤ (formU m).length := by
      intro m
      induction m with
      | nil => exact Nat.le_refl _
      | cons y m ih => simp only [formU, List.length_cons, List.length_append]; omega
    cases l with
    | nil => simp
    | cons y m =>
      have := this m
      simp only [formM, List.length_cons, List.length_append]
      omega
  have hnl : l.length ≤ 1099511627776 := by omega
  have HL := Lib.hid hl
  clear hx hw hc hT hrow hrep hS hrl hle hl
  obtain ⟨n, hn⟩ : ∃ n, l.length = n := ⟨_, rfl⟩
  have HN := Lib.hid hn
  rw [hn] at hnl ⊢
  clear hn
  go_enter Tryd.func47, Tryd.ntmps47
  go_upto_region 2 with (go_at_call 50; refine C1.mono ?_; rintro e w1 ⟨rfl, hw1, hg1⟩; have H1 := Lib.hid (And.intro hw1 hg1); clear hw1 hg1)
  go_loopw [17] (fun iv wr => ∃ (i : Nat) (out' : Bs) (bad' : Bool), iv = .int .i64 i ∧ i ≤ n ∧ MIt B q w out bad (d + 1) l i wr out' bad') (fun iv _ => n - (intOf iv).toNat)
  case atStart => exact ⟨0, _, bad, rfl, by omega, ⟨H1.out.1, H1.out.2, by simp [okWM], fun _ => by simp [formM], by simp⟩⟩
  case round =>
    obtain ⟨i, out', bad', rfl, hi, hlt⟩ := hrel
    obtain ⟨c2, f2⟩ := hlt.st.flag
    have H := Lib.hid hlt
    clear hlt
    by_cases hin : i < n
    · cases bad' with
      | true =>
        clear C1 H1 HP HL
        go_wp2_with fail
        go_end0
        exact H.out.done rfl
      | false =>
        have hil : i < l.length := by rw [HN.out]; exact hin
        have hlen : out'.length + 6 * (formE l[i]).length + 4 ≤ 1099511627776 := by
          have h1 := H.out.le
          have h2 := HL.out
          have htk : l.take (i + 1) = l.take i ++ [l[i]] := List.take_succ_eq_append_getElem hil
          have h3 := formM_take l (i + 1)
          rw [htk, formM_snoc, List.length_append, List.length_append] at h3
          omega
        have HLEN := Lib.hid hlen
        clear hlen C1 H1
        by_cases h0 : i = 0
        · subst h0
          have CP := HP.out 0 hil wr out' false H.out.st H.out.wt (by have := HLEN.out; omega)
          go_wp2_with (go_at_call 49; refine CP.mono ?_; rintro e w2 ⟨rfl, o2, b2, h1, h2, h3, h4, h5⟩; have H2 := Lib.hid (H.out.next hil (by rw [if_pos rfl, List.append_nil]) h1 h2 h3 h4 h5); clear h1 h2 h3 h4 h5)
          go_roundw
          case rel => exact ⟨1, o2, b2, by go_num, by omega, H2.out⟩
          case measure => simp [intOf]; omega
        · have hgt : decide ((0 : Int) < (i : Int)) = true := decide_eq_true (by omega)
          have hgt2 : decide (0 < i) = true := decide_eq_true (by omega)
          have hgt3 : 0 < i := by omega
          have CB := w_byte B q out' false 44 44 rfl wr H.out.st (by have := HLEN.out; omega)
          have HP2 := Lib.hid (fun (W : World) (hW : WSt B q (out' ++ [44]) false W) (hg : Went B q wr W) => HP.out i hil W (out' ++ [44]) false hW (H.out.wt.trans hg) (by have := HLEN.out; rw [List.length_append, List.length_singleton]; omega))
          go_wp2_with (first | (go_at_call 50; refine CB.mono ?_; rintro e w3 ⟨rfl, hw3, hg3⟩; have H3 := Lib.hid (And.intro hw3 hg3); have CP := HP2.out w3 hw3 hg3; clear hw3 hg3) | (go_at_call 49; refine CP.mono ?_; rintro e w2 ⟨rfl, o2, b2, h1, h2, h3, h4, h5⟩; have H2 := Lib.hid (H.out.next hil (by rw [if_neg h0]) h1 (H3.out.2.trans h2) h3 h4 h5); clear h1 h2 h3 h4 h5))
          go_roundw
          case rel => exact ⟨i + 1, o2, b2, by go_num, by omega, H2.out⟩
          case measure => simp [intOf]; omega
    · have hie : i = n := by omega
      have hil : i = l.length := by rw [HN.out]; exact hie
      have hlen : out'.length + 4 ≤ 1099511627776 := by
        have h1 := H.out.le
        have h2 := HL.out
        have h3 := formM_take l i
        omega
      have CB := w_byte B q out' bad' 125 125 rfl wr H.out.st (by omega)
      have HIL := Lib.hid hil
      clear hil hlen HP HL C1 H1
      subst hie
      go_wp2_with (go_at_call 50; refine CB.mono ?_; rintro e w3 ⟨rfl, hw3, hg3⟩; have H3 := Lib.hid (And.intro hw3 hg3); clear hw3 hg3)
      go_end0
      have hh := H.out
      rw [HIL.out] at hh
      exact hh.fin H3.out.1 H3.out.2
end Go.Proofs.YtljnbbdhmlfhjaaDoor
