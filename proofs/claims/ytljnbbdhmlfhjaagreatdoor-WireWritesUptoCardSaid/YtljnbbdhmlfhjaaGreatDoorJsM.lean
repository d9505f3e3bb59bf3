/-
  json.Parse: a text that is valid.
-/
import Derived.Test.YtljnbbdhmlfhjaaGreatDoorJsTwo
namespace Go.Proofs.YtljnbbdhmlfhjaaGreatDoor
open Go.RowKit
theorem two_setJ {w : World} {b : Nat} {x y : Value} (x' y' : Value) (h0 : w.cell? ⟨b, 0, none⟩ = some x) (h1 : w.cell? ⟨b + 1, 0, none⟩ = some y) :
    ((w.setCell ⟨b, 0, none⟩ x').setCell ⟨b + 1, 0, none⟩ y').cell? ⟨b, 0, none⟩ = some x' ∧ ((w.setCell ⟨b, 0, none⟩ x').setCell ⟨b + 1, 0, none⟩ y').cell? ⟨b + 1, 0, none⟩ = some y' ∧
      ((w.setCell ⟨b, 0, none⟩ x').setCell ⟨b + 1, 0, none⟩ y').heap.size = w.heap.size := by
  refine ⟨?_, ?_, ?_⟩
  · simp [go_sem, h0]
  · simp [go_sem, h1]
  · simp
theorem parseE_of {b : Bs} (h : b.length ≤ 16384) (hv : Lib.validD b = true) : parseE b = match docJ b with
    | none => 6
    | some j => if 16 < deepJ j then 9 else 0 := by
  unfold parseE
  rw [if_neg (by omega), hv, if_neg (by simp)]
  cases docJ b <;> rfl
theorem parseJ_of {b : Bs} {j : J} (h : b.length ≤ 16384) (hv : Lib.validD b = true) (hj : docJ b = some j) (hd : ¬ 16 < deepJ j) : parseJ b = j := by
  unfold parseJ
  rw [if_neg (by simp [hv]; omega), hj]
  simp only []
  rw [if_neg hd]
/-- The parser's end: the result lies in its cell. -/
structure JEnd (w w5 w6 : World) (p : Nat) (lo : Nat) (v : Value) (j : J) (r : Bs) : Prop where
  c0 : w6.cell? ⟨w.heap.size, 0, none⟩ = some v
  c1 : w6.cell? ⟨w.heap.size + 1, 0, none⟩ = some (.int .i64 0)
  f0 : w6.frozen? ⟨w.heap.size, 0, none⟩ = false
  f1 : w6.frozen? ⟨w.heap.size + 1, 0, none⟩ = false
  hsz : w.heap.size + 1 < w6.heap.size
  hbel : Below w.heap.size w w6
  row : ∃ a cap, w6.cell? ⟨p, 0, none⟩ = some (.slice a r.length cap)
  most : w6.cell? ⟨p, 2, none⟩ = some (.int .i64 (deepJ j : Int))
  rep : RepJ w6 (Nw lo w6) j v
theorem js_end {w w4 w5 : World} {p lo : Nat} {v : Value} {j : J} {r : Bs} (hj : JS w5 p r 0 (max 0 (0 + deepJ j))) (hu : RepJ w5 (Nw w4.heap.size w5) j v) (_hs : w4.heap.size ≤ w5.heap.size) (hlt : p < w4.heap.size) (hpw : w.heap.size + 2 ≤ p) (hb : Below w.heap.size w w5)
    (y0 : w5.cell? ⟨w.heap.size, 0, none⟩ = some .nilIface) (y1 : w5.cell? ⟨w.heap.size + 1, 0, none⟩ = some (.int .i64 0)) (y2 : w5.frozen? ⟨w.heap.size, 0, none⟩ = false) (y3 : w5.frozen? ⟨w.heap.size + 1, 0, none⟩ = false) (y4 : w.heap.size + 1 < w5.heap.size) (hlo : lo = w4.heap.size) :
    JEnd w w5 (w5.setCell ⟨w.heap.size, 0, none⟩ v) p lo v j r := by
  subst hlo
  obtain ⟨sv, hst⟩ := hj
  obtain ⟨⟨k0, -, k2⟩, -⟩ := hst.cells
  obtain ⟨a, cap, rfl, -⟩ := hst.shape
  have hne : ∀ k, k ≠ w.heap.size → (w5.setCell ⟨w.heap.size, 0, none⟩ v).heap[k]? = w5.heap[k]? := fun k hk => Below.heap_setCell _ _ _ _ hk
  refine ⟨by simp [go_sem, y0], ?_, by simp [go_sem, y2], ?_, by simp; omega, hb.setCell (p := ⟨w.heap.size, 0, none⟩) (Nat.le_refl _) _, ⟨a, cap, ?_⟩, ?_, ?_⟩
  · rw [cell_same (hne _ (by omega))]; exact y1
  · simp [go_sem, y3]
  · rw [cell_same (hne _ (by omega))]; exact k0
  · rw [cell_same (hne _ (by omega)), k2, show max 0 (0 + deepJ j) = deepJ j by omega]
  · exact RepJ.to (fun k hk => ⟨⟨hk.1, by simp; exact hk.2⟩, fun _ => hne k (by have := hk.1; omega)⟩) j v hu
set_option maxRecDepth 100000 in
set_option maxHeartbeats 20000000 in
theorem js_Parse_go (v : Value) (b : Bs) (w : World) (hT : Tabs w) (hv : argRow w v b.length 1 (b.map bCell)) (h : b.length ≤ 16384) (hval : Lib.validD b = true) : Calls Tryz.prog 15 #[v] w (ParsedJ w b) := by
  have hmf : ∀ (fn : Fn) (first cap : Array Value) (w : World), (Instr.makeFunc fn first cap).run Tryz.prog w = .ok (.func fn first cap) w := fun _ _ _ _ => rfl
  have hd : decide ((16384 : Int) < (b.length : Int)) = false := decide_eq_false (by omega)
  have HPE := Lib.hid (parseE_of h hval)
  have HPJ := Lib.hid (fun j => parseJ_of (j := j) h hval)
  have CV := Lib.hid (fun W (hW : Below w.heap.size w W) => utf_Valid ⟨b.toArray⟩ W (by show b.length ≤ maxLen; unfold maxLen; omega) (Utf8Tabs_below hT hW))
  have HCV := Lib.hid (fun W (hW : Below w.heap.size w W) => conv_arg (argRow_below hv hW))
  rw [show (⟨b.toArray⟩ : ByteArray).data.toList = b from by simp, hval] at CV
  obtain ⟨T, hT'⟩ : ∃ T : ByteArray, (⟨b.toArray⟩ : ByteArray) = T := ⟨_, rfl⟩
  rw [hT'] at CV HCV
  have HV := Lib.hid hv
  have HL := Lib.hid h
  obtain ⟨-, a, cap, rfl, -⟩ := hv
  clear hT hval hT' h
  obtain ⟨n, hn⟩ : ∃ n, b.length = n := ⟨_, rfl⟩
  have HN := Lib.hid hn
  rw [hn] at hd HV HCV HL ⊢
  clear hn
  go_enter_defers Tryz.func15, Tryz.ntmps15
  go_upto_region 3 with fail
  have hb2 : Below w.heap.size w ((w.alloc (.cells #[.nilIface] 20)).alloc (.cells #[.int .i64 0] 25)) := belowAJ (belowAJ (Below.refl _ _) (Nat.le_refl _)) (by simp)
  have c0 : ((w.alloc (.cells #[.nilIface] 20)).alloc (.cells #[.int .i64 0] 25)).cell? ⟨w.heap.size, 0, none⟩ = some .nilIface := by simp [go_sem]
  have c1 : ((w.alloc (.cells #[.nilIface] 20)).alloc (.cells #[.int .i64 0] 25)).cell? ⟨w.heap.size + 1, 0, none⟩ = some (.int .i64 0) := by simp [go_sem]
  have f0 : ((w.alloc (.cells #[.nilIface] 20)).alloc (.cells #[.int .i64 0] 25)).frozen? ⟨w.heap.size, 0, none⟩ = false := by simp [go_sem]
  have f1 : ((w.alloc (.cells #[.nilIface] 20)).alloc (.cells #[.int .i64 0] 25)).frozen? ⟨w.heap.size + 1, 0, none⟩ = false := by simp [go_sem]
  have hsz : ((w.alloc (.cells #[.nilIface] 20)).alloc (.cells #[.int .i64 0] 25)).heap.size = w.heap.size + 2 := by simp
  generalize (w.alloc (.cells #[.nilIface] 20)).alloc (.cells #[.int .i64 0] 25) = w2 at *
  have CV2 := CV.out w2 hb2
  have hcv2 := HCV.out w2 hb2
  clear CV HCV
  go_upto_region 5 with (go_at_call 41; refine CV2.mono ?_; rintro e w3 ⟨rfl, hb3⟩)
  have hsz3 := hb3.size
  clear CV2 hcv2 hd
  go_upto_region 7 with fail
  have hx1 : (w3.alloc (.cells #[.slice a n cap, .int .i64 0, .int .i64 0] 85)).heap[w3.heap.size]? = some (jpObj (.slice a n cap) 0 0) := heap_alloc_new w3 _
  have hb4 : Below w3.heap.size w3 (w3.alloc (.cells #[.slice a n cap, .int .i64 0, .int .i64 0] 85)) := belowAJ (Below.refl _ _) (Nat.le_refl _)
  generalize (w3.alloc (.cells #[.slice a n cap, .int .i64 0, .int .i64 0] 85)) = w4 at *
  have hlt4 : w3.heap.size < w4.heap.size := (Array.getElem?_eq_some_iff.1 hx1).1
  have hbw4 : Below w.heap.size w w4 := hb2.trans ((hb3.trans (hb4.mono hsz3)).mono (by omega))
  have hJS : JS w4 w3.heap.size b 0 0 := by
    refine ⟨_, hx1, fun W hW => ?_⟩
    rw [HN.out]
    exact argRow_below HV.out (hbw4.trans (hW.mono (by omega)))
  have l0 : (⟨w.heap.size, 0, none⟩ : Addr).block < w2.heap.size := by rw [hsz]; show w.heap.size < w.heap.size + 2; omega
  have l1 : (⟨w.heap.size + 1, 0, none⟩ : Addr).block < w2.heap.size := by rw [hsz]; show w.heap.size + 1 < w.heap.size + 2; omega
  have hcells : ∀ W, w4.grownBy W (some w3.heap.size) → W.cell? ⟨w.heap.size, 0, none⟩ = some .nilIface ∧ W.cell? ⟨w.heap.size + 1, 0, none⟩ = some (.int .i64 0) ∧ W.frozen? ⟨w.heap.size, 0, none⟩ = false ∧ W.frozen? ⟨w.heap.size + 1, 0, none⟩ = false ∧ w.heap.size + 1 < W.heap.size ∧ Below w.heap.size w W := fun W hW => by
    have hlow := grown_low hW (Nat.le_of_lt hlt4)
    have hbW : Below w2.heap.size w2 W := hb3.trans ((hb4.mono hsz3).trans (hlow.mono (by omega)))
    exact ⟨(hbW.cell l0).trans c0, (hbW.cell l1).trans c1, (hbW.frozen l0).trans f0, (hbW.frozen l1).trans f1, by have := hbW.size; omega, hbw4.trans (hlow.mono (by omega))⟩
  have HCELL := Lib.hid hcells
  have CA := js_values n w3.heap.size w4 b 0 0 (by rw [HN.out]; exact Nat.le_refl _) (by rw [HN.out]; have := HL.out; omega) hJS (Nat.le_refl _) (by rw [HN.out]; have := HL.out; omega)
  have hp0 : w.heap.size + 2 ≤ w3.heap.size := by omega
  clear hx1 hb4 hJS hcells c0 c1 f0 f1 hb2 hb3 hmf l0 l1
  obtain ⟨p, hp⟩ : ∃ p, w3.heap.size = p := ⟨_, rfl⟩
  rw [hp] at CA HCELL hlt4 ⊢
  have hpw : w.heap.size + 2 ≤ p := by omega
  clear hp hp0 hsz3
  have hdoc : docJ b = match valP (n + 1) b with
      | some (j, []) => some j
      | _ => none := by
    unfold docJ
    rw [HN.out]
    rfl
  have HDOC := Lib.hid hdoc
  clear hdoc
  cases hvp : valP (n + 1) b with
  | none =>
    have hEE : parseE b = 6 := by rw [HPE.out, HDOC.out, hvp]
    have HEE := Lib.hid hEE
    rw [hvp] at CA
    clear hEE hvp
    go_wp2_with (go_at_call 43; refine CA.mono ?_; rintro e w5 ⟨rfl, hg5⟩)
    refine leaves_cons (f := 42) (args := #[.pointer (some ⟨w.heap.size, 0, none⟩), .pointer (some ⟨w.heap.size + 1, 0, none⟩)]) (by simp) (by simp [go_sem]) ?_
    obtain ⟨y0, y1, y2, y3, y4, y5⟩ := HCELL.out w5 hg5
    refine (catch_faultJ w.heap.size w5 [] _ _ y4 y0 y1 y2 y3).mono ?_
    rintro e u' w'' ⟨rfl, rfl, hc1, hc2, hbz⟩
    exact ⟨_, by simp [results, Tryz.results15, go_sem, hc1, hc2], ParsedJ.bad 6 HEE.out (by decide) (y5.trans hbz)⟩
  | some x =>
    obtain ⟨j, r⟩ := x
    rw [hvp] at CA
    have HVP := Lib.hid hvp
    clear hvp
    rcases val_kind CA with CW | CW
    · clear CA
      go_upto_region 8 with (go_at_call 43; refine CW.mono ?_; rintro e w5 ⟨TT, xx, rfl, hj5, hg5, hu5⟩; obtain ⟨y0, y1, y2, y3, y4, y5⟩ := HCELL.out w5 hg5; have H5 := Lib.hid (And.intro hj5 (And.intro hg5 (And.intro hu5 y5))); clear hj5 hg5 hu5 y5)
      have hs5 := H5.out.2.1.size
      have hpe := js_end H5.out.1 H5.out.2.2.1 hs5 hlt4 hpw H5.out.2.2.2 y0 y1 y2 y3 y4 rfl
      clear y0 y1 y2 y3 y4 H5
      obtain ⟨w6, hw6⟩ : ∃ w6, w5.setCell ⟨w.heap.size, 0, none⟩ .nilIface = w6 := ⟨_, rfl⟩
      rw [hw6] at hpe ⊢
      have HPEND := Lib.hid hpe
      have hlo : w.heap.size + 2 ≤ w4.heap.size := by omega
      clear hw6 hs5
      obtain ⟨⟨ra, rc, k0⟩, k2⟩ := And.intro hpe.row hpe.most
      obtain ⟨x0, x1, x2, x3, x4, x5⟩ := And.intro hpe.c0 (And.intro hpe.c1 (And.intro hpe.f0 (And.intro hpe.f1 (And.intro hpe.hsz hpe.hbel))))
      have HX5 := Lib.hid x5
      clear hpe x5
      cases r with
      | cons c rest =>
        have hEE : parseE b = 6 := by rw [HPE.out, HDOC.out, HVP.out]
        have HEE := Lib.hid hEE
        have hd0 : (((rest.length : Int) + 1) == 0) = false := by simp; omega
        clear hEE CW
        rw [List.length_cons] at k0
        go_wp2_with (go_at_call 44; refine (js_mustnt p _).mono ?_; rintro e w7 ⟨rfl, rfl⟩)
        refine leaves_cons (f := 42) (args := #[.pointer (some ⟨w.heap.size, 0, none⟩), .pointer (some ⟨w.heap.size + 1, 0, none⟩)]) (by simp) (by simp [go_sem]) ?_
        refine (catch_faultJ w.heap.size w6 [] _ _ x4 x0 x1 x2 x3).mono ?_
        rintro e u' w'' ⟨rfl, rfl, hc1, hc2, hbz⟩
        exact ⟨_, by simp [results, Tryz.results15, go_sem, hc1, hc2], ParsedJ.bad 6 HEE.out (by decide) (HX5.out.trans hbz)⟩
      | nil =>
        have hdj : docJ b = some j := by rw [HDOC.out, HVP.out]
        have HDJ := Lib.hid hdj
        clear hdj CW
        rw [List.length_nil] at k0
        by_cases hdp : 16 < deepJ j
        · have hd1 : decide ((16 : Int) < (deepJ j : Int)) = true := decide_eq_true (by omega)
          have hEE : parseE b = 9 := by rw [HPE.out, HDJ.out]; exact if_pos hdp
          have HEE := Lib.hid hEE
          clear hEE
          go_wp2_with (go_at_call 44; refine (js_must p _).mono ?_; rintro e w7 ⟨rfl, rfl⟩)
          refine leaves_cons (f := 42) (args := #[.pointer (some ⟨w.heap.size, 0, none⟩), .pointer (some ⟨w.heap.size + 1, 0, none⟩)]) (by simp) (by simp [go_sem]) ?_
          refine (catch_idleJ ⟨w.heap.size, 0, none⟩ ⟨w.heap.size + 1, 0, none⟩ _).mono ?_
          rintro e u' w'' ⟨rfl, rfl, hbz⟩
          obtain ⟨q0, q1, q2⟩ := two_setJ .nilIface (.int .i64 9) x0 x1
          have q0 := (hbz.cell (p := ⟨w.heap.size, 0, none⟩) (by rw [q2]; show w.heap.size < _; omega)).trans q0
          have q1 := (hbz.cell (p := ⟨w.heap.size + 1, 0, none⟩) (by rw [q2]; exact x4)).trans q1
          exact ⟨_, by simp [results, Tryz.results15, go_sem, q0, q1], ParsedJ.bad 9 HEE.out (by decide) (((HX5.out.setCell (p := ⟨w.heap.size, 0, none⟩) (Nat.le_refl _) _).setCell (p := ⟨w.heap.size + 1, 0, none⟩) (Nat.le_succ _) _).trans (hbz.mono (by rw [q2]; exact HX5.out.size)))⟩
        · have hd1 : decide ((16 : Int) < (deepJ j : Int)) = false := decide_eq_false (by omega)
          have hEE : parseE b = 0 := by rw [HPE.out, HDJ.out]; exact if_neg hdp
          have HEE := Lib.hid hEE
          have HJJ := Lib.hid (HPJ.out j HDJ.out hdp)
          clear hEE
          go_wp2_with (go_at_call 44; refine (js_must p _).mono ?_; rintro e w7 ⟨rfl, rfl⟩)
          refine leaves_cons (f := 42) (args := #[.pointer (some ⟨w.heap.size, 0, none⟩), .pointer (some ⟨w.heap.size + 1, 0, none⟩)]) (by simp) (by simp [go_sem]) ?_
          refine (catch_idleJ ⟨w.heap.size, 0, none⟩ ⟨w.heap.size + 1, 0, none⟩ _).mono ?_
          rintro e u' w'' ⟨rfl, rfl, hbz⟩
          obtain ⟨q0, q1, q2⟩ := two_setJ .nilIface (.int .i64 0) x0 x1
          have q0 := (hbz.cell (p := ⟨w.heap.size, 0, none⟩) (by rw [q2]; show w.heap.size < _; omega)).trans q0
          have q1 := (hbz.cell (p := ⟨w.heap.size + 1, 0, none⟩) (by rw [q2]; exact x4)).trans q1
          refine ⟨.tuple #[.nilIface, .int .i64 (parseE b)], by rw [HEE.out]; simp [results, Tryz.results15, go_sem, q0, q1], .nilIface, rfl, ?_, ((HX5.out.setCell (p := ⟨w.heap.size, 0, none⟩) (Nat.le_refl _) _).setCell (p := ⟨w.heap.size + 1, 0, none⟩) (Nat.le_succ _) _).trans (hbz.mono (by rw [q2]; exact HX5.out.size))⟩
          rw [HJJ.out]
          refine RepJ.to (fun k hk => ?_) j .nilIface HPEND.out.rep
          have hk1 : w4.heap.size ≤ k := hk.1
          have hk2 : k < w6.heap.size := hk.2
          have hbs := hbz.size
          rw [q2] at hbs
          refine ⟨⟨by omega, by omega⟩, fun _ => ?_⟩
          rw [hbz.block k (by rw [q2]; exact hk2), Below.heap_setCell _ _ _ _ (show k ≠ w.heap.size + 1 by omega), Below.heap_setCell _ _ _ _ (show k ≠ w.heap.size by omega)]
    · clear CA
      go_upto_region 8 with (go_at_call 43; refine CW.mono ?_; rintro e w5 ⟨TT, xx, rfl, hj5, hg5, hu5⟩; obtain ⟨y0, y1, y2, y3, y4, y5⟩ := HCELL.out w5 hg5; have H5 := Lib.hid (And.intro hj5 (And.intro hg5 (And.intro hu5 y5))); clear hj5 hg5 hu5 y5)
      have hs5 := H5.out.2.1.size
      have hpe := js_end H5.out.1 H5.out.2.2.1 hs5 hlt4 hpw H5.out.2.2.2 y0 y1 y2 y3 y4 rfl
      clear y0 y1 y2 y3 y4 H5
      obtain ⟨w6, hw6⟩ : ∃ w6, w5.setCell ⟨w.heap.size, 0, none⟩ (.iface TT xx) = w6 := ⟨_, rfl⟩
      rw [hw6] at hpe ⊢
      have HPEND := Lib.hid hpe
      have hlo : w.heap.size + 2 ≤ w4.heap.size := by omega
      clear hw6 hs5
      obtain ⟨⟨ra, rc, k0⟩, k2⟩ := And.intro hpe.row hpe.most
      obtain ⟨x0, x1, x2, x3, x4, x5⟩ := And.intro hpe.c0 (And.intro hpe.c1 (And.intro hpe.f0 (And.intro hpe.f1 (And.intro hpe.hsz hpe.hbel))))
      have HX5 := Lib.hid x5
      clear hpe x5
      cases r with
      | cons c rest =>
        have hEE : parseE b = 6 := by rw [HPE.out, HDOC.out, HVP.out]
        have HEE := Lib.hid hEE
        have hd0 : (((rest.length : Int) + 1) == 0) = false := by simp; omega
        clear hEE CW
        rw [List.length_cons] at k0
        go_wp2_with (go_at_call 44; refine (js_mustnt p _).mono ?_; rintro e w7 ⟨rfl, rfl⟩)
        refine leaves_cons (f := 42) (args := #[.pointer (some ⟨w.heap.size, 0, none⟩), .pointer (some ⟨w.heap.size + 1, 0, none⟩)]) (by simp) (by simp [go_sem]) ?_
        refine (catch_faultJ w.heap.size w6 [] _ _ x4 x0 x1 x2 x3).mono ?_
        rintro e u' w'' ⟨rfl, rfl, hc1, hc2, hbz⟩
        exact ⟨_, by simp [results, Tryz.results15, go_sem, hc1, hc2], ParsedJ.bad 6 HEE.out (by decide) (HX5.out.trans hbz)⟩
      | nil =>
        have hdj : docJ b = some j := by rw [HDOC.out, HVP.out]
        have HDJ := Lib.hid hdj
        clear hdj CW
        rw [List.length_nil] at k0
        by_cases hdp : 16 < deepJ j
        · have hd1 : decide ((16 : Int) < (deepJ j : Int)) = true := decide_eq_true (by omega)
          have hEE : parseE b = 9 := by rw [HPE.out, HDJ.out]; exact if_pos hdp
          have HEE := Lib.hid hEE
          clear hEE
          go_wp2_with (go_at_call 44; refine (js_must p _).mono ?_; rintro e w7 ⟨rfl, rfl⟩)
          refine leaves_cons (f := 42) (args := #[.pointer (some ⟨w.heap.size, 0, none⟩), .pointer (some ⟨w.heap.size + 1, 0, none⟩)]) (by simp) (by simp [go_sem]) ?_
          refine (catch_idleJ ⟨w.heap.size, 0, none⟩ ⟨w.heap.size + 1, 0, none⟩ _).mono ?_
          rintro e u' w'' ⟨rfl, rfl, hbz⟩
          obtain ⟨q0, q1, q2⟩ := two_setJ .nilIface (.int .i64 9) x0 x1
          have q0 := (hbz.cell (p := ⟨w.heap.size, 0, none⟩) (by rw [q2]; show w.heap.size < _; omega)).trans q0
          have q1 := (hbz.cell (p := ⟨w.heap.size + 1, 0, none⟩) (by rw [q2]; exact x4)).trans q1
          exact ⟨_, by simp [results, Tryz.results15, go_sem, q0, q1], ParsedJ.bad 9 HEE.out (by decide) (((HX5.out.setCell (p := ⟨w.heap.size, 0, none⟩) (Nat.le_refl _) _).setCell (p := ⟨w.heap.size + 1, 0, none⟩) (Nat.le_succ _) _).trans (hbz.mono (by rw [q2]; exact HX5.out.size)))⟩
        · have hd1 : decide ((16 : Int) < (deepJ j : Int)) = false := decide_eq_false (by omega)
          have hEE : parseE b = 0 := by rw [HPE.out, HDJ.out]; exact if_neg hdp
          have HEE := Lib.hid hEE
          have HJJ := Lib.hid (HPJ.out j HDJ.out hdp)
          clear hEE
          go_wp2_with (go_at_call 44; refine (js_must p _).mono ?_; rintro e w7 ⟨rfl, rfl⟩)
          refine leaves_cons (f := 42) (args := #[.pointer (some ⟨w.heap.size, 0, none⟩), .pointer (some ⟨w.heap.size + 1, 0, none⟩)]) (by simp) (by simp [go_sem]) ?_
          refine (catch_idleJ ⟨w.heap.size, 0, none⟩ ⟨w.heap.size + 1, 0, none⟩ _).mono ?_
          rintro e u' w'' ⟨rfl, rfl, hbz⟩
          obtain ⟨q0, q1, q2⟩ := two_setJ (.iface TT xx) (.int .i64 0) x0 x1
          have q0 := (hbz.cell (p := ⟨w.heap.size, 0, none⟩) (by rw [q2]; show w.heap.size < _; omega)).trans q0
          have q1 := (hbz.cell (p := ⟨w.heap.size + 1, 0, none⟩) (by rw [q2]; exact x4)).trans q1
          refine ⟨.tuple #[(.iface TT xx), .int .i64 (parseE b)], by rw [HEE.out]; simp [results, Tryz.results15, go_sem, q0, q1], (.iface TT xx), rfl, ?_, ((HX5.out.setCell (p := ⟨w.heap.size, 0, none⟩) (Nat.le_refl _) _).setCell (p := ⟨w.heap.size + 1, 0, none⟩) (Nat.le_succ _) _).trans (hbz.mono (by rw [q2]; exact HX5.out.size))⟩
          rw [HJJ.out]
          refine RepJ.to (fun k hk => ?_) j (.iface TT xx) HPEND.out.rep
          have hk1 : w4.heap.size ≤ k := hk.1
          have hk2 : k < w6.heap.size := hk.2
          have hbs := hbz.size
          rw [q2] at hbs
          refine ⟨⟨by omega, by omega⟩, fun _ => ?_⟩
          rw [hbz.block k (by rw [q2]; exact hk2), Below.heap_setCell _ _ _ _ (show k ≠ w.heap.size + 1 by omega), Below.heap_setCell _ _ _ _ (show k ≠ w.heap.size by omega)]
/-- json.Parse, whole. -/
theorem js_Parse (v : Value) (b : Bs) (w : World) (hT : Tabs w) (hv : argRow w v b.length 1 (b.map bCell)) : Calls Tryz.prog 15 #[v] w (ParsedJ w b) := by
  by_cases h1 : 16384 < b.length
  · exact js_Parse_long v b w hv h1
  · cases hval : Lib.validD b with
    | false => exact js_Parse_bad v b w hT hv (by omega) hval
    | true => exact js_Parse_go v b w hT hv (by omega) hval
end Go.Proofs.YtljnbbdhmlfhjaaGreatDoor
