/-
  json.Parse.
-/
import Derived.Test.YtljnbbdhmlfhjaaDoorJsK
namespace Go.Proofs.YtljnbbdhmlfhjaaDoor
open Go.RowKit
def ParsedJ (w : World) (b : Bs) (e : Ending) (w' : World) : Prop := ∃ v, e = .returned (.tuple #[v, .int .i64 (parseE b)]) ∧ RepJ w' (Nw w.heap.size w') (parseJ b) v ∧ Below w.heap.size w w'
theorem parseJ_bad {b : Bs} (h : parseE b ≠ 0) : parseJ b = .nul := by
  unfold parseE at h
  unfold parseJ
  by_cases h1 : 16384 < b.length
  · rw [if_pos (.inl h1)]
  · by_cases h2 : Lib.validD b = false
    · rw [if_pos (.inr h2)]
    · rw [if_neg h1, if_neg h2] at h
      rw [if_neg (fun hh => hh.elim h1 h2)]
      cases hd : docJ b with
      | none => rfl
      | some j =>
        rw [hd] at h
        simp only at h ⊢
        split at h
        · rename_i h3; rw [if_pos h3]
        · exact absurd rfl h
theorem ParsedJ.bad {w w' : World} {b : Bs} (E : Int) (hE : parseE b = E) (h0 : E ≠ 0) (hb : Below w.heap.size w w') : ParsedJ w b (.returned (.tuple #[.nilIface, .int .i64 E])) w' := by
  refine ⟨_, by rw [hE], ?_, hb⟩
  rw [parseJ_bad (by rw [hE]; exact h0)]
  rfl
theorem conv_arg {w : World} {v : Value} {b : Bs} (h : argRow w v b.length 1 (b.map bCell)) : (convert 22 9 v).run Tryd.prog w = .ok (.string ⟨b.toArray⟩) w := by
  obtain ⟨hl, a, cap, rfl, h1, h2, hc⟩ := h
  cases b with
  | nil => exact conv_nil Tryd.underlying22 Tryd.underlying5 Tryd.underlying9
  | cons c b =>
    obtain ⟨g, off, rfl, hb, hcs⟩ := hc (by simp)
    exact conv_cells (P := Tryd.prog) (src := 22) (dst := 9) Tryd.underlying22 Tryd.underlying5 Tryd.underlying9 (fun j hj => by
      rw [hcs j (by simpa using hj), List.getElem_map]
      rfl)
set_option maxRecDepth 100000 in
set_option maxHeartbeats 10000000 in
theorem js_Parse_long (v : Value) (b : Bs) (w : World) (hv : argRow w v b.length 1 (b.map bCell)) (h : 16384 < b.length) : Calls Tryd.prog 11 #[v] w (ParsedJ w b) := by
  have hd : decide ((16384 : Int) < (b.length : Int)) = true := decide_eq_true (by omega)
  have hE : parseE b = 4 := by unfold parseE; rw [if_pos h]
  have HE := Lib.hid hE
  obtain ⟨-, a, cap, rfl, -⟩ := hv
  clear hE h
  generalize b.length = n at *
  go_enter_defers Tryd.func11, Tryd.ntmps11
  go_wp2
  exact ⟨_, by simp [results, Tryd.results11, go_sem], ParsedJ.bad 4 HE.out (by decide) (belowAJ (belowAJ (Below.refl _ _) (Nat.le_refl _)) (by simp))⟩
set_option maxRecDepth 100000 in
set_option maxHeartbeats 10000000 in
theorem js_Parse_bad (v : Value) (b : Bs) (w : World) (hT : Tabs w) (hv : argRow w v b.length 1 (b.map bCell)) (h : b.length ≤ 16384) (hval : Lib.validD b = false) : Calls Tryd.prog 11 #[v] w (ParsedJ w b) := by
  have hd : decide ((16384 : Int) < (b.length : Int)) = false := decide_eq_false (by omega)
  have hE : parseE b = 8 := by unfold parseE; rw [if_neg (by omega), if_pos hval]
  have HE := Lib.hid hE
  have CV := Lib.hid (fun W (hW : Below w.heap.size w W) => utf_Valid ⟨b.toArray⟩ W (by show b.length ≤ maxLen; unfold maxLen; omega) (Utf8Tabs_below hT hW))
  have HCV := Lib.hid (fun W (hW : Below w.heap.size w W) => conv_arg (argRow_below hv hW))
  rw [show (⟨b.toArray⟩ : ByteArray).data.toList = b from by simp, hval] at CV
  obtain ⟨T, hT'⟩ : ∃ T : ByteArray, (⟨b.toArray⟩ : ByteArray) = T := ⟨_, rfl⟩
  rw [hT'] at CV HCV
  obtain ⟨-, a, cap, rfl, -⟩ := hv
  clear hE hT hval h hT'
  generalize b.length = n at *
  go_enter_defers Tryd.func11, Tryd.ntmps11
  go_upto_region 3 with fail
  have hb2 : Below w.heap.size w ((w.alloc (.cells #[.nilIface] 20)).alloc (.cells #[.int .i64 0] 24)) := belowAJ (belowAJ (Below.refl _ _) (Nat.le_refl _)) (by simp)
  have c0 : ((w.alloc (.cells #[.nilIface] 20)).alloc (.cells #[.int .i64 0] 24)).cell? ⟨w.heap.size, 0, none⟩ = some .nilIface := by simp [go_sem]
  have c1 : ((w.alloc (.cells #[.nilIface] 20)).alloc (.cells #[.int .i64 0] 24)).cell? ⟨w.heap.size + 1, 0, none⟩ = some (.int .i64 0) := by simp [go_sem]
  have f0 : ((w.alloc (.cells #[.nilIface] 20)).alloc (.cells #[.int .i64 0] 24)).frozen? ⟨w.heap.size, 0, none⟩ = false := by simp [go_sem]
  have f1 : ((w.alloc (.cells #[.nilIface] 20)).alloc (.cells #[.int .i64 0] 24)).frozen? ⟨w.heap.size + 1, 0, none⟩ = false := by simp [go_sem]
  have hsz : ((w.alloc (.cells #[.nilIface] 20)).alloc (.cells #[.int .i64 0] 24)).heap.size = w.heap.size + 2 := by simp
  generalize (w.alloc (.cells #[.nilIface] 20)).alloc (.cells #[.int .i64 0] 24) = w2 at *
  have CV2 := CV.out w2 hb2
  have hcv2 := HCV.out w2 hb2
  clear CV HCV
  go_upto_region 4 with (go_at_call 13; refine CV2.mono ?_; rintro e w3 ⟨rfl, hb3⟩)
  have d0 := (hb3.cell (p := ⟨w.heap.size, 0, none⟩) (by rw [hsz]; show w.heap.size < w.heap.size + 2; omega)).trans c0
  have d1 := (hb3.cell (p := ⟨w.heap.size + 1, 0, none⟩) (by rw [hsz]; show w.heap.size + 1 < w.heap.size + 2; omega)).trans c1
  have e0 := (hb3.frozen (p := ⟨w.heap.size, 0, none⟩) (by rw [hsz]; show w.heap.size < w.heap.size + 2; omega)).trans f0
  have e1 := (hb3.frozen (p := ⟨w.heap.size + 1, 0, none⟩) (by rw [hsz]; show w.heap.size + 1 < w.heap.size + 2; omega)).trans f1
  clear c0 c1 f0 f1
  go_wp2
  exact ⟨_, by simp [results, Tryd.results11, go_sem, d0, d1], ParsedJ.bad 8 HE.out (by decide) (((hb2.trans (hb3.mono (by omega))).setCell (p := ⟨w.heap.size, 0, none⟩) (Nat.le_refl _) _).setCell (p := ⟨w.heap.size + 1, 0, none⟩) (Nat.le_succ _) _)⟩
end Go.Proofs.YtljnbbdhmlfhjaaDoor
