/-
  append onto a row of the call's own, out of whatever source: a slice that can be read (nil too), a string.
-/
import Derived.Test.YtaimldndooijdaaGreatDoorKitB
import Derived.Deep.AppendSrc
import Derived.Deep.RegionLaw
namespace Go.Proofs.YtaimldndooijdaaGreatDoor
open Go.RowKit Go.WideShapes

/-- What is known of a slice type and its elements. -/
structure ElemT (P : Program) (t e : TypeId) (z : Value) (size bytes : Nat) : Prop where
  ht : P.underlying t = some (.slice e)
  hi : (P.info? e).map (fun i => (i.zero, i.size, i.bytes)) = some (some z, size, bytes)
  zs : z.cells.size = size
  pos : 0 < size

section
variable {P : Program} {w : World}

theorem room_row (t tx ty e : TypeId) (i : TypeInfo) (ht : P.underlying t = some (.slice e)) (hi : P.info? e = some i) (g sLen sCap : Nat) (cur : Array Value) (hg : w.heap[g]? = some (.cells cur e (0, 0)))
    (x : Value) (m : Nat) (news : List Value) (hs : Src P i.size tx x m news w) (hroom : sLen + m ≤ sCap) (hfit : sLen * i.size + news.length ≤ cur.size) :
    (Builtin.append_ #[t, tx] ty #[.slice (some ⟨g, 0, none⟩) sLen sCap, x]).run P w =
      .ok (.slice (some ⟨g, 0, none⟩) (sLen + m) sCap) (w.setRow g (cur.toList.take (sLen * i.size) ++ news ++ cur.toList.drop (sLen * i.size + news.length)).toArray) := by
  have hst := run_storeCells_at P g (sLen * i.size) e news 0 cur w hg (by simpa using hfit) hs.one
  simp only [Nat.add_zero] at hst
  rcases hs.kind with ⟨e', hk⟩ | hk <;> simp [Builtin.append_, run_underlying ht, run_underlying hk, sizeOf, typeInfo, hi, hs.len, hroom, hs.cells, Addr.add_lit, hst]

theorem run_append_src {base : Nat} {t e : TypeId} {z : Value} {size bytes : Nat} (E : ElemT P t e z size bytes) (tx ty : TypeId)
    {v : Value} {n : Nat} {xs : List Value} (hown : w.ownsRow base e size v n xs) {x : Value} {m : Nat} {news : List Value} (hs : Src P size tx x m news w)
    (h63 : n + m ≤ maxLen) (hbytes : (n + m) * bytes ≤ 140737488355328) (hbase : base ≤ w.heap.size) :
    ∃ v' w', (Builtin.append_ #[t, tx] ty #[v, x]).run P w = .ok v' w' ∧ w'.ownsRow base e size v' (n + m) (xs ++ news) ∧ w.grownBy w' v.ownBlock ∧
      (v' = .slice none 0 0 ↔ v = .slice none 0 0 ∧ m = 0) ∧ (v'.ownBlock = v.ownBlock ∨ v'.ownBlock = some w.heap.size) := by
  obtain ⟨ht, hi0, hzs, hsz⟩ := E
  obtain ⟨i, hi, hz, hsize, hby⟩ := info_parts hi0
  subst hsize
  subst hby
  have hsmall : n + m ≤ 9223372036854775807 := by simp only [maxLen] at h63; omega
  have hl := hs.newsLen
  have hlen : (xs ++ news).length = (n + m) * i.size := by rw [List.length_append, hown.1, hl, Nat.add_mul]
  have grown : ∀ (bs : Option Addr) (sc : Nat), v = .slice bs n sc → sc < n + m → (Builtin.firstCells i.size n (.slice bs n sc)).run P w.drew = .ok xs.toArray w.drew →
      ∃ v' w', (Builtin.append_ #[t, tx] ty #[v, x]).run P w = .ok v' w' ∧ w'.ownsRow base e i.size v' (n + m) (xs ++ news) ∧ w.grownBy w' v.ownBlock ∧
        (v' = .slice none 0 0 ↔ v = .slice none 0 0 ∧ m = 0) ∧ (v'.ownBlock = v.ownBlock ∨ v'.ownBlock = some w.heap.size) := by
    rintro bs sc rfl hg hold
    have hr := run_append_grow_src (P := P) w t tx ty e i z ht hi hz bs n sc xs hold x m news hs hg (by omega) (growslice_fits hg hbytes)
    have hge := grownCap_ge w (n + m) sc e
    have hcm : grownCap w (n + m) sc e ≤ maxLen := grownCap_le_maxLen w (n + m) sc e h63
    refine ⟨_, _, hr, ⟨hlen, .inr ⟨w.heap.size, _, _, rfl, hbase, heap_alloc_new w.drew _, hge, hcm, ?_, ?_⟩⟩, ⟨rfl, rfl, rfl, by simp, fun k hk _ => heap_alloc_old w.drew _ hk⟩, ?_, .inr rfl⟩
    · simp only [Array.size_append, List.size_toArray, size_zeroCells, hzs, hlen, ← Nat.add_mul]
      congr 1
      omega
    · simp only [Array.toList_append]
      rw [← hlen]
      exact List.take_left
    · constructor
      · intro h; cases h
      · rintro ⟨h, rfl⟩
        cases h
        omega
  rcases hown.2 with ⟨rfl, rfl⟩ | ⟨g, cap, cur, rfl, hbg, hg, hnc, hcm, hcs, htake⟩
  · have hx : xs = [] := List.eq_nil_of_length_eq_zero (by simpa using hown.1)
    subst hx
    by_cases hm : m = 0
    · subst hm
      have hn : news = [] := List.eq_nil_of_length_eq_zero (by simpa using hl)
      subst hn
      have hr : (Builtin.append_ #[t, tx] ty #[.slice none 0 0, x]).run P w = .ok (.slice none 0 0) w := by
        rcases hs.kind with ⟨e', hk⟩ | hk <;> simp [Builtin.append_, run_underlying ht, run_underlying hk, sizeOf, typeInfo, hi, hs.len, hs.cells]
      exact ⟨_, w, hr, World.ownsRow_nil w base e i.size, ⟨rfl, rfl, rfl, Nat.le_refl _, fun _ _ _ => rfl⟩, by simp, .inl rfl⟩
    · exact grown none 0 rfl (by omega) (by simp [Builtin.firstCells])
  · by_cases hroom : n + m ≤ cap
    · have hfit : n * i.size + news.length ≤ cur.size := by rw [hl, hcs, ← Nat.add_mul]; exact Nat.mul_le_mul_right _ hroom
      have hr := room_row (P := P) (w := w) t tx ty e i ht hi g n cap cur hg x m news hs hroom hfit
      refine ⟨_, _, hr, ⟨hlen, .inr ⟨g, cap, _, rfl, hbg, setRow_heap w g cur _ e _ hg, hroom, hcm, ?_, ?_⟩⟩, ⟨rfl, rfl, rfl, by simp, fun k _ hk => setRow_other w g k _ (fun e => hk (by simp [Value.ownBlock, e]))⟩, by simp, .inl rfl⟩
      · simp only [List.size_toArray, List.length_append, List.length_take, List.length_drop, Array.length_toList]
        omega
      · rw [htake, ← hlen]
        exact List.take_left
    · have holds : ∀ j u, xs[j]? = some u → w.cell? ((⟨g, 0, none⟩ : Addr).add j) = some u := hown.cells (g := g) rfl
      exact grown (some ⟨g, 0, none⟩) cap rfl (by omega) (run_firstCells_some w.drew i.size n ⟨g, 0, none⟩ n cap xs hown.1 (by simpa using holds))

theorem wp_append_src {o : Oper} {a : Act} {K : Act → World → Prop} {Q : Exit → Act → World → Prop} (s x : Operand) (t tx : TypeId)
    (ho : o.op = .call { callee := .builtin .append, args := #[s, x], argTypes := #[t, tx] })
    (base : Nat) {e : TypeId} {z : Value} {size bytes : Nat} (E : ElemT P t e z size bytes) (v : Value) (n : Nat) (xs : List Value) (hs : a.eval s = v) (hown : w.ownsRow base e size v n xs)
    (u : Value) (m : Nat) (news : List Value) (hx : a.eval x = u) (hsrc : Src P size tx u m news w)
    (h63 : n + m ≤ maxLen) (hbytes : (n + m) * bytes ≤ 140737488355328) (hbase : base ≤ w.heap.size)
    (h : ∀ v' w', w'.ownsRow base e size v' (n + m) (xs ++ news) → w.grownBy w' v.ownBlock → (v' = .slice none 0 0 ↔ v = .slice none 0 0 ∧ m = 0) → (v'.ownBlock = v.ownBlock ∨ v'.ownBlock = some w.heap.size) → K (a.put o.dst v') w') : o.wp P a w K Q := by
  obtain ⟨v', w', hr, h2, h3, h4, h5⟩ := run_append_src E tx o.type hown hsrc h63 hbytes hbase
  unfold Oper.wp execOp
  simp only [ho, resolve, invoke, builtin, Sem.run_bind, Sem.run_pure, Result.andThen_ok, List.map_toArray, List.map_cons, List.map_nil, hs, hx, hr]
  exact h v' w' h2 h3 h4 h5
theorem wpList_append_src {ops : Array Oper} {rest : List Oper} {o : Oper} {a : Act} {Q : Exit → Act → World → Prop} (hgd : o.guard = none) (s x : Operand) (t tx : TypeId)
    (ho : o.op = .call { callee := .builtin .append, args := #[s, x], argTypes := #[t, tx] })
    (base : Nat) {e : TypeId} {z : Value} {size bytes : Nat} (E : ElemT P t e z size bytes) (v : Value) (n : Nat) (xs : List Value) (hs : a.eval s = v) (hown : w.ownsRow base e size v n xs)
    (u : Value) (m : Nat) (news : List Value) (hx : a.eval x = u) (hsrc : Src P size tx u m news w)
    (h63 : n + m ≤ maxLen) (hbytes : (n + m) * bytes ≤ 140737488355328) (hbase : base ≤ w.heap.size)
    (h : ∀ v' w', w'.ownsRow base e size v' (n + m) (xs ++ news) → w.grownBy w' v.ownBlock → (v' = .slice none 0 0 ↔ v = .slice none 0 0 ∧ m = 0) → (v'.ownBlock = v.ownBlock ∨ v'.ownBlock = some w.heap.size) → wpList P ops Q rest (a.put o.dst v') w') :
    wpList P ops Q (o :: rest) a w :=
  wpList_plain hgd fun _ hK => wp_append_src s x t tx ho base E v n xs hs hown u m news hx hsrc h63 hbytes hbase fun v' w' h2 h3 h4 h5 => hK _ _ (h v' w' h2 h3 h4 h5)
theorem step_append_src {ops : Array Oper} {o : Oper} {a : Act} {K : Act → World → Prop} {Q : Exit → Act → World → Prop} {G : Prop} (hgd : o.guard = none) (s x : Operand) (t tx : TypeId)
    (ho : o.op = .call { callee := .builtin .append, args := #[s, x], argTypes := #[t, tx] })
    (base : Nat) {e : TypeId} {z : Value} {size bytes : Nat} (E : ElemT P t e z size bytes) (v : Value) (n : Nat) (xs : List Value) (hs : a.eval s = v) (hown : w.ownsRow base e size v n xs)
    (u : Value) (m : Nat) (news : List Value) (hx : a.eval x = u) (hsrc : Src P size tx u m news w)
    (h63 : n + m ≤ maxLen) (hbytes : (n + m) * bytes ≤ 140737488355328) (hbase : base ≤ w.heap.size)
    (h : ∀ v' w', w'.ownsRow base e size v' (n + m) (xs ++ news) → w.grownBy w' v.ownBlock → (v' = .slice none 0 0 ↔ v = .slice none 0 0 ∧ m = 0) → (v'.ownBlock = v.ownBlock ∨ v'.ownBlock = some w.heap.size) → K (a.put o.dst v') w') :
    if Region.wanted o (yielded ops a.tmps) = true then Oper.wp P o a w K Q else G := by
  have hw : Region.wanted o (yielded ops a.tmps) = true := by simp [Region.wanted, hgd]
  rw [if_pos hw]
  exact wp_append_src s x t tx ho base E v n xs hs hown u m news hx hsrc h63 hbytes hbase h
end

/-- A slice that can be read, as a source. -/
theorem src_arg {P : Program} {w : World} {v : Value} {n size : Nat} {xs : List Value} {tx e' : TypeId} (hk : P.underlying tx = some (.slice e')) (h : argRow w v n size xs) (h1 : ∀ u ∈ xs, u.oneCell' = true) : Src P size tx v n xs w := by
  obtain ⟨hl, a, cap, rfl, _, _, hc⟩ := h
  by_cases h0 : n = 0
  · subst h0
    have hx : xs = [] := List.eq_nil_of_length_eq_zero (by simpa using hl)
    subst hx
    cases a with
    | none => exact Src.ofNil w hk cap
    | some a => exact Src.ofSlice w hk a 0 cap [] hl (fun j u h => by simp at h) h1
  · obtain ⟨b, off, rfl, _, hcs⟩ := hc (by omega)
    refine Src.ofSlice w hk ⟨b, off, none⟩ n cap xs hl (fun j u hu => ?_) h1
    obtain ⟨hj, e⟩ := List.getElem?_eq_some_iff.1 hu
    rw [add_plain, hcs j hj, e]
theorem src_new {P : Program} {w : World} {B : Nat} {cs : Array Value} {t tx e' : TypeId} {fr : Nat × Nat} (hk : P.underlying tx = some (.slice e')) (n c size : Nat) (hb : w.heap[B]? = some (.cells cs t fr)) (hl : cs.toList.length = n * size) (h1 : ∀ u ∈ cs.toList, u.oneCell' = true) :
    Src P size tx (.slice (some ⟨B, 0, none⟩) n c) n cs.toList w := by
  refine Src.ofSlice w hk ⟨B, 0, none⟩ n c _ hl (fun j u hu => ?_) h1
  rw [add_plain, cell_of_row w B _ cs t fr hb, Nat.zero_add]
  simpa using hu
theorem src_last {P : Program} {W : World} {B : Nat} {cs : Array Value} {t tx e' : TypeId} {fr : Nat × Nat} (hk : P.underlying tx = some (.slice e')) (n c size : Nat) (hB : W.heap.size = B) (hl : cs.toList.length = n * size) (h1 : ∀ u ∈ cs.toList, u.oneCell' = true) :
    Src P size tx (.slice (some ⟨B, 0, none⟩) n c) n cs.toList (W.alloc (.cells cs t fr)) :=
  src_new hk n c size (by rw [← hB]; exact heap_alloc_new _ _) hl h1
/-- v[:k], v[k:] of a slice that can be read. -/
theorem argRow_take {w : World} {a : Option Addr} {n cap size k : Nat} {xs : List Value} (h : argRow w (.slice a n cap) n size xs) (hk : k ≤ n) : argRow w (.slice a k cap) k size (xs.take (k * size)) := by
  obtain ⟨hl, a', cap', e, h1, h2, hc⟩ := h
  cases e
  have hkn : k * size ≤ n * size := Nat.mul_le_mul_right _ hk
  refine ⟨by rw [List.length_take]; omega, a, cap, rfl, by omega, h2, fun h0 => ?_⟩
  obtain ⟨b, off, e, hb, hcs⟩ := hc (by omega)
  exact ⟨b, off, e, hb, fun j hj => by rw [List.getElem_take]; exact hcs j (by rw [List.length_take] at hj; omega)⟩
theorem argRow_drop {w : World} {a : Option Addr} {n cap size k : Nat} {xs : List Value} (h : argRow w (.slice a n cap) n size xs) (hk : k ≤ n) {a' : Option Addr} {c' : Nat} (hc' : n - k ≤ c' ∧ c' ≤ cap)
    (ha : ∀ b off, a = some ⟨b, off, none⟩ → k < n → a' = some ⟨b, off + k * size, none⟩) : argRow w (.slice a' (n - k) c') (n - k) size (xs.drop (k * size)) := by
  obtain ⟨hl, a2, cap', e, h1, h2, hc⟩ := h
  cases e
  have hkn : k * size ≤ n * size := Nat.mul_le_mul_right _ hk
  refine ⟨by rw [List.length_drop, Nat.sub_mul]; omega, a', c', rfl, by omega, by omega, fun h0 => ?_⟩
  obtain ⟨b, off, e, hb, hcs⟩ := hc (by omega)
  exact ⟨b, off + k * size, ha b off e (by omega), hb, fun j hj => by
    rw [List.getElem_drop, Nat.add_assoc]
    exact hcs _ (by rw [List.length_drop] at hj; omega)⟩
end Go.Proofs.YtaimldndooijdaaGreatDoor
