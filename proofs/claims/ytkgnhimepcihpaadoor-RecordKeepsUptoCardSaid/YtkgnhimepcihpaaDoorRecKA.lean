/-
  Memory laws for RecordKeeps: rows whatever they hold; append that tells of every other row.
-/
import Derived.Test.YtkgnhimepcihpaaDoorRecPB
import Derived.Lib.ConvBytes
namespace Go.Proofs.YtkgnhimepcihpaaDoor
open Go.RowKit Go.WideShapes
/-- A slice of n elements of the call's own, whatever they are. -/
def AnyOwn (w : World) (B size : Nat) (e : TypeId) (v : Value) (n : Nat) : Prop := ∃ xs, w.ownsRow B e size v n xs
/-- Each row stays a row, of the same type and size. -/
def Shapes (w w' : World) : Prop := ∀ (k : Nat) (cs : Array Value) (T : TypeId), w.heap[k]? = some (Obj.cells cs T (0, 0)) → ∃ cs' : Array Value, w'.heap[k]? = some (Obj.cells cs' T (0, 0)) ∧ cs'.size = cs.size
theorem Shapes.refl (w : World) : Shapes w w := fun _ cs _ h => ⟨cs, h, rfl⟩
theorem Shapes.trans {w w1 w2 : World} (h : Shapes w w1) (k : Shapes w1 w2) : Shapes w w2 := fun i cs T hi => by
  obtain ⟨cs1, h1, e1⟩ := h i cs T hi
  obtain ⟨cs2, h2, e2⟩ := k i cs1 T h1
  exact ⟨cs2, h2, e2.trans e1⟩
theorem Shapes.below {w w' : World} (hb : Below w.heap.size w w') : Shapes w w' := fun k cs T h => ⟨cs, by rw [hb.block k (Array.getElem?_eq_some_iff.1 h).1]; exact h, rfl⟩
theorem Shapes.set (w : World) (b j : Nat) (v : Value) : Shapes w (w.setCell ⟨b, j, none⟩ v) := fun k cs T h => by
  by_cases hk : k = b
  · subst hk
    exact ⟨_, heap_setCell_same w k j cs T v h, by simp⟩
  · exact ⟨cs, by rw [Below.heap_setCell _ _ _ _ (show k ≠ b from hk)]; exact h, rfl⟩
theorem AnyOwn.shapes {w w' : World} {B size : Nat} {e : TypeId} {v : Value} {n : Nat} (h : AnyOwn w B size e v n) (hs : Shapes w w') : AnyOwn w' B size e v n := by
  obtain ⟨xs, hx, h⟩ := h
  rcases h with ⟨rfl, rfl⟩ | ⟨g, cap, cur, rfl, hB, hg, hn, hc, hcs, ht⟩
  · exact ⟨xs, hx, .inl ⟨rfl, rfl⟩⟩
  · obtain ⟨cs', h1, h2⟩ := hs g cur e hg
    refine ⟨cs'.toList.take (n * size), ?_, .inr ⟨g, cap, cs', rfl, hB, h1, hn, hc, by rw [h2, hcs], rfl⟩⟩
    rw [List.length_take, Array.length_toList, h2, hcs]
    exact Nat.min_eq_left (Nat.mul_le_mul_right _ hn)
section
variable {P : Program} {w : World}
/-- run_append_src, and what it does to every other row. -/
theorem run_append_shapes {base : Nat} {t e : TypeId} {z : Value} {size bytes : Nat} (E : ElemT P t e z size bytes) (tx ty : TypeId)
    {v : Value} {n : Nat} {xs : List Value} (hown : w.ownsRow base e size v n xs) {x : Value} {m : Nat} {news : List Value} (hs : Src P size tx x m news w)
    (h63 : n + m ≤ maxLen) (hbytes : (n + m) * bytes ≤ 140737488355328) (hbase : base ≤ w.heap.size) :
    ∃ v' w', (Builtin.append_ #[t, tx] ty #[v, x]).run P w = .ok v' w' ∧ w'.ownsRow base e size v' (n + m) (xs ++ news) ∧ w.grownBy w' v.ownBlock ∧
      (v'.ownBlock = v.ownBlock ∨ v'.ownBlock = some w.heap.size) ∧ Shapes w w' := by
  obtain ⟨ht, hi0, hzs, hsz⟩ := E
  obtain ⟨i, hi, hz, hsize, hby⟩ := info_parts hi0
  subst hsize
  subst hby
  have hl := hs.newsLen
  have hlen : (xs ++ news).length = (n + m) * i.size := by rw [List.length_append, hown.1, hl, Nat.add_mul]
  have grown : ∀ (bs : Option Addr) (sc : Nat), v = .slice bs n sc → sc < n + m → (Builtin.firstCells i.size n (.slice bs n sc)).run P w.drew = .ok xs.toArray w.drew →
      ∃ v' w', (Builtin.append_ #[t, tx] ty #[v, x]).run P w = .ok v' w' ∧ w'.ownsRow base e i.size v' (n + m) (xs ++ news) ∧ w.grownBy w' v.ownBlock ∧
        (v'.ownBlock = v.ownBlock ∨ v'.ownBlock = some w.heap.size) ∧ Shapes w w' := by
    rintro bs sc rfl hg hold
    have h63' : ((n + m : Nat) : Int) ≤ 9223372036854775807 := by unfold maxLen at h63; omega
    have hr := run_append_grow_src (P := P) w t tx ty e i z ht hi hz bs n sc xs hold x m news hs hg h63' (growslice_fits hg hbytes)
    have hge := grownCap_ge w (n + m) sc e
    have hcm : grownCap w (n + m) sc e ≤ maxLen := grownCap_le_maxLen w (n + m) sc e h63
    refine ⟨_, _, hr, ⟨hlen, .inr ⟨w.heap.size, _, _, rfl, hbase, heap_alloc_new w.drew _, hge, hcm, ?_, ?_⟩⟩, ⟨rfl, rfl, rfl, by simp, fun k hk _ => heap_alloc_old w.drew _ hk⟩, .inr rfl, fun k cs T h => ⟨cs, ?_, rfl⟩⟩
    · simp only [Array.size_append, List.size_toArray, size_zeroCells, hzs, hlen, ← Nat.add_mul]
      congr 1
      omega
    · simp only [Array.toList_append]
      rw [← hlen]
      exact List.take_left
    · have hk : k < w.heap.size := (Array.getElem?_eq_some_iff.1 h).1
      rw [show (w.drew.alloc _).heap[k]? = w.drew.heap[k]? from heap_alloc_old w.drew _ hk]
      exact h
  rcases hown.2 with ⟨rfl, rfl⟩ | ⟨g, cap, cur, rfl, hbg, hg, hnc, hcm, hcs, htake⟩
  · have hx : xs = [] := List.eq_nil_of_length_eq_zero (by simpa using hown.1)
    subst hx
    by_cases hm : m = 0
    · subst hm
      have hn : news = [] := List.eq_nil_of_length_eq_zero (by simpa using hl)
      subst hn
      have hr : (Builtin.append_ #[t, tx] ty #[.slice none 0 0, x]).run P w = .ok (.slice none 0 0) w := by
        rcases hs.kind with ⟨e', hk⟩ | hk <;> simp [Builtin.append_, run_underlying ht, run_underlying hk, sizeOf, typeInfo, hi, hs.len, hs.cells]
      exact ⟨_, w, hr, World.ownsRow_nil w base e i.size, ⟨rfl, rfl, rfl, Nat.le_refl _, fun _ _ _ => rfl⟩, .inl rfl, Shapes.refl _⟩
    · exact grown none 0 rfl (by omega) (by simp [Builtin.firstCells])
  · by_cases hroom : n + m ≤ cap
    · have hfit : n * i.size + news.length ≤ cur.size := by rw [hl, hcs, ← Nat.add_mul]; exact Nat.mul_le_mul_right _ hroom
      have hr := room_row (P := P) (w := w) t tx ty e i ht hi g n cap cur hg x m news hs hroom hfit
      refine ⟨_, _, hr, ⟨hlen, .inr ⟨g, cap, _, rfl, hbg, setRow_heap w g cur _ e _ hg, hroom, hcm, ?_, ?_⟩⟩, ⟨rfl, rfl, rfl, by simp, fun k _ hk => setRow_other w g k _ (fun e => hk (by simp [Value.ownBlock, e]))⟩, .inl rfl, fun k cs T h => ?_⟩
      · simp only [List.size_toArray, List.length_append, List.length_take, List.length_drop, Array.length_toList]
        omega
      · rw [htake, ← hlen]
        exact List.take_left
      · by_cases hk : k = g
        · subst hk
          rw [hg] at h
          have he := Obj.cells.inj (Option.some.inj h)
          refine ⟨_, by rw [setRow_heap w k cur _ e _ hg, he.2.1], ?_⟩
          rw [← he.1]
          simp only [List.size_toArray, List.length_append, List.length_take, List.length_drop, Array.length_toList]
          omega
        · exact ⟨cs, by rw [setRow_other w g k _ hk]; exact h, rfl⟩
    · have holds : ∀ j u, xs[j]? = some u → w.cell? ((⟨g, 0, none⟩ : Addr).add j) = some u := hown.cells (g := g) rfl
      exact grown (some ⟨g, 0, none⟩) cap rfl (by omega) (run_firstCells_some w.drew i.size n ⟨g, 0, none⟩ n cap xs hown.1 (by simpa using holds))
theorem wpList_append_shapes {ops : Array Oper} {rest : List Oper} {o : Oper} {a : Act} {Q : Exit → Act → World → Prop} (hgd : o.guard = none) (s x : Operand) (t tx : TypeId)
    (ho : o.op = .call { callee := .builtin .append, args := #[s, x], argTypes := #[t, tx] })
    (base : Nat) {e : TypeId} {z : Value} {size bytes : Nat} (E : ElemT P t e z size bytes) (v : Value) (n : Nat) (xs : List Value) (hs : a.eval s = v) (hown : w.ownsRow base e size v n xs)
    (u : Value) (m : Nat) (news : List Value) (hx : a.eval x = u) (hsrc : Src P size tx u m news w)
    (h63 : n + m ≤ maxLen) (hbytes : (n + m) * bytes ≤ 140737488355328) (hbase : base ≤ w.heap.size)
    (h : ∀ v' w', w'.ownsRow base e size v' (n + m) (xs ++ news) → w.grownBy w' v.ownBlock → (v'.ownBlock = v.ownBlock ∨ v'.ownBlock = some w.heap.size) → Shapes w w' → wpList P ops Q rest (a.put o.dst v') w') :
    wpList P ops Q (o :: rest) a w := by
  refine wpList_plain hgd fun K hK => ?_
  obtain ⟨v', w', hr, h2, h3, h4, h5⟩ := run_append_shapes E tx o.type hown hsrc h63 hbytes hbase
  unfold Oper.wp execOp
  simp only [ho, resolve, invoke, builtin, Sem.run_bind, Sem.run_pure, Result.andThen_ok, List.map_toArray, List.map_cons, List.map_nil, hs, hx, hr]
  exact hK _ _ (h v' w' h2 h3 h4 h5)
end
end Go.Proofs.YtkgnhimepcihpaaDoor
