/- A list of entries appended to a list of entries of the call's own; make of a list of entries. -/
import Derived.Test.YtfeldllcpeibcaaDoorRowSet
import Derived.Laws.OwnMore
namespace Go.Proofs.YtfeldllcpeibcaaDoor
set_option linter.unusedVariables false
open Go.ChangeShapes Go.WideShapes Go.ChangeAt Go.RowKit

theorem flat5_inv : ∀ (es : List EntV) (j : Nat) (u : Value), (es.flatMap EntV.cells)[j]? = some u → ∃ i, ∃ h : i < es.length, ∃ r, r < 5 ∧ j = i * 5 + r ∧ (es[i]).cells[r]? = some u
  | [], j, u, h => by simp at h
  | o :: ps, j, u, h => by
    rw [List.flatMap_cons] at h
    by_cases hj : j < 5
    · rw [List.getElem?_append_left (by rw [ent_len]; exact hj)] at h
      exact ⟨0, by simp, j, hj, by omega, by simpa using h⟩
    · rw [List.getElem?_append_right (by rw [ent_len]; omega), ent_len] at h
      obtain ⟨i, hi, r, hr, e, hv⟩ := flat5_inv ps (j - 5) u h
      exact ⟨i + 1, by simpa using hi, r, hr, by omega, by simpa using hv⟩
theorem cells_one {e : EntV} : ∀ u ∈ e.cells, u.oneCell' = true := by
  intro u hu
  simp only [EntV.cells, List.mem_cons, List.not_mem_nil, or_false] at hu
  rcases hu with rfl | rfl | rfl | rfl | rfl <;> rfl
theorem run_apEs {w : World} {base : Nat} {v : Value} {es : List EntV} (ty : TypeId) {a2 : Option Addr} {n2 c2 : Nat} {es2 : List EntV} (hown : RowE w base v es) (hrd : RdEnt w a2 n2 es2) (hlen : es.length + es2.length ≤ 1000000000) (hbase : base ≤ w.heap.size) :
    ∃ v' w', (Builtin.append_ #[30, 30] ty #[v, .slice a2 n2 c2]).run Tryd.prog w = .ok v' w' ∧ RowE w' base v' (es ++ es2) ∧ w.grownBy w' v.ownBlock := by
  obtain ⟨i0, hi, hrest⟩ := Option.map_eq_some_iff.1 ent_info
  simp only [Prod.mk.injEq] at hrest
  obtain ⟨h8, hby, hz⟩ := hrest
  obtain ⟨z, hz, hzs⟩ := Option.map_eq_some_iff.1 hz
  obtain ⟨hn2, hg⟩ := hrd
  subst hn2
  by_cases h0 : 0 < es2.length
  · obtain ⟨b, o, rfl, hc⟩ := hg h0
    obtain ⟨v', w', h1, h2, h3, _⟩ := run_append_own (P := Tryd.prog) w base 30 ty 32 i0 z 5 48 Tryd.underlying30 hi hz h8 hby hzs (by decide) v es.length _ hown ⟨b, o, none⟩ es2.length c2
      (es2.flatMap EntV.cells) (flat5 es2) (fun j u hu => by
        obtain ⟨i, hi, r, _, rfl, hv⟩ := flat5_inv es2 j u hu
        rw [addr_add, ← Nat.add_assoc]; exact hc i hi r u hv) (fun u hu => by
        obtain ⟨e, _, hu⟩ := List.mem_flatMap.1 hu
        exact cells_one u hu) (by unfold maxLen; omega) (by omega) hbase
    refine ⟨v', w', h1, ?_, h3⟩
    unfold RowE; rw [List.flatMap_append, List.length_append]; exact h2
  · have he : es2 = [] := List.eq_nil_of_length_eq_zero (by omega)
    subst he
    rw [List.append_nil]
    refine ⟨v, w, ?_, hown, World.grownBy.refl w _⟩
    rcases hown.2 with ⟨rfl, _⟩ | ⟨g, cap, cur, rfl, _, hgg, hnc, _⟩
    · cases a2 <;> simp [Builtin.append_, run_underlying Tryd.underlying30, sizeOf, typeInfo, hi, Builtin.lenOf, Builtin.firstCells, loadCells, loadCellsFrom]
    · cases a2 <;> simp [Builtin.append_, run_underlying Tryd.underlying30, sizeOf, typeInfo, hi, Builtin.lenOf, Builtin.firstCells, hnc, storeCells, loadCells, loadCellsFrom]
theorem apEs {w : World} {base : Nat} {v : Value} {es : List EntV} {a2 : Option Addr} {n2 c2 : Nat} {es2 : List EntV} (hown : RowE w base v es) (hrd : RdEnt w a2 n2 es2) (hlen : es.length + es2.length ≤ 1000000000) (hbase : base ≤ w.heap.size)
    {ops : Array Oper} {rest : List Oper} {o : Oper} {a : Act} {Q : Exit → Act → World → Prop} (hgd : o.guard = none) (x y : Operand)
    (ho : o.op = .call { callee := .builtin .append, args := #[x, y], argTypes := #[30, 30] }) (hx : a.eval x = v) (hy : a.eval y = .slice a2 n2 c2)
    (h : ∀ v' w', RowE w' base v' (es ++ es2) → w.grownBy w' v.ownBlock → wpList Tryd.prog ops Q rest (a.put o.dst v') w') : wpList Tryd.prog ops Q (o :: rest) a w :=
  wpList_plain hgd fun _ hK => by
    obtain ⟨v', w', hr, h2, h3⟩ := run_apEs o.type hown hrd hlen hbase (c2 := c2)
    unfold Oper.wp execOp
    simp only [ho, resolve, invoke, builtin, Sem.run_bind, Sem.run_pure, Result.andThen_ok, List.map_toArray, List.map_cons, List.map_nil, hx, hy, hr]
    exact hK _ _ (h v' w' h2 h3)
/-- make([]Entry, 0, c). -/
theorem make_ents (w : World) (c : Nat) (hc : c ≤ 1000000000) (k : Int) (hk : k = c) :
    ∃ w', (Instr.makeSlice 30 (.int .i64 0) (.int .i64 k)).run Tryd.prog w = .ok (.slice (some ⟨w.heap.size, 0, none⟩) 0 c) w' ∧ RowE w' w.heap.size (.slice (some ⟨w.heap.size, 0, none⟩) 0 c) [] ∧ Below w.heap.size w w' := by
  subst hk
  obtain ⟨i0, hi, hrest⟩ := Option.map_eq_some_iff.1 ent_info
  simp only [Prod.mk.injEq] at hrest
  obtain ⟨h8, hby, hz⟩ := hrest
  obtain ⟨z, hz, hzs⟩ := Option.map_eq_some_iff.1 hz
  obtain ⟨w', h1, h2, h3⟩ := run_make_own (P := Tryd.prog) w w.heap.size 30 32 i0 z 5 Tryd.underlying30 hi hz h8 .i64 .i64 c (by rw [hby]; omega) (by unfold maxLen; omega) (Nat.le_refl _)
  exact ⟨w', h1, h2, (Below.refl _ w).grown h3 (Nat.le_refl _) (fun k hk => by cases hk)⟩
/-- An empty list of entries, not nil. -/
theorem rowE_empty (w : World) (base : Nat) (h : base ≤ w.heap.size) : RowE (w.alloc (.cells #[] 32)) base (.slice (some ⟨w.heap.size, 0, none⟩) 0 0) [] :=
  ⟨rfl, .inr ⟨w.heap.size, 0, #[], rfl, h, heap_alloc_new w _, Nat.le_refl _, by unfold maxLen; omega, rfl, rfl⟩⟩
/-- The first k entries, as a list of its own length. -/
theorem RowE.rdTake {w : World} {base : Nat} {a : Option Addr} {n c : Nat} {es : List EntV} (h : RowE w base (.slice a n c) es) (k : Nat) (hk : k ≤ es.length) : RdEnt w a k (es.take k) := by
  have h1 := h.rd
  obtain ⟨h2, h3⟩ := h1
  refine ⟨by rw [List.length_take]; omega, fun h0 => ?_⟩
  rw [List.length_take] at h0
  obtain ⟨b, o, e, hg⟩ := h3 (by omega)
  refine ⟨b, o, e, fun i hi j v hv => ?_⟩
  rw [List.length_take] at hi
  exact hg i (by omega) j v (by rwa [List.getElem_take] at hv)
end Go.Proofs.YtfeldllcpeibcaaDoor
