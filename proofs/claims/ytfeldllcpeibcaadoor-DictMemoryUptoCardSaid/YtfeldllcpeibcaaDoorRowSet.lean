/- A list of entries of the call's own: one field of one entry written. -/
import Derived.Test.YtfeldllcpeibcaaDoorDictT
namespace Go.Proofs.YtfeldllcpeibcaaDoor
set_option linter.unusedVariables false
open Go.ChangeShapes Go.WideShapes Go.ChangeAt Go.RowKit
theorem flat_set : ∀ (es : List EntV) (i j : Nat) (e : EntV) (u : Value) (hi : i < es.length), j < 5 → e.cells = (es[i]).cells.set j u → (es.set i e).flatMap EntV.cells = (es.flatMap EntV.cells).set (i * 5 + j) u
  | x :: r, 0, j, e, u, _, hj, he => by
    simp only [List.set_cons_zero, List.flatMap_cons, Nat.zero_mul, Nat.zero_add]
    rw [List.set_append_left _ _ (by rw [ent_len]; exact hj), he]; rfl
  | x :: r, i + 1, j, e, u, hi, hj, he => by
    simp only [List.set_cons_succ, List.flatMap_cons]
    rw [List.set_append_right _ _ (by rw [ent_len]; omega), ent_len, show (i + 1) * 5 + j - 5 = i * 5 + j by omega]
    rw [flat_set r i j e u (by simpa using hi) hj (by simpa using he)]
theorem RowE.setF {w : World} {base g n c : Nat} {es : List EntV} (h : RowE w base (.slice (some ⟨g, 0, none⟩) n c) es) (i j : Nat) (hi : i < es.length) (hj : j < 5) (e : EntV) (u : Value) (he : e.cells = (es[i]).cells.set j u) :
    RowE (w.setCell ⟨g, i * 5 + j, none⟩ u) base (.slice (some ⟨g, 0, none⟩) n c) (es.set i e) := by
  have hf := flat_set es i j e u hi hj he
  rcases h.2 with ⟨hv, _⟩ | ⟨g', cap, cur, hv, hb, hg, hn, hm, hs, ht⟩
  · cases hv
  · injection hv with h1 h2 h3
    injection h1 with h1
    injection h1 with h1 _ _
    subst h1
    refine ⟨by rw [hf, List.length_set, List.length_set]; exact h.1, .inr ⟨g, cap, cur.setIfInBounds (i * 5 + j) u, by rw [List.length_set, h2, h3], hb, blk_set hg _ _, by rw [List.length_set]; exact hn, hm, by simp [hs], ?_⟩⟩
    rw [hf, List.length_set, ← ht, Array.toList_setIfInBounds, List.take_set]
set_option maxRecDepth 100000 in
theorem apE2 {w0 : World} {k k2 : ByteArray} {d t a' s d2 t2 a2 s2 : Int} {base : Nat} {v : Value} {es : List EntV} (hown : RowE w0 base v es) (hlen : es.length ≤ 1000000000) (hbase : base ≤ w0.heap.size)
    {ops : Array Oper} {rest : List Oper} {o : Oper} {a : Act} {Q : Exit → Act → World → Prop} (hgd : o.guard = none) (x y : Operand)
    (ho : o.op = .call { callee := .builtin .append, args := #[x, y], argTypes := #[30, 30] }) (hs : a.eval x = v) (hy : a.eval y = .slice (some ⟨w0.heap.size, 0, none⟩) 2 2)
    (h : ∀ v' w', RowE w' base v' (es ++ [⟨k, d, t, a', s⟩, ⟨k2, d2, t2, a2, s2⟩]) → w0.grownBy w' v.ownBlock → wpList Tryd.prog ops Q rest (a.put o.dst v') w') :
    wpList Tryd.prog ops Q (o :: rest) a (w0.alloc (.cells #[.string k, .int .i64 d, .int .i64 t, .int .i64 a', .int .i64 s, .string k2, .int .i64 d2, .int .i64 t2, .int .i64 a2, .int .i64 s2] 32)) := by
  obtain ⟨i0, hi, hrest⟩ := Option.map_eq_some_iff.1 ent_info
  simp only [Prod.mk.injEq] at hrest
  obtain ⟨h8, hby, hz⟩ := hrest
  obtain ⟨z, hz, hzs⟩ := Option.map_eq_some_iff.1 hz
  refine wpList_append_own (P := Tryd.prog) _ hgd x y 30 ho base 32 i0 z 5 48 Tryd.underlying30 hi hz h8 hby hzs (by decide) v es.length _ hs (World.ownsRow.alloc hown _) ⟨w0.heap.size, 0, none⟩ 2 2
    (EntV.cells ⟨k, d, t, a', s⟩ ++ EntV.cells ⟨k2, d2, t2, a2, s2⟩) hy rfl (fun j x hx => ?_) ?_ (by unfold maxLen; omega) (by omega) (by simp; omega) ?_
  · rw [addr_add, Nat.zero_add, blk_cell (heap_alloc_new w0 _) j]
    rw [← hx]; simp [EntV.cells]
  · intro x hx
    simp only [EntV.cells, List.mem_append, List.mem_cons, List.not_mem_nil, or_false] at hx
    rcases hx with (rfl | rfl | rfl | rfl | rfl) | (rfl | rfl | rfl | rfl | rfl) <;> rfl
  · intro v' w' h1 h2 h3
    refine h v' w' ?_ ?_
    · unfold RowE; rw [List.flatMap_append, List.length_append]; simpa using h1
    · exact ⟨h2.os, h2.tape, h2.output, Nat.le_trans (by simp) h2.size, fun k hk hne => (h2.block k (by simp; omega) hne).trans (Below.heap_alloc _ _ _ hk)⟩
end Go.Proofs.YtfeldllcpeibcaaDoor
