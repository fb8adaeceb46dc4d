/- posts: one posting appended to a list of the call's own. -/
import Derived.Test.YthnpbfadblcicaaDoorZBlkA
namespace Go.Proofs.YthnpbfadblcicaaDoor
set_option linter.unusedVariables false
open Go.ChangeShapes Go.WideShapes Go.ChangeAt Go.RowKit

theorem rowP_empty (w : World) (base : Nat) (h : base ≤ w.heap.size) : RowP (w.alloc (.cells #[] 53)) base (.slice (some ⟨w.heap.size, 0, none⟩) 0 0) [] (fun _ => .slice none 0 0) :=
  ⟨⟨rfl, .inr ⟨w.heap.size, 0, #[], rfl, h, heap_alloc_new w _, Nat.le_refl _, by unfold maxLen; omega, rfl, rfl⟩⟩, fun k hk => by simp at hk, fun k l b hk => by simp at hk⟩
theorem pcells_one (d : Int) (pos : List Int) (s : Value) : pcells [⟨d, pos⟩] (fun _ => s) = [.int .i64 d, s] := by simp [pcells, List.range_succ]
set_option maxRecDepth 100000 in
theorem apP1 {w0 : World} {base : Nat} {v : Value} {ps : List PostV} {vs : Nat → Value} (hown : RowP w0 base v ps vs) (d : Int) (pos : List Int) (s : Value) (hs : Own w0 base 3 s (intL pos)) (hsep : ∀ k b, k < ps.length → (vs k).ownBlock = some b → s.ownBlock ≠ some b)
    (hlen : ps.length ≤ 1000000000) (hbase : base ≤ w0.heap.size)
    {ops : Array Oper} {rest : List Oper} {o : Oper} {a : Act} {Q : Exit → Act → World → Prop} (hgd : o.guard = none) (x y : Operand)
    (ho : o.op = .call { callee := .builtin .append, args := #[x, y], argTypes := #[22, 22] }) (hx : a.eval x = v) (hy : a.eval y = .slice (some ⟨w0.heap.size, 0, none⟩) 1 1)
    (h : ∀ v' w', RowP w' base v' (ps ++ [⟨d, pos⟩]) (fun k => if k < ps.length then vs k else s) → w0.grownBy w' v.ownBlock → wpList Tryd.prog ops Q rest (a.put o.dst v') w') :
    wpList Tryd.prog ops Q (o :: rest) a (w0.alloc (.cells #[.int .i64 d, s] 53)) := by
  obtain ⟨i0, hi, hrest⟩ := Option.map_eq_some_iff.1 post_info2
  simp only [Prod.mk.injEq] at hrest
  obtain ⟨h8, hby, hz⟩ := hrest
  obtain ⟨z, hz, hzs⟩ := Option.map_eq_some_iff.1 hz
  refine wpList_append_own (P := Tryd.prog) _ hgd x y 22 ho base 53 i0 z 2 32 Tryd.underlying22 hi hz h8 hby hzs (by decide) v ps.length _ hx (World.ownsRow.alloc hown.row _) ⟨w0.heap.size, 0, none⟩ 1 1
    [.int .i64 d, s] hy rfl (fun j u hu => ?_) ?_ (by unfold maxLen; omega) (by omega) (by simp; omega) ?_
  · rw [addr_add, Nat.zero_add, blk_cell (heap_alloc_new w0 _) j]
    rw [← hu]; simp
  · intro u hu
    simp only [List.mem_cons, List.not_mem_nil, or_false] at hu
    rcases hu with rfl | rfl
    · rfl
    · exact own_oneCell hs
  · intro v' w' h1 h2 h3
    have h2' : w0.grownBy w' v.ownBlock := ⟨h2.os, h2.tape, h2.output, Nat.le_trans (by simp) h2.size, fun k hk hne => (h2.block k (by simp; omega) hne).trans (Below.heap_alloc _ _ _ hk)⟩
    have he : Eff (fun k => v.ownBlock = some k) w0 w' := (Eff.refl _ w0).grown h2' (fun k hk _ => hk)
    have hk : ∀ (y : Value) (ys : List Value), Own w0 base 3 y ys → Own w' base 3 y ys := fun y ys ho => ho.eff he (fun q hq e => row_ne_own hown.row ho (by decide) e hq)
    refine h v' w' ⟨?_, fun k hk' => ?_, fun k l b hk' hl hkl hb => ?_⟩ h2'
    · have h9 := pcells_append ps [⟨d, pos⟩] vs (fun _ => s)
      rw [pcells_one] at h9
      rw [h9, List.length_append]
      exact h1
    · by_cases hlt : k < ps.length
      · rw [if_pos hlt, List.getElem_append_left hlt]
        exact hk _ _ (hown.own k hlt)
      · rw [if_neg hlt, List.getElem_append_right (by omega)]
        simp only [List.getElem_singleton]
        exact hk _ _ hs
    · rw [List.length_append, List.length_singleton] at hk' hl
      by_cases h4 : k < ps.length
      · rw [if_pos h4] at hb
        by_cases h5 : l < ps.length
        · rw [if_pos h5]; exact hown.sep k l b h4 h5 hkl hb
        · rw [if_neg h5]; exact hsep k b h4 hb
      · rw [if_neg h4] at hb
        by_cases h5 : l < ps.length
        · rw [if_pos h5]; exact fun h9 => hsep l b h5 h9 hb
        · omega
end Go.Proofs.YthnpbfadblcicaaDoor
