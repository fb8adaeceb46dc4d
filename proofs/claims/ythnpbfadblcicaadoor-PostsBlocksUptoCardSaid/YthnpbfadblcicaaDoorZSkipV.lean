/- posts: lists of skip entries of the call's own. -/
import Derived.Test.YthnpbfadblcicaaDoorZG1
import Derived.OwnWalk
namespace Go.Proofs.YthnpbfadblcicaaDoor
set_option linter.unusedVariables false
open Go.ChangeShapes Go.WideShapes Go.ChangeAt Go.RowKit

def SkV.cells (s : SkV) : List Value := [.int .i64 s.last, .int .i64 (s.docs : Nat), .int .i64 (s.at_ : Nat), .int .i64 (s.size : Nat)]
def RowS (w : World) (base : Nat) (v : Value) (ss : List SkV) : Prop := w.ownsRow base 45 4 v ss.length (ss.flatMap SkV.cells)
theorem sk_len (s : SkV) : s.cells.length = 4 := rfl
theorem flat4 (ss : List SkV) : (ss.flatMap SkV.cells).length = ss.length * 4 := by
  induction ss with
  | nil => rfl
  | cons o ps ih => rw [List.flatMap_cons, List.length_append, ih, sk_len, List.length_cons]; omega
theorem flat4_get : ∀ (ss : List SkV) (i j : Nat) (h : i < ss.length) (v : Value), (ss[i]).cells[j]? = some v → (ss.flatMap SkV.cells)[i * 4 + j]? = some v
  | o :: ps, 0, j, _, v, hv => by
    have hj : j < 4 := (List.getElem?_eq_some_iff.1 hv).1
    rw [List.flatMap_cons, List.getElem?_append_left (by rw [sk_len]; omega)]
    simpa using hv
  | o :: ps, i + 1, j, h, v, hv => by
    rw [List.flatMap_cons, List.getElem?_append_right (by rw [sk_len]; omega), sk_len, show (i + 1) * 4 + j - 4 = i * 4 + j by omega]
    exact flat4_get ps i j (by simpa using h) v (by simpa using hv)
theorem RowS.sl {w : World} {base : Nat} {v : Value} {ss : List SkV} (h : RowS w base v ss) : ∃ a c, v = .slice a ss.length c := by
  rcases h.2 with ⟨rfl, h0⟩ | ⟨g, cap, cur, hv, _⟩
  · exact ⟨none, 0, by rw [h0]⟩
  · exact ⟨_, _, hv⟩
/-- Its cells. -/
theorem RowS.at_ {w : World} {base : Nat} {a : Option Addr} {n c : Nat} {ss : List SkV} (h : RowS w base (.slice a n c) ss) (i : Nat) (hi : i < ss.length) : ∃ g, a = some ⟨g, 0, none⟩ ∧ base ≤ g ∧ g < w.heap.size ∧ ∀ j v, (ss[i]).cells[j]? = some v → w.cell? ⟨g, i * 4 + j, none⟩ = some v := by
  rcases h.2 with ⟨hv, h0⟩ | ⟨g, cap, cur, hv, hb, hg, hn, _⟩
  · omega
  · have hc := World.ownsRow.cells h (g := g) (by rw [hv]; rfl)
    injection hv with e1 e2 e3
    subst e1
    refine ⟨g, rfl, hb, lt_of_heap hg, fun j v hvv => ?_⟩
    have := hc _ _ (flat4_get ss i j hi v hvv)
    rw [addr_add, Nat.zero_add] at this
    exact this
theorem RowS.eff {F : Nat → Prop} {w w' : World} {base : Nat} {v : Value} {ss : List SkV} (h : RowS w base v ss) (e : Eff F w w') (hF : ∀ k, v.ownBlock = some k → ¬ F k) : RowS w' base v ss := by
  refine ⟨h.1, ?_⟩
  rcases h.2 with hn | ⟨g, cap, cur, rfl, hb, hgg, rest⟩
  · exact .inl hn
  · exact .inr ⟨g, cap, cur, rfl, hb, (e.block g (lt_of_heap hgg) (hF g rfl)).trans hgg, rest⟩
theorem RowS.lt {w : World} {base : Nat} {v : Value} {ss : List SkV} (h : RowS w base v ss) : ∀ k, v.ownBlock = some k → base ≤ k ∧ k < w.heap.size := World.ownsRow.lt h
theorem RowS.below {B : Nat} {w w' : World} {base : Nat} {v : Value} {ss : List SkV} (h : RowS w base v ss) (hb : Below B w w') (hB : w.heap.size ≤ B) : RowS w' base v ss :=
  h.eff (F := fun k => B ≤ k) ⟨hb.os, hb.tape, hb.output, hb.size, fun k hk hn => hb.block k (by omega)⟩ (fun k hk => by have := (World.ownsRow.lt h k hk).2; omega)
theorem RowS.ne_type {w : World} {base : Nat} {v : Value} {ss : List SkV} {g : Nat} {cs : Array Value} {t : TypeId} {fr : Nat × Nat} (h : RowS w base v ss) (hg : w.heap[g]? = some (.cells cs t fr)) (hne : 45 ≠ t) : v.ownBlock ≠ some g := by
  rcases h.2 with ⟨rfl, _⟩ | ⟨g', cap, cur, rfl, _, hgg, _⟩
  · simp [Value.ownBlock]
  · intro he
    have he' : g' = g := by simpa [Value.ownBlock] using he
    subst he'
    rw [hgg] at hg
    injection hg with hg
    injection hg with _ ht
    exact hne ht
/-- A list of another type has another block. -/
theorem RowS.ne_own {w : World} {base b2 : Nat} {v y : Value} {ss : List SkV} {t : TypeId} {xs : List Value} (h : RowS w base v ss) (ho : Own w b2 t y xs) (hne : 45 ≠ t) {k : Nat} (hk : v.ownBlock = some k) : y.ownBlock ≠ some k := by
  rcases h.2 with ⟨rfl, _⟩ | ⟨g', cap, cur, rfl, _, hgg, _⟩
  · simp [Value.ownBlock] at hk
  · have he' : g' = k := by simpa [Value.ownBlock] using hk
    subst he'
    exact ho.ne_type hgg (fun e => hne e.symm)
theorem rowS_empty (w : World) (base : Nat) (h : base ≤ w.heap.size) : RowS (w.alloc (.cells #[] 45)) base (.slice (some ⟨w.heap.size, 0, none⟩) 0 0) [] :=
  ⟨rfl, .inr ⟨w.heap.size, 0, #[], rfl, h, heap_alloc_new w _, Nat.le_refl _, by unfold maxLen; omega, rfl, rfl⟩⟩
theorem sk_info : (Tryd.prog.info? 45).map (fun i => (i.size, i.bytes, (i.zero.map fun z => z.cells.size))) = some (4, 32, some 4) := by kernel_rfl
set_option maxRecDepth 100000 in
theorem apSk {w0 : World} {l : Int} {d t s : Nat} {base : Nat} {v : Value} {ss : List SkV} (hown : RowS w0 base v ss) (hlen : ss.length ≤ 1000000000) (hbase : base ≤ w0.heap.size)
    {ops : Array Oper} {rest : List Oper} {o : Oper} {a : Act} {Q : Exit → Act → World → Prop} (hgd : o.guard = none) (x y : Operand)
    (ho : o.op = .call { callee := .builtin .append, args := #[x, y], argTypes := #[37, 37] }) (hs : a.eval x = v) (hy : a.eval y = .slice (some ⟨w0.heap.size, 0, none⟩) 1 1)
    (h : ∀ v' w', RowS w' base v' (ss ++ [⟨l, d, t, s⟩]) → w0.grownBy w' v.ownBlock → wpList Tryd.prog ops Q rest (a.put o.dst v') w') :
    wpList Tryd.prog ops Q (o :: rest) a (w0.alloc (.cells #[.int .i64 l, .int .i64 (d : Nat), .int .i64 (t : Nat), .int .i64 (s : Nat)] 45)) := by
  obtain ⟨i0, hi, hrest⟩ := Option.map_eq_some_iff.1 sk_info
  simp only [Prod.mk.injEq] at hrest
  obtain ⟨h8, hby, hz⟩ := hrest
  obtain ⟨z, hz, hzs⟩ := Option.map_eq_some_iff.1 hz
  refine wpList_append_own (P := Tryd.prog) _ hgd x y 37 ho base 45 i0 z 4 32 Tryd.underlying37 hi hz h8 hby hzs (by decide) v ss.length _ hs (World.ownsRow.alloc hown _) ⟨w0.heap.size, 0, none⟩ 1 1
    (SkV.cells ⟨l, d, t, s⟩) hy rfl (fun j x hx => ?_) ?_ (by unfold maxLen; omega) (by omega) (by simp; omega) ?_
  · rw [addr_add, Nat.zero_add, blk_cell (heap_alloc_new w0 _) j]
    rw [← hx]; simp [SkV.cells]
  · intro x hx
    simp only [SkV.cells, List.mem_cons, List.not_mem_nil, or_false] at hx
    rcases hx with rfl | rfl | rfl | rfl <;> rfl
  · intro v' w' h1 h2 h3
    refine h v' w' ?_ ?_
    · unfold RowS; rw [List.flatMap_append, List.length_append]; simpa using h1
    · exact ⟨h2.os, h2.tape, h2.output, Nat.le_trans (by simp) h2.size, fun k hk hne => (h2.block k (by simp; omega) hne).trans (Below.heap_alloc _ _ _ hk)⟩
end Go.Proofs.YthnpbfadblcicaaDoor
