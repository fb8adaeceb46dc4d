/- A list of Op of the call's own: its memory, append. -/
import Derived.Test.YtmmflhippbegaaaDoorZWire
namespace Go.Proofs.YtmmflhippbegaaaDoor
set_option linter.unusedVariables false
open Go.ChangeShapes Go.WideShapes Go.ChangeAt Go.RowKit

/-- v is a list of Op of the call's own: it holds ps. -/
def Row8 (w : World) (base : Nat) (v : Value) (ps : List OpV) : Prop := w.ownsRow base 46 8 v ps.length (ps.flatMap OpV.cells)
theorem Cells8.eff {F : Nat → Prop} {w w' : World} {B : Nat} {c0 c1 c2 c3 c4 c5 c6 c7 : Value} (h : Cells8 w B c0 c1 c2 c3 c4 c5 c6 c7) (e : Eff F w w') (hF : ¬ F B) : Cells8 w' B c0 c1 c2 c3 c4 c5 c6 c7 :=
  ⟨e.cell hF h.c0, e.cell hF h.c1, e.cell hF h.c2, e.cell hF h.c3, e.cell hF h.c4, e.cell hF h.c5, e.cell hF h.c6, e.cell hF h.c7⟩
theorem cells_len (o : OpV) : o.cells.length = 8 := rfl
theorem flat8 (ps : List OpV) : (ps.flatMap OpV.cells).length = ps.length * 8 := by
  induction ps with
  | nil => rfl
  | cons o ps ih => rw [List.flatMap_cons, List.length_append, ih, cells_len, List.length_cons]; omega
theorem flat8_get : ∀ (ps : List OpV) (i j : Nat) (h : i < ps.length) (v : Value), (ps[i]).cells[j]? = some v → (ps.flatMap OpV.cells)[i * 8 + j]? = some v
  | o :: ps, 0, j, _, v, hv => by
    have hj : j < 8 := (List.getElem?_eq_some_iff.1 hv).1
    rw [List.flatMap_cons, List.getElem?_append_left (by rw [cells_len]; omega)]
    simpa using hv
  | o :: ps, i + 1, j, h, v, hv => by
    rw [List.flatMap_cons, List.getElem?_append_right (by rw [cells_len]; omega), cells_len, show (i + 1) * 8 + j - 8 = i * 8 + j by omega]
    exact flat8_get ps i j (by simpa using h) v (by simpa using hv)
theorem Row8.sl {w : World} {base : Nat} {v : Value} {ps : List OpV} (h : Row8 w base v ps) : ∃ a c, v = .slice a ps.length c := by
  rcases h.2 with ⟨rfl, h0⟩ | ⟨g, cap, cur, hv, _⟩
  · exact ⟨none, 0, by rw [h0]⟩
  · exact ⟨_, _, hv⟩
theorem Row8.rd {w : World} {base : Nat} {a : Option Addr} {n c : Nat} {ps : List OpV} (h : Row8 w base (.slice a n c) ps) : RdOps w a n ps := by
  rcases h.2 with ⟨hv, h0⟩ | ⟨g, cap, cur, hv, hb, hg, hn, _⟩
  · injection hv with e1 e2 e3
    exact ⟨by rw [e2, h0], fun h1 => by omega⟩
  · have hc := World.ownsRow.cells h (g := g) (by rw [hv]; rfl)
    injection hv with e1 e2 e3
    subst e1 e2 e3
    refine ⟨rfl, fun h1 => ⟨g, 0, rfl, fun i hi j v hvv => ?_⟩⟩
    have := hc _ _ (flat8_get ps i j hi v hvv)
    rw [addr_add] at this
    rw [Nat.add_assoc]; exact this
theorem Row8.eff {F : Nat → Prop} {w w' : World} {base : Nat} {v : Value} {ps : List OpV} (h : Row8 w base v ps) (e : Eff F w w') (hF : ∀ k, v.ownBlock = some k → ¬ F k) : Row8 w' base v ps := by
  refine ⟨h.1, ?_⟩
  rcases h.2 with hn | ⟨g, cap, cur, rfl, hb, hgg, rest⟩
  · exact .inl hn
  · exact .inr ⟨g, cap, cur, rfl, hb, (e.block g (lt_of_heap hgg) (hF g rfl)).trans hgg, rest⟩
/-- The Writer's blocks are none of it. -/
theorem Row8.ne_wr {w : World} {base B p : Nat} {v vw : Value} {ps : List OpV} {bs : List UInt8} (h : Row8 w base v ps) (hw : Wr w B p vw bs) : ∀ k, v.ownBlock = some k → ¬ WrB p vw k := by
  intro k hk hb
  rcases h.2 with ⟨rfl, _⟩ | ⟨g, cap, cur, rfl, _, hgg, _⟩
  · simp [Value.ownBlock] at hk
  · have hkg : g = k := by simpa [Value.ownBlock] using hk
    subst hkg
    rcases hb with hb | hb
    · subst hb
      have := hgg.symm.trans hw.blk
      injection this with this
      injection this with _ e _
      exact absurd e (by decide)
    · exact hw.own.ne_type hgg (by decide) hb
theorem Row8.lt {w : World} {base : Nat} {v : Value} {ps : List OpV} (h : Row8 w base v ps) : ∀ k, v.ownBlock = some k → base ≤ k ∧ k < w.heap.size := World.ownsRow.lt h
theorem row8_empty (w : World) (base : Nat) (h : base ≤ w.heap.size) : Row8 (w.alloc (.cells #[] 46)) base (.slice (some ⟨w.heap.size, 0, none⟩) 0 0) [] :=
  World.ownsRow_made (base := base) (e := 46) (size := 8) w #[] 0 h (by decide) rfl
theorem op_info : (Tryd.prog.info? 46).map (fun i => (i.size, i.bytes, (i.zero.map fun z => z.cells.size))) = some (8, 104, some 8) := by kernel_rfl
set_option maxRecDepth 100000 in
theorem ap8 {w0 : World} {kd n u i : Int} {sec : Bool} {ba : Option Addr} {bn bc : Nat} {s : ByteArray} {la : Option Addr} {ln lc : Nat} {base : Nat} {v : Value} {ps : List OpV} (hown : Row8 w0 base v ps) (hlen : ps.length ≤ 1000000000) (hbase : base ≤ w0.heap.size)
    {ops : Array Oper} {rest : List Oper} {o : Oper} {a : Act} {Q : Exit → Act → World → Prop} (hgd : o.guard = none) (x y : Operand)
    (ho : o.op = .call { callee := .builtin .append, args := #[x, y], argTypes := #[36, 36] }) (hs : a.eval x = v) (hy : a.eval y = .slice (some ⟨w0.heap.size, 0, none⟩) 1 1)
    (h : ∀ v' w', Row8 w' base v' (ps ++ [⟨kd, sec, n, u, i, ba, bn, bc, s, la, ln, lc⟩]) → w0.grownBy w' v.ownBlock → wpList Tryd.prog ops Q rest (a.put o.dst v') w') :
    wpList Tryd.prog ops Q (o :: rest) a (w0.alloc (.cells #[.int .i64 kd, .bool sec, .int .i64 n, .int .u64 u, .int .i64 i, .slice ba bn bc, .string s, .slice la ln lc] 46)) := by
  obtain ⟨i0, hi, hrest⟩ := Option.map_eq_some_iff.1 op_info
  simp only [Prod.mk.injEq] at hrest
  obtain ⟨h8, hby, hz⟩ := hrest
  obtain ⟨z, hz, hzs⟩ := Option.map_eq_some_iff.1 hz
  refine wpList_append_own (P := Tryd.prog) _ hgd x y 36 ho base 46 i0 z 8 104 Tryd.underlying36 hi hz h8 hby hzs (by decide) v ps.length _ hs (World.ownsRow.alloc hown _) ⟨w0.heap.size, 0, none⟩ 1 1
    (OpV.cells ⟨kd, sec, n, u, i, ba, bn, bc, s, la, ln, lc⟩) hy rfl (fun j x hx => ?_) ?_ (by unfold maxLen; omega) (by omega) (by simp; omega) ?_
  · rw [addr_add, Nat.zero_add, blk_cell (heap_alloc_new w0 _) j]
    have hj : j < 8 := (List.getElem?_eq_some_iff.1 hx).1
    rw [← hx]; simp [OpV.cells]
  · intro x hx
    simp only [OpV.cells, List.mem_cons, List.not_mem_nil, or_false] at hx
    rcases hx with rfl | rfl | rfl | rfl | rfl | rfl | rfl | rfl <;> rfl
  · intro v' w' h1 h2 _
    refine h v' w' ?_ ?_
    · unfold Row8; rw [List.flatMap_append, List.length_append]; simpa using h1
    · exact ⟨h2.os, h2.tape, h2.output, Nat.le_trans (by simp) h2.size, fun k hk hne => (h2.block k (by simp; omega) hne).trans (Below.heap_alloc _ _ _ hk)⟩
/-- How much one Op weighs. -/
def wgt (o : OpV) : Nat := max o.bn (max o.ln o.s.size) + 1
theorem wire_wgt {w : World} {B0 : Nat} {o : OpV} {bl : List UInt8} {l : List Int} (h : OpRd w B0 o bl l) (hok : wOk o l) : (wire o bl l).length ≤ 20 * wgt o := by
  have hu := h.u
  have hb : o.bn = bl.length := by obtain ⟨A, c, e, _⟩ := h.rb; injection e with _ e _; rw [e, bytesV_length]
  have hl : o.ln = l.length := by obtain ⟨A, c, e, _⟩ := h.rl; injection e with _ e _; rw [e, intL_length]
  have e : o.s.size = o.s.data.toList.length := (Array.length_toList (xs := o.s.data)).symm
  have hsl := h.sl
  have hss := h.ss
  have u1 := (uvar_le o.u.toNat (by omega)).2
  have u2 := (uvar_le (zigI o.i).toNat (by have := zigI_bd o.i h.i.1 h.i.2; omega)).2
  have u3 := (uvar_le o.s.size (by omega)).2
  unfold wgt wire
  split
  · simp; omega
  split
  · omega
  split
  · omega
  split
  · rw [leB_length]; omega
  split
  · rw [leB_length]; omega
  split
  · omega
  split
  · rw [List.length_append]; omega
  split
  · next e =>
    have h1 := (uvar_le l.length (by omega)).2
    have h2 := gapsB_le h.fit (-1) (by omega) (fun z hz => neg_mem (hok.2.2.1 e).1 hz)
    rw [risB, List.length_append]; omega
  split
  · next e =>
    have h1 := (uvar_le (natOf l).length (by rw [natOf_length]; omega)).2
    have h2 := widL_63 (natOf_fit h.fit)
    have h3 : (natOf l).length * widL (natOf l) ≤ (natOf l).length * 63 := Nat.mul_le_mul_left _ h2
    have h4 := natOf_length l
    unfold pckB
    rw [List.length_append]
    split
    · simp; omega
    · rw [packB, List.length_cons, leB_length]; omega
  · omega
end Go.Proofs.YtmmflhippbegaaaDoor
