/- Merged: Open1, OpenW. -/
import Derived.Test.YtmmflhippbegaaaDoorZG4
import Derived.Test.YtmmflhippbegaaaDoorZWire
import Derived.Test.YtmmflhippbegaaaDoorZRow8
/- An argument that is one Op: opened. -/
namespace Go.Proofs.YtmmflhippbegaaaDoor
set_option linter.unusedVariables false
open Go.ChangeShapes Go.WideShapes Go.ChangeAt Go.RowKit Go.Deep
section
variable {H : Type} {enc : TypeId × Value → H} {P : Program} {w : World} {base : Nat} {spare : Nat → Bool} {held : Bool}
theorem open_op {e bt it : TypeId} {f0 f1 f2 f3 f4 f5 f6 f7 : Field} {fuel : Nat} {cs : List Value} {x : DataW H × List MemPlace} (he : P.underlying e = some (.struct #[f0, f1, f2, f3, f4, f5, f6, f7]))
    (hone : oneCellFields P #[f0, f1, f2, f3, f4, f5, f6, f7] = true) (hC : P.cellsOf e = 8)
    (k0 : P.underlying f0.type = some (.int .i64)) (k1 : P.underlying f1.type = some .bool) (k2 : P.underlying f2.type = some (.int .i64)) (k3 : P.underlying f3.type = some (.int .u64)) (k4 : P.underlying f4.type = some (.int .i64))
    (k5 : P.underlying f5.type = some (.slice bt)) (k5b : P.underlying bt = some (.int .u8)) (k5c : P.cellsOf bt = 1) (k6 : P.underlying f6.type = some .string) (k7 : P.underlying f7.type = some (.slice it)) (k7b : P.underlying it = some (.int .i64)) (k7c : P.cellsOf it = 1)
    (h : DataW.trod enc P w base spare held fuel e cs = some x) :
    ∃ o : OpV, cs = o.cells ∧ OpOk w (Rows.uptoBulk x.1) o := by
  obtain ⟨ys, n', hn', hy, hlen, hyl, hf⟩ := DataW.trod_struct he h
  rw [hC] at hlen
  have hf' : ∀ (j : Nat) (f : Field), (#[f0, f1, f2, f3, f4, f5, f6, f7] : Array Field)[j]? = some f → ∃ (v : Value) (y : DataW H × List MemPlace), cs[j]? = some v ∧ ys[j]? = some y ∧ DataW.trod enc P w base spare held n' f.type [v] = some y := fun j f hj => by
    obtain ⟨ho, hk⟩ := hone_of hone j f hj
    have hjl : j < 8 := (Array.getElem?_eq_some_iff.1 hj).1
    have h1 := hf j f hj
    rw [ho, hk] at h1
    have hone' : (cs.drop j).take 1 = [cs[j]'(by omega)] := by
      rw [List.drop_eq_getElem_cons (by omega)]
      rfl
    rw [hone'] at h1
    have hyl' : ys.length = 8 := hyl
    have hys : ys[j]? = some (ys[j]'(by omega)) := List.getElem?_eq_getElem (by omega)
    exact ⟨_, _, List.getElem?_eq_getElem (by omega), hys, h1.trans hys⟩
  obtain ⟨v0, y0, c0, e0, t0⟩ := hf' 0 f0 rfl
  obtain ⟨v1, y1, c1, e1, t1⟩ := hf' 1 f1 rfl
  obtain ⟨v2, y2, c2, e2, t2⟩ := hf' 2 f2 rfl
  obtain ⟨v3, y3, c3, e3, t3⟩ := hf' 3 f3 rfl
  obtain ⟨v4, y4, c4, e4, t4⟩ := hf' 4 f4 rfl
  obtain ⟨v5, y5, c5, e5, t5⟩ := hf' 5 f5 rfl
  obtain ⟨v6, y6, c6, e6, t6⟩ := hf' 6 f6 rfl
  obtain ⟨v7, y7, c7, e7, t7⟩ := hf' 7 f7 rfl
  have hy1 : ∀ y, y ∈ ys → Rows.uptoBulk y.1 ≤ Rows.uptoBulk x.1 := fun y hyy => by
    rw [hy]; simp only [Rows.uptoBulk]
    have := bulk_mem (List.mem_map_of_mem (f := (·.1)) hyy); omega
  obtain ⟨n0, h0, -, w0⟩ := DataW.trod_int k0 t0
  obtain ⟨b1, h1, -⟩ := DataW.trod_bool k1 t1
  obtain ⟨n2, h2, -, w2⟩ := DataW.trod_int k2 t2
  obtain ⟨n3, h3, -, w3⟩ := DataW.trod_int k3 t3
  obtain ⟨n4, h4, -, w4⟩ := DataW.trod_int k4 t4
  obtain ⟨u5, bl, h5, hr5, hl5⟩ := open_bytes k5 k5b k5c t5
  obtain ⟨s6, h6, q6, hl6⟩ := DataW.trod_string k6 t6
  obtain ⟨u7, l, h7, hr7, hfit, hl7⟩ := open_intl k7 k7b k7c t7
  have q5 := hy1 y5 (List.mem_of_getElem? e5)
  have q6' := hy1 y6 (List.mem_of_getElem? e6)
  have q7 := hy1 y7 (List.mem_of_getElem? e7)
  simp only [List.cons.injEq, and_true] at h0 h1 h2 h3 h4 h5 h6 h7
  subst h0 h1 h2 h3 h4 h5 h6 h7
  have hr5' := hr5
  have hr7' := hr7
  obtain ⟨a5, z5, rfl, _⟩ := hr5'
  obtain ⟨a7, z7, rfl, _⟩ := hr7'
  have b0 := bounds_i64 w0
  have b2 := bounds_i64 w2
  have b3 := bounds_u64 w3
  have b4 := bounds_i64 w4
  refine ⟨⟨n0, b1, n2, n3, n4, a5, (bytesV bl).length, z5, s6, a7, (intL l).length, z7⟩, ?_, ⟨b0, b2, b3, b4, bl, l, hr5, hr7, hfit, by omega, by omega, ?_⟩⟩
  · match cs, hlen with
    | [x0, x1, x2, x3, x4, x5, x6, x7], _ =>
      simp only [List.getElem?_cons_zero, List.getElem?_cons_succ, Option.some.injEq] at c0 c1 c2 c3 c4 c5 c6 c7
      subst c0 c1 c2 c3 c4 c5 c6 c7
      rfl
  · have : s6.size = s6.data.toList.length := (Array.length_toList (xs := s6.data)).symm
    rw [q6] at q6'; simp only [Rows.uptoBulk] at q6'; show s6.size + 1 ≤ _; omega
end
theorem rd_low {w : World} {a : Option Addr} {n c : Nat} {xs : List Value} (h : Rd w (.slice a n c) xs) (h0 : 0 < xs.length) : ∀ b f, a = some ⟨b, f, none⟩ → b < w.heap.size := fun b f e => by
  obtain ⟨A, c', hv, _, hg⟩ := h
  injection hv with e1 _ _
  obtain ⟨b', o', e2, hc⟩ := hg h0
  rw [e1] at e
  rw [e2] at e
  injection e with e
  injection e with e3 _ _
  subst e3
  exact World.block_lt_of_cell? w _ (hc 0 _ (List.getElem?_eq_getElem h0))
/-- What was opened, as the walks ask it. -/
theorem OpOk.rd {w : World} {o : OpV} {B : Nat} (h : OpOk w B o) (hB : B ≤ 1048576) : ∃ bl l, OpRd w w.heap.size o bl l := by
  obtain ⟨g1, g2, g3, g4, bl, l, g5, g6, g7, g8, g9, g10⟩ := h
  exact ⟨bl, l, ⟨g2, g3, g4, g5, g6, g7, by omega, by omega, by omega, fun z => rd_low g5 (by rw [bytesV_length]; exact z), fun z => rd_low g6 (by rw [intL_length]; exact z)⟩⟩
end Go.Proofs.YtmmflhippbegaaaDoor

/- An argument that is a list of Op: opened, with the weight of all. -/
namespace Go.Proofs.YtmmflhippbegaaaDoor
set_option linter.unusedVariables false
open Go.ChangeShapes Go.WideShapes Go.ChangeAt Go.RowKit Go.Deep
theorem wgt_le {w : World} {B : Nat} {o : OpV} (h : OpOk w B o) : wgt o ≤ B := by
  obtain ⟨_, _, _, _, bl, l, g5, g6, _, g8, g9, g10⟩ := h
  have hb : o.bn = bl.length := by obtain ⟨A, c, e, _⟩ := g5; injection e with _ e _; rw [e, bytesV_length]
  have hl : o.ln = l.length := by obtain ⟨A, c, e, _⟩ := g6; injection e with _ e _; rw [e, intL_length]
  unfold wgt; omega
section
variable {H : Type} {enc : TypeId × Value → H} {P : Program} {w : World} {base : Nat} {spare : Nat → Bool} {held : Bool}
theorem open_ops_w {t e bt it : TypeId} {f0 f1 f2 f3 f4 f5 f6 f7 : Field} {fuel : Nat} {cs : List Value} {x : DataW H × List MemPlace} (ht : P.underlying t = some (.slice e)) (he : P.underlying e = some (.struct #[f0, f1, f2, f3, f4, f5, f6, f7]))
    (hone : oneCellFields P #[f0, f1, f2, f3, f4, f5, f6, f7] = true) (hC : P.cellsOf e = 8)
    (k0 : P.underlying f0.type = some (.int .i64)) (k1 : P.underlying f1.type = some .bool) (k2 : P.underlying f2.type = some (.int .i64)) (k3 : P.underlying f3.type = some (.int .u64)) (k4 : P.underlying f4.type = some (.int .i64))
    (k5 : P.underlying f5.type = some (.slice bt)) (k5b : P.underlying bt = some (.int .u8)) (k5c : P.cellsOf bt = 1) (k6 : P.underlying f6.type = some .string) (k7 : P.underlying f7.type = some (.slice it)) (k7b : P.underlying it = some (.int .i64)) (k7c : P.cellsOf it = 1)
    (h : DataW.trod enc P w base spare held fuel t cs = some x) :
    ∃ (a : Option Addr) (n c : Nat) (ops : List OpV), cs = [.slice a n c] ∧ RdOps w a n ops ∧ (∀ o ∈ ops, OpOk w (Rows.uptoBulk x.1) o) ∧ ops.length + 1 ≤ Rows.uptoBulk x.1 ∧ (ops.map wgt).sum ≤ Rows.uptoBulk x.1 := by
  rcases open_slice_fields ht he hone hC h with ⟨rfl, rfl⟩ | ⟨a, len, cap, m, D, Pl, rfl, hb, hl, hm, hmm, rfl, hx⟩
  · exact ⟨none, 0, 0, [], rfl, ⟨rfl, fun h => by simp at h⟩, fun o ho => (by cases ho), by simp [Rows.uptoBulk], by simp⟩
  have hlm : len ≤ m := by rw [hmm]; split <;> omega
  obtain ⟨O, hO⟩ := Go.Deep.choose_lt (α := OpV) (n := len) (p := fun i o => OpOk w (Rows.uptoBulk (D i)) o ∧ ∀ j v, o.cells[j]? = some v → w.cell? (a.add (i * 8 + j)) = some v) (fun i hi => by
    obtain ⟨ys, n', hD, -, hlen, hf⟩ := hx i (by omega)
    obtain ⟨v0, y0, c0, e0, t0⟩ := hf 0 f0 rfl
    obtain ⟨v1, y1, c1, e1, t1⟩ := hf 1 f1 rfl
    obtain ⟨v2, y2, c2, e2, t2⟩ := hf 2 f2 rfl
    obtain ⟨v3, y3, c3, e3, t3⟩ := hf 3 f3 rfl
    obtain ⟨v4, y4, c4, e4, t4⟩ := hf 4 f4 rfl
    obtain ⟨v5, y5, c5, e5, t5⟩ := hf 5 f5 rfl
    obtain ⟨v6, y6, c6, e6, t6⟩ := hf 6 f6 rfl
    obtain ⟨v7, y7, c7, e7, t7⟩ := hf 7 f7 rfl
    have hy : ∀ y, y ∈ ys → Rows.uptoBulk y.1 ≤ Rows.uptoBulk (D i) := fun y hyy => by
      rw [hD]; simp only [Rows.uptoBulk]
      have := bulk_mem (List.mem_map_of_mem (f := (·.1)) hyy); omega
    obtain ⟨n0, h0, -, w0⟩ := DataW.trod_int k0 t0
    obtain ⟨b1, h1, -⟩ := DataW.trod_bool k1 t1
    obtain ⟨n2, h2, -, w2⟩ := DataW.trod_int k2 t2
    obtain ⟨n3, h3, -, w3⟩ := DataW.trod_int k3 t3
    obtain ⟨n4, h4, -, w4⟩ := DataW.trod_int k4 t4
    obtain ⟨u5, bl, h5, hr5, hl5⟩ := open_bytes k5 k5b k5c t5
    obtain ⟨s6, h6, q6, hl6⟩ := DataW.trod_string k6 t6
    obtain ⟨u7, l, h7, hr7, hfit, hl7⟩ := open_intl k7 k7b k7c t7
    have q5 := hy y5 (List.mem_of_getElem? e5)
    have q6' := hy y6 (List.mem_of_getElem? e6)
    have q7 := hy y7 (List.mem_of_getElem? e7)
    simp only [List.cons.injEq, and_true] at h0 h1 h2 h3 h4 h5 h6 h7
    subst h0 h1 h2 h3 h4 h5 h6 h7
    have hr5' := hr5
    have hr7' := hr7
    obtain ⟨a5, z5, rfl, _⟩ := hr5'
    obtain ⟨a7, z7, rfl, _⟩ := hr7'
    have b0 := bounds_i64 w0
    have b2 := bounds_i64 w2
    have b3 := bounds_u64 w3
    have b4 := bounds_i64 w4
    refine ⟨⟨n0, b1, n2, n3, n4, a5, (bytesV bl).length, z5, s6, a7, (intL l).length, z7⟩, ⟨b0, b2, b3, b4, bl, l, hr5, hr7, hfit, by omega, by omega, ?_⟩, ?_⟩
    · have : s6.size = s6.data.toList.length := (Array.length_toList (xs := s6.data)).symm
      rw [q6] at q6'; simp only [Rows.uptoBulk] at q6'; show s6.size + 1 ≤ _; omega
    · intro j v hv
      have hj : j < 8 := (List.getElem?_eq_some_iff.1 hv).1
      have hjj : j = 0 ∨ j = 1 ∨ j = 2 ∨ j = 3 ∨ j = 4 ∨ j = 5 ∨ j = 6 ∨ j = 7 := by omega
      rcases hjj with rfl | rfl | rfl | rfl | rfl | rfl | rfl | rfl
      · rw [← Option.some.inj hv]; exact c0
      · rw [← Option.some.inj hv]; exact c1
      · rw [← Option.some.inj hv]; exact c2
      · rw [← Option.some.inj hv]; exact c3
      · rw [← Option.some.inj hv]; exact c4
      · rw [← Option.some.inj hv]; exact c5
      · rw [← Option.some.inj hv]; exact c6
      · rw [← Option.some.inj hv]; exact c7)
  refine ⟨some a, len, cap, (List.range len).map O, rfl, ⟨by simp, fun h0 => ?_⟩, fun o ho => ?_, ?_, ?_⟩
  · have h00 := (hO 0 (by simp at h0; omega)).2 0 _ rfl
    obtain ⟨b, o, sp⟩ := a
    have hs : sp = none := by simpa [Addr.add] using World.cell?_spot h00
    subst hs
    refine ⟨b, o, rfl, fun i hi j v hv => ?_⟩
    have hi' : i < len := by simpa using hi
    have h2 := (hO i hi').2 j v (by simpa using hv)
    rw [addr_add] at h2
    rw [Nat.add_assoc]; exact h2
  · obtain ⟨i, hi, rfl⟩ := List.mem_map.1 ho
    have hi' : i < len := by simpa using hi
    obtain ⟨g1, g2, g3, g4, bl, l, g5, g6, g7, g8, g9, g10⟩ := (hO i hi').1
    have hbk : Rows.uptoBulk (D i) ≤ Rows.uptoBulk (DataW.slice ((List.range len).map D) ((List.range (m - len)).map fun j => D (len + j))) := by
      have := bulk_mem (List.mem_map_of_mem (f := D) (List.mem_range.2 hi'))
      simp only [Rows.uptoBulk]; omega
    exact ⟨g1, g2, g3, g4, bl, l, g5, g6, g7, Nat.le_trans g8 hbk, Nat.le_trans g9 hbk, Nat.le_trans g10 hbk⟩
  · have h1 := bulk_length ((List.range len).map D)
    simp only [Rows.uptoBulk, List.length_map, List.length_range] at *
    omega
  · have h1 : ∀ k, k ≤ len → (((List.range k).map O).map wgt).sum ≤ Rows.uptoBulkAll ((List.range k).map D) := by
      intro k
      induction k with
      | zero => intro _; simp [Rows.uptoBulkAll]
      | succ k ih =>
        intro hk
        have h2 := ih (by omega)
        have h3 := wgt_le (hO k (by omega)).1
        rw [List.range_succ, List.map_append, List.map_append, List.map_append, List.sum_append, bulk_append]
        simp only [List.map_cons, List.map_nil, List.sum_cons, List.sum_nil, Rows.uptoBulkAll]
        omega
    have h2 := h1 len (Nat.le_refl _)
    simp only [Rows.uptoBulk] at *
    omega
end
end Go.Proofs.YtmmflhippbegaaaDoor
