/- An argument that is an Of: opened. -/
import Derived.Test.YtejmjjgbbojfbaaDoorZG10
import Derived.Test.YtejmjjgbbojfbaaDoorZMake
import Derived.Deep.Fields
import Derived.ChangeSame
namespace Go.Proofs.YtejmjjgbbojfbaaDoor
set_option linter.unusedVariables false
open Go.ChangeShapes Go.WideShapes Go.ChangeAt Go.RowKit Go.Deep
theorem bulk_memO {H : Type} {d : DataW H} {l : List (DataW H)} (h : d ∈ l) : Rows.uptoBulk d ≤ Rows.uptoBulkAll l := by
  induction l with
  | nil => cases h
  | cons x r ih =>
    simp only [Rows.uptoBulkAll]
    rcases List.mem_cons.1 h with rfl | h
    · omega
    · have := ih h; omega
section
variable {H : Type} {enc : TypeId × Value → H} {P : Program} {w : World} {base : Nat} {spare : Nat → Bool} {held : Bool}
theorem open_bound {e : TypeId} {g0 g1 g2 : Field} {fuel : Nat} {cs : List Value} {x : DataW H × List MemPlace} (he : P.underlying e = some (.struct #[g0, g1, g2]))
    (hone : oneCellFields P #[g0, g1, g2] = true) (hC : P.cellsOf e = 3) (k0 : P.underlying g0.type = some .bool) (k1 : P.underlying g1.type = some .bool) (k2 : P.underlying g2.type = some .string)
    (h : DataW.trod enc P w base spare held fuel e cs = some x) :
    ∃ (a b : Bool) (s : ByteArray), cs = [.bool a, .bool b, .string s] ∧ s.size + 1 ≤ Rows.uptoBulk x.1 := by
  obtain ⟨ys, n', hn', hy, hlen, hyl, hf⟩ := DataW.trod_struct he h
  rw [hC] at hlen
  have hf' : ∀ (j : Nat) (f : Field), (#[g0, g1, g2] : Array Field)[j]? = some f → ∃ (v : Value) (y : DataW H × List MemPlace), cs[j]? = some v ∧ ys[j]? = some y ∧ DataW.trod enc P w base spare held n' f.type [v] = some y := fun j f hj => by
    obtain ⟨ho, hk⟩ := hone_of hone j f hj
    have hjl : j < 3 := (Array.getElem?_eq_some_iff.1 hj).1
    have h1 := hf j f hj
    rw [ho, hk] at h1
    have hone' : (cs.drop j).take 1 = [cs[j]'(by omega)] := by
      rw [List.drop_eq_getElem_cons (by omega)]
      rfl
    rw [hone'] at h1
    have hyl' : ys.length = 3 := hyl
    have hys : ys[j]? = some (ys[j]'(by omega)) := List.getElem?_eq_getElem (by omega)
    exact ⟨_, _, List.getElem?_eq_getElem (by omega), hys, h1.trans hys⟩
  obtain ⟨v0, y0, c0, e0, t0⟩ := hf' 0 g0 rfl
  obtain ⟨v1, y1, c1, e1, t1⟩ := hf' 1 g1 rfl
  obtain ⟨v2, y2, c2, e2, t2⟩ := hf' 2 g2 rfl
  obtain ⟨b0, h0, -⟩ := DataW.trod_bool k0 t0
  obtain ⟨b1, h1, -⟩ := DataW.trod_bool k1 t1
  obtain ⟨s, h2, q2, hl2⟩ := DataW.trod_string k2 t2
  simp only [List.cons.injEq, and_true] at h0 h1 h2
  subst h0 h1 h2
  refine ⟨b0, b1, s, ?_, ?_⟩
  · match cs, hlen with
    | [x0, x1, x2], _ =>
      simp only [List.getElem?_cons_zero, List.getElem?_cons_succ, Option.some.injEq] at c0 c1 c2
      subst c0 c1 c2
      rfl
  · have h3 : Rows.uptoBulk y2.1 ≤ Rows.uptoBulk x.1 := by
      rw [hy]; simp only [Rows.uptoBulk]
      have := bulk_memO (List.mem_map_of_mem (f := (·.1)) (List.mem_of_getElem? e2)); omega
    have h4 : s.size = s.data.toList.length := (Array.length_toList (xs := s.data)).symm
    rw [q2] at h3; simp only [Rows.uptoBulk] at h3; omega
theorem open_of {e bd : TypeId} {f0 f1 f2 f3 f4 g0 g1 g2 : Field} {fuel : Nat} {cs : List Value} {x : DataW H × List MemPlace} (he : P.underlying e = some (.struct #[f0, f1, f2, f3, f4])) (hC : P.cellsOf e = 9)
    (o0 : f0.offset = 0 ∧ P.cellsOf f0.type = 1) (o1 : f1.offset = 1 ∧ P.cellsOf f1.type = 1) (o2 : f2.offset = 2 ∧ P.cellsOf f2.type = 1) (o3 : f3.offset = 3 ∧ P.cellsOf f3.type = 3) (o4 : f4.offset = 6 ∧ P.cellsOf f4.type = 3)
    (k0 : P.underlying f0.type = some (.int .i64)) (k1 : P.underlying f1.type = some .string) (k2 : P.underlying f2.type = some (.int .i64)) (k3 : f3.type = bd) (k4 : f4.type = bd)
    (hb : P.underlying bd = some (.struct #[g0, g1, g2])) (hone : oneCellFields P #[g0, g1, g2] = true) (hbC : P.cellsOf bd = 3) (l0 : P.underlying g0.type = some .bool) (l1 : P.underlying g1.type = some .bool) (l2 : P.underlying g2.type = some .string)
    (h : DataW.trod enc P w base spare held fuel e cs = some x) :
    ∃ o : OfV, cs = o.cells ∧ (-9223372036854775808 ≤ o.k ∧ o.k ≤ 9223372036854775807) ∧ (-9223372036854775808 ≤ o.n ∧ o.n ≤ 9223372036854775807) ∧ o.s.size + 1 ≤ Rows.uptoBulk x.1 ∧ o.ls.size + 1 ≤ Rows.uptoBulk x.1 ∧ o.hs.size + 1 ≤ Rows.uptoBulk x.1 := by
  obtain ⟨ys, n', hn', hy, hlen, hyl, hf⟩ := DataW.trod_struct he h
  rw [hC] at hlen
  have hyl' : ys.length = 5 := hyl
  have hys : ∀ j, (hj : j < 5) → ys[j]? = some (ys[j]'(by omega)) := fun j hj => List.getElem?_eq_getElem (by omega)
  have hy1 : ∀ y, y ∈ ys → Rows.uptoBulk y.1 ≤ Rows.uptoBulk x.1 := fun y hyy => by
    rw [hy]; simp only [Rows.uptoBulk]
    have := bulk_memO (List.mem_map_of_mem (f := (·.1)) hyy); omega
  obtain ⟨x0, x1, x2, x3, x4, x5, x6, x7, x8, rfl⟩ : ∃ x0 x1 x2 x3 x4 x5 x6 x7 x8, cs = [x0, x1, x2, x3, x4, x5, x6, x7, x8] := by
    match cs, hlen with
    | [x0, x1, x2, x3, x4, x5, x6, x7, x8], _ => exact ⟨x0, x1, x2, x3, x4, x5, x6, x7, x8, rfl⟩
  have t0 := hf 0 f0 rfl
  have t1 := hf 1 f1 rfl
  have t2 := hf 2 f2 rfl
  have t3 := hf 3 f3 rfl
  have t4 := hf 4 f4 rfl
  rw [o0.1, o0.2, hys 0 (by omega)] at t0
  rw [o1.1, o1.2, hys 1 (by omega)] at t1
  rw [o2.1, o2.2, hys 2 (by omega)] at t2
  rw [o3.1, o3.2, hys 3 (by omega), k3] at t3
  rw [o4.1, o4.2, hys 4 (by omega), k4] at t4
  obtain ⟨n0, h0, -, w0⟩ := DataW.trod_int k0 t0
  obtain ⟨s1, h1, q1, hl1⟩ := DataW.trod_string k1 t1
  obtain ⟨n2, h2, -, w2⟩ := DataW.trod_int k2 t2
  obtain ⟨a3, b3, s3, h3, z3⟩ := open_bound hb hone hbC l0 l1 l2 t3
  obtain ⟨a4, b4, s4, h4, z4⟩ := open_bound hb hone hbC l0 l1 l2 t4
  have b0 := bounds_i64 w0
  have b2 := bounds_i64 w2
  have m1 := hy1 _ (List.getElem_mem (show 1 < ys.length by omega))
  have m3 := hy1 _ (List.getElem_mem (show 3 < ys.length by omega))
  have m4 := hy1 _ (List.getElem_mem (show 4 < ys.length by omega))
  simp only [List.drop_zero, List.drop_succ_cons, List.take_succ_cons, List.take_zero, List.cons.injEq, and_true] at h0 h1 h2 h3 h4
  obtain ⟨r3a, r3b, r3c⟩ := h3
  obtain ⟨r4a, r4b, r4c⟩ := h4
  subst h0 h1 h2 r3a r3b r3c r4a r4b r4c
  have hs1 : s1.size = s1.data.toList.length := (Array.length_toList (xs := s1.data)).symm
  rw [q1] at m1; simp only [Rows.uptoBulk] at m1
  exact ⟨⟨n0, s1, n2, a3, b3, s3, a4, b4, s4⟩, rfl, b0, b2, by show s1.size + 1 ≤ _; omega, by show s3.size + 1 ≤ _; omega, by show s4.size + 1 ≤ _; omega⟩
end
end Go.Proofs.YtejmjjgbbojfbaaDoor
