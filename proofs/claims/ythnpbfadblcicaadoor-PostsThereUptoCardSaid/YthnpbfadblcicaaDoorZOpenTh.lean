/- An argument that is a There: opened. -/
import Derived.Test.YthnpbfadblcicaaDoorZG7
import Derived.Test.YthnpbfadblcicaaDoorZThereF
namespace Go.Proofs.YthnpbfadblcicaaDoor
set_option linter.unusedVariables false
open Go.ChangeShapes Go.WideShapes Go.ChangeAt Go.RowKit Go.Deep
section
variable {H : Type} {enc : TypeId × Value → H} {P : Program} {w : World} {base : Nat} {spare : Nat → Bool} {held : Bool}
theorem open_there {e pt pe tl el bt be : TypeId} {f0 f1 f2 f3 g0 g1 : Field} {fuel : Nat} {cs : List Value} {x : DataW H × List MemPlace} (he : P.underlying e = some (.struct #[f0, f1, f2, f3]))
    (hone : oneCellFields P #[f0, f1, f2, f3] = true) (hC : P.cellsOf e = 4)
    (k0 : f0.type = pt) (k1 : P.underlying f1.type = some (.int .i64)) (k2 : f2.type = bt) (k3 : f3.type = bt)
    (hp : P.underlying pt = some (.slice pe)) (hpe : P.underlying pe = some (.struct #[g0, g1])) (hpo : oneCellFields P #[g0, g1] = true) (hpC : P.cellsOf pe = 2)
    (l0 : P.underlying g0.type = some (.int .i64)) (l1 : g1.type = tl) (kl : P.underlying tl = some (.slice el)) (ke : P.underlying el = some (.int .i64)) (kc : P.cellsOf el = 1)
    (hbt : P.underlying bt = some (.slice be)) (hbe : P.underlying be = some (.int .u8)) (hbc : P.cellsOf be = 1)
    (h : DataW.trod enc P w base spare held fuel e cs = some x) :
    ∃ (tv : ThereV) (ps : List PostV) (mo bs : List UInt8), cs = tv.cells ∧ RdPost w tv.a tv.n ps ∧ tv.n ≤ tv.c ∧ (∀ p ∈ ps, (-9223372036854775808 ≤ p.doc ∧ p.doc ≤ 9223372036854775807) ∧ FitL p.pos) ∧ totalV ps + ps.length + 1 ≤ Rows.uptoBulk x.1 ∧
      Rd w (.slice tv.a2 tv.n2 tv.c2) (bytesV mo) ∧ mo.length + 1 ≤ Rows.uptoBulk x.1 ∧ Rd w (.slice tv.a3 tv.n3 tv.c3) (bytesV bs) ∧ bs.length + 1 ≤ Rows.uptoBulk x.1 := by
  subst k0 k2
  obtain ⟨ys, n', hn', hy, hlen, hyl, hf⟩ := DataW.trod_struct he h
  rw [hC] at hlen
  have hy1 : ∀ y, y ∈ ys → Rows.uptoBulk y.1 ≤ Rows.uptoBulk x.1 := fun y hyy => by
    rw [hy]; simp only [Rows.uptoBulk]
    have := bulk_mem (List.mem_map_of_mem (f := (·.1)) hyy); omega
  have hf' : ∀ (j : Nat) (f : Field), (#[f0, f1, f2, f3] : Array Field)[j]? = some f → ∃ (v : Value) (y : DataW H × List MemPlace), cs[j]? = some v ∧ ys[j]? = some y ∧ DataW.trod enc P w base spare held n' f.type [v] = some y := fun j f hj => by
    obtain ⟨ho, hk⟩ := hone_of hone j f hj
    have hjl : j < 4 := (Array.getElem?_eq_some_iff.1 hj).1
    have h1 := hf j f hj
    rw [ho, hk] at h1
    have hone' : (cs.drop j).take 1 = [cs[j]'(by omega)] := by
      rw [List.drop_eq_getElem_cons (by omega)]
      rfl
    rw [hone'] at h1
    have hyl' : ys.length = 4 := hyl
    have hys : ys[j]? = some (ys[j]'(by omega)) := List.getElem?_eq_getElem (by omega)
    exact ⟨_, _, List.getElem?_eq_getElem (by omega), hys, h1.trans hys⟩
  obtain ⟨v0, y0, c0, e0, t0⟩ := hf' 0 f0 rfl
  obtain ⟨v1, y1, c1, e1, t1⟩ := hf' 1 f1 rfl
  obtain ⟨v2, y2, c2, e2, t2⟩ := hf' 2 f2 rfl
  obtain ⟨v3, y3, c3, e3, t3⟩ := hf' 3 f3 rfl
  obtain ⟨a, n, c, ps, h0, hrp, hnc, hfit, hbk⟩ := open_posts hp hpe hpo hpC l0 l1 kl ke kc t0
  obtain ⟨n1, h1, -, w1⟩ := DataW.trod_int k1 t1
  obtain ⟨b2, mo, h2, hr2, hm2⟩ := open_bytes hbt hbe hbc t2
  rw [k3] at t3
  obtain ⟨b3, bs, h3, hr3, hm3⟩ := open_bytes hbt hbe hbc t3
  simp only [List.cons.injEq, and_true] at h0 h1 h2 h3
  subst h0 h1 h2 h3
  obtain ⟨A2, C2, hv2, hrest2⟩ := hr2
  obtain ⟨A3, C3, hv3, hrest3⟩ := hr3
  subst hv2 hv3
  have q0 := hy1 y0 (List.mem_of_getElem? e0)
  have q2 := hy1 y2 (List.mem_of_getElem? e2)
  have q3 := hy1 y3 (List.mem_of_getElem? e3)
  refine ⟨⟨a, n, c, n1, A2, (bytesV mo).length, C2, A3, (bytesV bs).length, C3⟩, ps, mo, bs, ?_, hrp, hnc, hfit, by omega, ⟨A2, C2, rfl, hrest2⟩, by omega, ⟨A3, C3, rfl, hrest3⟩, by omega⟩
  match cs, hlen with
  | [x0, x1, x2, x3], _ =>
    simp only [List.getElem?_cons_zero, List.getElem?_cons_succ, Option.some.injEq] at c0 c1 c2 c3
    subst c0 c1 c2 c3
    rfl
end
end Go.Proofs.YthnpbfadblcicaaDoor
