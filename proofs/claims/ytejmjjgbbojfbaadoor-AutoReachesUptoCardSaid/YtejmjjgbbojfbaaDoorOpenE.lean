/- An argument that is a list of edits: opened. -/
import Derived.Test.YtejmjjgbbojfbaaDoorOpen
import Derived.Test.YtejmjjgbbojfbaaDoorReach
import Derived.Deep.Fields
import Derived.ChangeSame
namespace Go.Proofs.YtejmjjgbbojfbaaDoor
set_option linter.unusedVariables false
open Go.ChangeShapes Go.WideShapes Go.ChangeAt Go.RowKit Go.Deep
section
variable {H : Type} {enc : TypeId × Value → H} {P : Program} {w : World} {base : Nat} {spare : Nat → Bool} {held : Bool}
theorem open_slice_cells {t e : TypeId} {fs : Array Field} {fuel : Nat} {cs : List Value} {x : DataW H × List MemPlace} (ht : P.underlying t = some (.slice e)) (he : P.underlying e = some (.struct fs))
    (hone : oneCellFields P fs = true) (hC : P.cellsOf e = fs.size) (h : DataW.trod enc P w base spare held fuel t cs = some x) :
    (cs = [.slice none 0 0] ∧ x = (.nil, [])) ∨
    ∃ (a : Addr) (len cap m : Nat) (D : Nat → DataW H) (Pl : Nat → List MemPlace), cs = [.slice (some a) len cap] ∧ base ≤ a.block ∧ len ≤ cap ∧ cap ≤ maxLen ∧ m = (if spare a.block then cap else len) ∧
      x = (.slice ((List.range len).map D) ((List.range (m - len)).map fun j => D (len + j)), MemPlace.row a (m * fs.size) ++ (List.range m).flatMap Pl) ∧
      ∀ i, i < m → ∃ (ys : List (DataW H × List MemPlace)) (n : Nat), D i = .agg (ys.map (·.1)) ∧ Pl i = ys.flatMap (·.2) ∧ ys.length = fs.size ∧
        ∀ (j : Nat) (f : Field), fs[j]? = some f → ∃ (v : Value) (y : DataW H × List MemPlace), w.cell? (a.add (i * fs.size + j)) = some v ∧ ys[j]? = some y ∧ DataW.trod enc P w base spare held n f.type [v] = some y := by
  rcases open_slice ht h with h0 | ⟨a, len, cap, m, n, D, Pl, hcs, hb, hl, hm, hmm, hx, hi⟩
  · exact .inl h0
  · refine .inr ⟨a, len, cap, m, D, Pl, hcs, hb, hl, hm, hmm, by rw [hC] at hx; exact hx, fun i him => ?_⟩
    obtain ⟨cs', hc, ht'⟩ := hi i him
    rw [hC] at hc
    obtain ⟨ys, n', hn', hy, hlen, hyl, hf⟩ := DataW.trod_struct he ht'
    obtain ⟨_, hcl, hat⟩ := World.cells?_some hc
    simp only [Prod.mk.injEq] at hy
    refine ⟨ys, n', hy.1, hy.2, hyl, fun j f hj => ?_⟩
    obtain ⟨ho, hk⟩ := hone_of hone j f hj
    have hjl : j < fs.size := (Array.getElem?_eq_some_iff.1 hj).1
    have hcell := hat j hjl
    have h1 := hf j f hj
    rw [ho, hk] at h1
    have hone' : (cs'.drop j).take 1 = [cs'[j]'(by omega)] := by
      rw [List.drop_eq_getElem_cons (by omega)]
      rfl
    rw [hone'] at h1
    have hys : ys[j]? = some (ys[j]'(by omega)) := List.getElem?_eq_getElem (by omega)
    refine ⟨_, _, ?_, hys, h1.trans hys⟩
    rw [← Go.Deep.add_add, hcell, List.getElem?_eq_getElem (by omega)]
instance : Inhabited Ed := ⟨⟨0, 0, 0⟩⟩
theorem open_eds {t e : TypeId} {f0 f1 f2 : Field} {fuel : Nat} {cs : List Value} {x : DataW H × List MemPlace} (ht : P.underlying t = some (.slice e)) (he : P.underlying e = some (.struct #[f0, f1, f2]))
    (hone : oneCellFields P #[f0, f1, f2] = true) (hC : P.cellsOf e = 3)
    (k0 : P.underlying f0.type = some (.int .i64)) (k1 : P.underlying f1.type = some (.int .i64)) (k2 : P.underlying f2.type = some (.int .u8))
    (h : DataW.trod enc P w base spare held fuel t cs = some x) :
    ∃ (a : Option Addr) (n c : Nat) (es : List Ed), cs = [.slice a n c] ∧ RdEds w a n es ∧ n ≤ c ∧ (a = none → c = 0) ∧ (∀ e ∈ es, (-9223372036854775808 ≤ e.k ∧ e.k ≤ 9223372036854775807) ∧ -9223372036854775808 ≤ e.at_ ∧ e.at_ ≤ 9223372036854775807) ∧ es.length + 1 ≤ Rows.uptoBulk x.1 := by
  rcases open_slice_cells ht he hone hC h with ⟨rfl, rfl⟩ | ⟨a, len, cap, m, D, Pl, rfl, hb, hl, hm, hmm, rfl, hx⟩
  · exact ⟨none, 0, 0, [], rfl, ⟨rfl, fun i h => by simp at h⟩, Nat.le_refl _, fun _ => rfl, fun o ho => (by cases ho), by simp [Rows.uptoBulk]⟩
  have hlm : len ≤ m := by rw [hmm]; split <;> omega
  obtain ⟨O, hO⟩ := Go.Deep.choose_lt (α := Ed) (n := len) (p := fun i o => ((-9223372036854775808 ≤ o.k ∧ o.k ≤ 9223372036854775807) ∧ -9223372036854775808 ≤ o.at_ ∧ o.at_ ≤ 9223372036854775807) ∧ w.cell? (a.add (i * 3)) = some (.int .i64 o.k) ∧ w.cell? (a.add (i * 3 + 1)) = some (.int .i64 o.at_) ∧ w.cell? (a.add (i * 3 + 2)) = some (.int .u8 (o.c.toNat : Nat))) (fun i hi => by
    obtain ⟨ys, n', hD, -, hlen, hf⟩ := hx i (by omega)
    obtain ⟨v0, y0, c0, e0, t0⟩ := hf 0 f0 rfl
    obtain ⟨v1, y1, c1, e1, t1⟩ := hf 1 f1 rfl
    obtain ⟨v2, y2, c2, e2, t2⟩ := hf 2 f2 rfl
    obtain ⟨n0, h0, -, w0⟩ := DataW.trod_int k0 t0
    obtain ⟨n1, h1, -, w1⟩ := DataW.trod_int k1 t1
    obtain ⟨n2, h2, -, w2⟩ := DataW.trod_int k2 t2
    simp only [List.cons.injEq, and_true] at h0 h1 h2
    subst h0 h1 h2
    have b0 := bounds_i64 w0
    have b1 := bounds_i64 w1
    have b2 := bounds_u8 w2
    refine ⟨⟨n0, n1, UInt8.ofNat n2.toNat⟩, ⟨b0, b1⟩, c0, c1, ?_⟩
    have hc2 : w.cell? (a.add (i * 3 + 2)) = some (.int .u8 n2) := c2
    rw [hc2, u8_ofNat]
    congr 2; omega)
  refine ⟨some a, len, cap, (List.range len).map O, rfl, ⟨by simp, fun i hi => ?_⟩, hl, fun h => (by cases h), fun o ho => ?_, ?_⟩
  · have hi' : i < len := by simpa using hi
    obtain ⟨_, g0, g1, g2⟩ := hO i hi'
    obtain ⟨b, o, sp⟩ := a
    have hs : sp = none := by simpa [Addr.add] using World.cell?_spot (hO 0 (by omega)).2.1
    subst hs
    rw [addr_add] at g0 g1 g2
    refine ⟨b, o, rfl, ?_, ?_, ?_⟩
    · simpa using g0
    · rw [Nat.add_assoc]; simpa using g1
    · rw [Nat.add_assoc]; simpa using g2
  · obtain ⟨i, hi, rfl⟩ := List.mem_map.1 ho
    exact (hO i (List.mem_range.1 hi)).1
  · have h1 := bulk_length ((List.range len).map D)
    simp only [Rows.uptoBulk, List.length_map, List.length_range] at *
    omega
end
end Go.Proofs.YtejmjjgbbojfbaaDoor
