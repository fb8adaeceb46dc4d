/- An argument that is a list of pairs of numbers: opened. -/
import Derived.Test.YthnpbfadblcicaaDoorZG7
import Derived.Test.YthnpbfadblcicaaDoorZPListsF
namespace Go.Proofs.YthnpbfadblcicaaDoor
set_option linter.unusedVariables false
open Go.ChangeShapes Go.WideShapes Go.ChangeAt Go.RowKit Go.Deep
section
variable {H : Type} {enc : TypeId × Value → H} {P : Program} {w : World} {base : Nat} {spare : Nat → Bool} {held : Bool}
instance : Inhabited Op2 := ⟨⟨0, 0⟩⟩
theorem open_op2 {t e : TypeId} {f0 f1 : Field} {fuel : Nat} {cs : List Value} {x : DataW H × List MemPlace} (ht : P.underlying t = some (.slice e)) (he : P.underlying e = some (.struct #[f0, f1]))
    (hone : oneCellFields P #[f0, f1] = true) (hC : P.cellsOf e = 2)
    (k0 : P.underlying f0.type = some (.int .i64)) (k1 : P.underlying f1.type = some (.int .i64))
    (h : DataW.trod enc P w base spare held fuel t cs = some x) :
    ∃ (a : Option Addr) (n c : Nat) (os : List Op2), cs = [.slice a n c] ∧ RdOp2 w a n os ∧ os.length + 1 ≤ Rows.uptoBulk x.1 := by
  rcases open_slice_cells ht he hone hC h with ⟨rfl, rfl⟩ | ⟨a, len, cap, m, D, Pl, rfl, hb, hl, hm, hmm, rfl, hx⟩
  · exact ⟨none, 0, 0, [], rfl, ⟨rfl, fun i h => by simp at h⟩, by simp [Rows.uptoBulk]⟩
  have hlm : len ≤ m := by rw [hmm]; split <;> omega
  obtain ⟨O, hO⟩ := Go.Deep.choose_lt (α := Op2) (n := len) (p := fun i o => w.cell? (a.add (i * 2)) = some (.int .i64 o.k) ∧ w.cell? (a.add (i * 2 + 1)) = some (.int .i64 o.n)) (fun i hi => by
    obtain ⟨ys, n', hD, -, hlen, hf⟩ := hx i (by omega)
    obtain ⟨v0, y0, c0, e0, t0⟩ := hf 0 f0 rfl
    obtain ⟨v1, y1, c1, e1, t1⟩ := hf 1 f1 rfl
    obtain ⟨n0, h0, -, w0⟩ := DataW.trod_int k0 t0
    obtain ⟨n1, h1, -, w1⟩ := DataW.trod_int k1 t1
    simp only [List.cons.injEq, and_true] at h0 h1
    subst h0 h1
    exact ⟨⟨n0, n1⟩, c0, c1⟩)
  refine ⟨some a, len, cap, (List.range len).map O, rfl, ⟨by simp, fun i hi => ?_⟩, ?_⟩
  · have hi' : i < len := by simpa using hi
    obtain ⟨g0, g1⟩ := hO i hi'
    obtain ⟨b, o, sp⟩ := a
    have hs : sp = none := by simpa [Addr.add] using World.cell?_spot (hO 0 (by omega)).1
    subst hs
    rw [addr_add] at g0 g1
    refine ⟨b, o, rfl, ?_, ?_⟩
    · simpa using g0
    · rw [Nat.add_assoc]; simpa using g1
  · simp only [Rows.uptoBulk, List.length_map, List.length_range] at *
    have h1 := bulk_length ((List.range len).map D)
    simp only [List.length_map, List.length_range] at h1
    omega
end
end Go.Proofs.YthnpbfadblcicaaDoor
