/- Arguments that are lists of ints: opened. -/
import Derived.Test.YtmmflhippbegaaaDoorOpen
import Derived.Test.YtmmflhippbegaaaDoorWList
namespace Go.Proofs.YtmmflhippbegaaaDoor
set_option linter.unusedVariables false
open Go.ChangeShapes Go.WideShapes Go.ChangeAt Go.RowKit
section
variable {H : Type} {enc : TypeId × Value → H} {P : Program} {w : World} {base : Nat} {spare : Nat → Bool} {held : Bool} {fuel : Nat} {cs : List Value} {x : DataW H × List MemPlace}
theorem open_intl {t e : TypeId} (ht : P.underlying t = some (.slice e)) (he : P.underlying e = some (.int .i64)) (hc : P.cellsOf e = 1) (h : DataW.trod enc P w base spare held fuel t cs = some x) :
    ∃ v l, cs = [v] ∧ Rd w v (intL l) ∧ FitL l ∧ l.length + 1 ≤ Rows.uptoBulk x.1 := by
  rcases open_ints ht he hc h with ⟨rfl, rfl⟩ | ⟨a, len, cap, zs, rfl, hb, hl, hm, hz, rfl, hcell, hwf⟩
  · exact ⟨_, [], rfl, ⟨none, 0, rfl, Nat.le_refl _, fun h => by simp [intL] at h⟩, fun z hz => (by simp at hz), by simp [Rows.uptoBulk]⟩
  have hlz : len ≤ zs.length := by rw [hz]; split <;> omega
  refine ⟨_, zs.take len, rfl, ?_, ?_, ?_⟩
  · have hll : (intL (zs.take len)).length = len := by rw [intL_length, List.length_take]; omega
    refine ⟨some a, cap, by rw [hll], by rw [hll]; exact hl, fun h0 => ?_⟩
    rw [hll] at h0
    obtain ⟨b, o, rfl, hcc⟩ := ints_at hcell (by omega)
    refine ⟨b, o, rfl, fun j y hy => ?_⟩
    have hj : j < len := by have := (List.getElem?_eq_some_iff.1 hy).1; omega
    rw [← addr_add b o j, hcell j (by omega)]
    have hjz : j < zs.length := by omega
    rw [← hy]
    simp [intL, List.getD, hj, hjz]
  · intro z hz
    have hw := bounds_i64 (hwf z (List.mem_of_mem_take hz))
    omega
  · have h1 := bulk_length (lits (H := H) .i64 (zs.take len))
    simp only [Rows.uptoBulk]
    have h2 : (lits (H := H) .i64 (zs.take len)).length = len := by simp [lits]; omega
    rw [List.length_take]
    omega
end
end Go.Proofs.YtmmflhippbegaaaDoor
