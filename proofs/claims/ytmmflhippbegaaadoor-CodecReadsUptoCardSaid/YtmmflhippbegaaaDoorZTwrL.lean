/- A struct of five cells, stored cell by cell, read back. -/
import Derived.Test.YtmmflhippbegaaaDoorZLib
namespace Go.Proofs.YtmmflhippbegaaaDoor
set_option linter.unusedVariables false
theorem tower0 {w : World} {P : Nat} {c0 c1 c2 c3 c4 : Value} {t : TypeId} (h : w.heap[P]? = some (.cells #[c0, c1, c2, c3, c4] t (0, 0))) (u0 : Value) : (w.setCell ⟨P, 0, none⟩ u0).cell? ⟨P, 0, none⟩ = some u0 := by rw [blk_cell (blk_set h 0 u0) 0]; rfl
theorem tower1 {w : World} {P : Nat} {c0 c1 c2 c3 c4 : Value} {t : TypeId} (h : w.heap[P]? = some (.cells #[c0, c1, c2, c3, c4] t (0, 0))) (u0 u1 : Value) : ((w.setCell ⟨P, 0, none⟩ u0).setCell ⟨P, 1, none⟩ u1).cell? ⟨P, 1, none⟩ = some u1 := by rw [blk_cell (blk_set (blk_set h 0 u0) 1 u1) 1]; rfl
theorem tower2 {w : World} {P : Nat} {c0 c1 c2 c3 c4 : Value} {t : TypeId} (h : w.heap[P]? = some (.cells #[c0, c1, c2, c3, c4] t (0, 0))) (u0 u1 u2 : Value) : (((w.setCell ⟨P, 0, none⟩ u0).setCell ⟨P, 1, none⟩ u1).setCell ⟨P, 2, none⟩ u2).cell? ⟨P, 2, none⟩ = some u2 := by rw [blk_cell (blk_set (blk_set (blk_set h 0 u0) 1 u1) 2 u2) 2]; rfl
theorem tower3 {w : World} {P : Nat} {c0 c1 c2 c3 c4 : Value} {t : TypeId} (h : w.heap[P]? = some (.cells #[c0, c1, c2, c3, c4] t (0, 0))) (u0 u1 u2 u3 : Value) : ((((w.setCell ⟨P, 0, none⟩ u0).setCell ⟨P, 1, none⟩ u1).setCell ⟨P, 2, none⟩ u2).setCell ⟨P, 3, none⟩ u3).cell? ⟨P, 3, none⟩ = some u3 := by rw [blk_cell (blk_set (blk_set (blk_set (blk_set h 0 u0) 1 u1) 2 u2) 3 u3) 3]; rfl
theorem tower4 {w : World} {P : Nat} {c0 c1 c2 c3 c4 : Value} {t : TypeId} (h : w.heap[P]? = some (.cells #[c0, c1, c2, c3, c4] t (0, 0))) (u0 u1 u2 u3 u4 : Value) : (((((w.setCell ⟨P, 0, none⟩ u0).setCell ⟨P, 1, none⟩ u1).setCell ⟨P, 2, none⟩ u2).setCell ⟨P, 3, none⟩ u3).setCell ⟨P, 4, none⟩ u4).cell? ⟨P, 4, none⟩ = some u4 := by rw [blk_cell (blk_set (blk_set (blk_set (blk_set (blk_set h 0 u0) 1 u1) 2 u2) 3 u3) 4 u4) 4]; rfl
end Go.Proofs.YtmmflhippbegaaaDoor
