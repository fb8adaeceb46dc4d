/- The seven sentinels that the rows without Num lay. -/
import Derived.Test.YthnpbfadblcicaaDoorZG6
namespace Go.Proofs.YthnpbfadblcicaaDoor
set_option linter.unusedVariables false
open Go.ChangeShapes Go.WideShapes Go.ChangeAt Go.RowKit

structure Sent7 (w : World) (EA : Nat → Addr) : Prop where
  c1 : w.cell? ⟨0, 0, none⟩ = some (errV EA 1)
  c2 : w.cell? ⟨1, 0, none⟩ = some (errV EA 2)
  c3 : w.cell? ⟨2, 0, none⟩ = some (errV EA 3)
  c4 : w.cell? ⟨3, 0, none⟩ = some (errV EA 4)
  c5 : w.cell? ⟨4, 0, none⟩ = some (errV EA 5)
  c8 : w.cell? ⟨7, 0, none⟩ = some (errV EA 8)
  c10 : w.cell? ⟨9, 0, none⟩ = some (errV EA 10)
theorem Sent7.below {w w' : World} {EA : Nat → Addr} (h : Sent7 w EA) (hb : Below w.heap.size w w') : Sent7 w' EA where
  c1 := by rw [hb.cell (World.block_lt_of_cell? w _ h.c1)]; exact h.c1
  c2 := by rw [hb.cell (World.block_lt_of_cell? w _ h.c2)]; exact h.c2
  c3 := by rw [hb.cell (World.block_lt_of_cell? w _ h.c3)]; exact h.c3
  c4 := by rw [hb.cell (World.block_lt_of_cell? w _ h.c4)]; exact h.c4
  c5 := by rw [hb.cell (World.block_lt_of_cell? w _ h.c5)]; exact h.c5
  c8 := by rw [hb.cell (World.block_lt_of_cell? w _ h.c8)]; exact h.c8
  c10 := by rw [hb.cell (World.block_lt_of_cell? w _ h.c10)]; exact h.c10
theorem Sent.s7 {w : World} {EA : Nat → Addr} (h : Sent w EA) : Sent7 w EA := ⟨h.c1, h.c2, h.c3, h.c4, h.c5, h.c8, h.c10⟩
instance {w : World} {EA : Nat → Addr} : CoeOut (Sent w EA) (Sent7 w EA) := ⟨Sent.s7⟩
end Go.Proofs.YthnpbfadblcicaaDoor
