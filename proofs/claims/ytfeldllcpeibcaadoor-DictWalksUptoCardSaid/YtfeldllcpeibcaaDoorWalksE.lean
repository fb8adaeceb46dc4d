/- DictWalks: its end, behind two ranges over a function. -/
import Derived.Test.YtfeldllcpeibcaaDoorWalked
namespace Go.Proofs.YtfeldllcpeibcaaDoor
set_option linter.unusedVariables false
open Go.ChangeShapes Go.WideShapes Go.ChangeAt Go.RowKit Go.Shelf
theorem walks_end {W W3 : World} {t : Array Value} {D D2 b6 : Nat} (ht : t[6]? = some (.pointer (some ⟨b6, 0, none⟩))) (h6 : W3.heap[b6]? = some (.cells #[.bool true] 4 (0, 0))) (hD : W3.heap[D]? = some (.deferred (some []))) (hD2 : W3.heap[D2]? = some (.deferred (some [])))
    (hne : D ≠ D2) (hlo : W.heap.size ≤ D ∧ W.heap.size ≤ D2) (hB : Below W.heap.size W W3) :
    bodyPostM Fence.wide 5 Tryd.prog Tryd.f7 (fun e W' => e = .returned (.bool true) ∧ Below W.heap.size W W') .ret { tmps := t, defers := [{ target := .collected D2, args := #[] }, { target := .collected D, args := #[] }] } W3 := by
  have hD' : (W3.putObj D2 (.deferred none)).heap[D]? = some (.deferred (some [])) := (World.putObj_heap_other hne).trans hD
  have n6 : b6 ≠ D2 := fun e => by rw [e, hD2] at h6; cases h6
  have n6' : b6 ≠ D := fun e => by rw [e, hD] at h6; cases h6
  have h6' : ((W3.putObj D2 (.deferred none)).putObj D (.deferred none)).heap[b6]? = some (.cells #[.bool true] 4 (0, 0)) := (World.putObj_heap_other n6').trans ((World.putObj_heap_other n6).trans h6)
  have hc : ((W3.putObj D2 (.deferred none)).putObj D (.deferred none)).cell? ⟨b6, 0, none⟩ = some (.bool true) := blk_cell h6' 0
  refine ⟨by simp, .inl ⟨_, _, rfl, run_takeDeferred hD2, ?_⟩⟩
  refine ⟨by simp, .inl ⟨_, _, rfl, run_takeDeferred hD', ?_⟩⟩
  refine ⟨.bool true, ?_, rfl, hB.trans ((belowK_b (w := W) (Nat.le_refl _) W3 D2 _ _ hlo.2 hD2 rfl rfl).trans (belowK_b (w := W) (Nat.le_refl _) _ D _ _ hlo.1 hD' rfl rfl))⟩
  simp [results, Tryd.f7, go_sem, ht, hc]
end Go.Proofs.YtfeldllcpeibcaaDoor
