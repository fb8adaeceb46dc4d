/- Plain: a list one longer. -/
import Derived.Test.YthnpbfadblcicaaDoorZWList
namespace Go.Proofs.YthnpbfadblcicaaDoor
set_option linter.unusedVariables false
open Go.ChangeShapes Go.WideShapes Go.ChangeAt Go.RowKit

theorem take_one {α : Type} {l : List α} {i : Nat} (h : i < l.length) : l.take (i + 1) = l.take i ++ [l[i]] := by rw [List.take_add_one, List.getElem?_eq_getElem h]; rfl

theorem last_at {l : List Int} {i : Nat} (h : i < l.length) (h0 : 0 < i) : (l.take i).getLastD (-1) = l[i - 1] := by
  obtain ⟨k, rfl⟩ : ∃ k, i = k + 1 := ⟨i - 1, by omega⟩
  rw [take_one (by omega)]
  exact List.getLastD_concat ..
theorem anyNeg_snoc (l : List Int) (i : Nat) (h : i < l.length) : anyNeg (l.take (i + 1)) = (anyNeg (l.take i) || decide (l[i] < 0)) := by
  have h1 : l.take (i + 1) = l.take i ++ [l[i]] := by rw [List.take_add_one, List.getElem?_eq_getElem h]; rfl
  rw [h1]; unfold anyNeg; rw [List.any_append]; simp only [List.any_cons, List.any_nil, Bool.or_false]
end Go.Proofs.YthnpbfadblcicaaDoor
