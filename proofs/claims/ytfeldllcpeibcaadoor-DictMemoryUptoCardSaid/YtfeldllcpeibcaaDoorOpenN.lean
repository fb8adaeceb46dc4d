/- A list of entries: how many there are, by the argument's bulk. -/
import Derived.Test.YtfeldllcpeibcaaDoorOpenA
namespace Go.Proofs.YtfeldllcpeibcaaDoor
set_option linter.unusedVariables false
open Go.ChangeShapes Go.WideShapes Go.ChangeAt Go.RowKit Go.Deep
theorem bulk_pos {H : Type} (d : DataW H) : 1 ≤ Rows.uptoBulk d := by
  unfold Rows.uptoBulk; split <;> omega
theorem bulk_all {H : Type} (k : Nat) : ∀ (l : List (DataW H)), (∀ d ∈ l, k ≤ Rows.uptoBulk d) → k * l.length ≤ Rows.uptoBulkAll l
  | [], _ => by simp [Rows.uptoBulkAll]
  | d :: r, h => by
    simp only [Rows.uptoBulkAll, List.length_cons]
    have h1 := h d (List.mem_cons_self ..)
    have h2 := bulk_all k r (fun x hx => h x (List.mem_cons_of_mem _ hx))
    rw [Nat.mul_add, Nat.mul_one]; omega
section
variable {H : Type} {enc : TypeId × Value → H} {P : Program} {w : World} {base : Nat} {spare : Nat → Bool} {held : Bool}
theorem ents_bulk {t e : TypeId} {f0 f1 f2 f3 f4 : Field} {fuel : Nat} {cs : List Value} {x : DataW H × List MemPlace} (ht : P.underlying t = some (.slice e)) (he : P.underlying e = some (.struct #[f0, f1, f2, f3, f4]))
    (hone : oneCellFields P #[f0, f1, f2, f3, f4] = true) (hC : P.cellsOf e = 5) (h : DataW.trod enc P w base spare held fuel t cs = some x) {a : Option Addr} {n c : Nat} (hcs : cs = [.slice a n c]) : 6 * n + 1 ≤ Rows.uptoBulk x.1 := by
  rcases open_slice_cells ht he hone hC h with ⟨h1, rfl⟩ | ⟨a, len, cap, m, D, Pl, h1, hb, hl, hm, hmm, rfl, hx⟩
  · rw [hcs] at h1
    simp only [List.cons.injEq, Value.slice.injEq, and_true] at h1
    simp [Rows.uptoBulk, h1.2.1]
  · rw [hcs] at h1
    simp only [List.cons.injEq, Value.slice.injEq, and_true] at h1
    have hlm : len ≤ m := by rw [hmm]; split <;> omega
    have h6 := bulk_all 6 ((List.range len).map D) (fun d hd => by
      obtain ⟨i, hi, rfl⟩ := List.mem_map.1 hd
      have hi := List.mem_range.1 hi
      obtain ⟨ys, n', hD, -, hlen, -⟩ := hx i (by omega)
      rw [hD]
      have h5 := bulk_all 1 (ys.map (·.1)) (fun d _ => bulk_pos d)
      rw [List.length_map, hlen] at h5
      simp only [Rows.uptoBulk]
      have : (#[f0, f1, f2, f3, f4] : Array Field).size = 5 := rfl
      omega)
    rw [List.length_map, List.length_range] at h6
    simp only [Rows.uptoBulk]
    omega
end
end Go.Proofs.YtfeldllcpeibcaaDoor
