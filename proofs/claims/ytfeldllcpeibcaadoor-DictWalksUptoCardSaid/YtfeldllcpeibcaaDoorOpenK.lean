/- Arguments that are lists of texts: opened. -/
import Derived.Test.YtfeldllcpeibcaaDoorOpen
import Derived.Deep.Strs
namespace Go.Proofs.YtfeldllcpeibcaaDoor
set_option linter.unusedVariables false
open Go.ChangeShapes Go.WideShapes Go.ChangeAt Go.RowKit
/-- Texts as cells. -/
def strsV (l : List ByteArray) : List Value := l.map Value.string
theorem strsV_length (l : List ByteArray) : (strsV l).length = l.length := by simp [strsV]
theorem strsV_get {l : List ByteArray} {i : Nat} (h : i < l.length) : (strsV l)[i]? = some (.string l[i]) := by simp [strsV, h]
theorem bulk_in {H : Type} {d : DataW H} {l : List (DataW H)} (h : d ∈ l) : Rows.uptoBulk d ≤ Rows.uptoBulkAll l := by
  induction l with
  | nil => cases h
  | cons x r ih =>
    simp only [Rows.uptoBulkAll]
    rcases List.mem_cons.1 h with rfl | h
    · omega
    · have := ih h; omega
section
variable {H : Type} {enc : TypeId × Value → H} {P : Program} {w : World} {base : Nat} {spare : Nat → Bool} {held : Bool} {fuel : Nat} {cs : List Value} {x : DataW H × List MemPlace}
theorem open_texts {t e : TypeId} (ht : P.underlying t = some (.slice e)) (he : P.underlying e = some .string) (hc : P.cellsOf e = 1) (h : DataW.trod enc P w base spare held fuel t cs = some x) :
    ∃ v ls, cs = [v] ∧ Rd w v (strsV ls) ∧ (∀ b ∈ ls, b.size + 1 ≤ Rows.uptoBulk x.1) ∧ ls.length + 1 ≤ Rows.uptoBulk x.1 := by
  rcases Go.Deep.open_strs ht he hc h with ⟨rfl, rfl⟩ | ⟨a, len, cap, m, Sx, rfl, hb, hl, hm, hmm, rfl, hcell⟩
  · exact ⟨_, [], rfl, ⟨none, 0, rfl, Nat.le_refl _, fun h => by simp [strsV] at h⟩, fun z hz => (by simp at hz), by simp [Rows.uptoBulk]⟩
  have hlm : len ≤ m := by rw [hmm]; split <;> omega
  refine ⟨_, (List.range len).map Sx, rfl, ?_, ?_, ?_⟩
  · have hll : (strsV ((List.range len).map Sx)).length = len := by rw [strsV_length]; simp
    refine ⟨some a, cap, by rw [hll], by rw [hll]; exact hl, fun h0 => ?_⟩
    rw [hll] at h0
    have h00 := (hcell 0 (by omega)).1
    obtain ⟨b, o, sp⟩ := a
    have hs : sp = none := by simpa [Addr.add] using World.cell?_spot h00
    subst hs
    refine ⟨b, o, rfl, fun j y hy => ?_⟩
    have hj : j < len := by have := (List.getElem?_eq_some_iff.1 hy).1; omega
    rw [← addr_add b o j, (hcell j (by omega)).1, ← hy]
    simp [strsV, hj]
  · intro z hz
    obtain ⟨i, hi, rfl⟩ := List.mem_map.1 hz
    have h1 := bulk_in (H := H) (List.mem_map_of_mem (f := fun i => DataW.lit (.string (Sx i).data.toList)) hi)
    have h2 : (Sx i).size = (Sx i).data.toList.length := (Array.length_toList (xs := (Sx i).data)).symm
    simp only [Rows.uptoBulk] at h1 ⊢
    omega
  · have h1 := bulk_length ((List.range len).map fun i => (DataW.lit (.string (Sx i).data.toList) : DataW H))
    simp only [Rows.uptoBulk, List.length_map, List.length_range] at h1 ⊢
    omega
end
end Go.Proofs.YtfeldllcpeibcaaDoor
