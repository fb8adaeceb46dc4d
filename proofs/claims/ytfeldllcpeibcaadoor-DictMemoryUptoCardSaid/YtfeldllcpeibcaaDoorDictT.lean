/- dict: At; the chapter's two entries; bytes.Equal. -/
import Derived.Test.YtfeldllcpeibcaaDoorDictS
import Derived.Handy
namespace Go.Proofs.YtfeldllcpeibcaaDoor
set_option linter.unusedVariables false
open Go.ChangeShapes Go.WideShapes Go.ChangeAt Go.RowKit

set_option maxRecDepth 100000 in
theorem at_in (w : World) (base q : Nat) (v : Value) (es : List EntV) (hD : DictAt w base q v es) (hel : es.length ≤ 1000000000) (i : Nat) (hi : i < es.length) :
    Calls Tryd.prog 13 #[.pointer (some ⟨q, 0, none⟩), .int .i64 i] w fun e w' => e = .returned (.tuple #[.agg es[i].cells.toArray, .bool true]) ∧ Below w.heap.size w w' := by
  have hD0 : DictAt (w.alloc (.cells #[.string ⟨#[]⟩, .int .i64 0, .int .i64 0, .int .i64 0, .int .i64 0] 32)) base q v es := hD.below ((Below.refl _ _).alloc (Nat.le_refl _) _) (Nat.le_refl _)
  obtain ⟨a, c, rfl, hc, hat⟩ := hD0.sl
  obtain ⟨g, rfl, d0, d1, d2, d3, d4⟩ := hat i hi
  generalize es[i] = en at d0 d1 d2 d3 d4 ⊢
  obtain ⟨ek, ed, et, ea, es'⟩ := en
  simp only at d0 d1 d2 d3 d4
  have i1 : (i : Int) < (es.length : Int) := by omega
  have t1 : decide ((i : Int) < 0) = false := decide_eq_false (by omega)
  have t2 : decide (es.length ≤ i) = false := decide_eq_false (by omega)
  clear hat hD hD0
  simp only [EntV.cells]
  go_enter Tryd.func13, Tryd.ntmps13
  go_wp2
  go_returns
  exact ⟨rfl, (Below.refl _ _).alloc (Nat.le_refl _) _⟩
set_option maxRecDepth 100000 in
theorem at_out (w : World) (base q : Nat) (v : Value) (es : List EntV) (hD : DictAt w base q v es) (hel : es.length ≤ 1000000000) (i : Int) (hi : i < 0 ∨ (es.length : Int) ≤ i) :
    Calls Tryd.prog 13 #[.pointer (some ⟨q, 0, none⟩), .int .i64 i] w fun e w' => e = .returned (.tuple #[.agg #[.string ⟨#[]⟩, .int .i64 0, .int .i64 0, .int .i64 0, .int .i64 0], .bool false]) ∧ Below w.heap.size w w' := by
  have hD0 : DictAt (w.alloc (.cells #[.string ⟨#[]⟩, .int .i64 0, .int .i64 0, .int .i64 0, .int .i64 0] 32)) base q v es := hD.below ((Below.refl _ _).alloc (Nat.le_refl _) _) (Nat.le_refl _)
  obtain ⟨a, c, rfl, hc, hat⟩ := hD0.sl
  clear hat hD hD0
  by_cases h0 : i < 0
  · have t1 : decide (i < 0) = true := decide_eq_true h0
    clear hi
    go_enter Tryd.func13, Tryd.ntmps13
    go_wp2
    go_returns
    exact ⟨rfl, (Below.refl _ _).alloc (Nat.le_refl _) _⟩
  · have t1 : decide (i < 0) = false := decide_eq_false h0
    have t2 : decide ((es.length : Int) ≤ i) = true := decide_eq_true (by omega)
    clear hi
    go_enter Tryd.func13, Tryd.ntmps13
    go_wp2
    go_returns
    exact ⟨rfl, (Below.refl _ _).alloc (Nat.le_refl _) _⟩

/-- The chapter's two entries. -/
def twoE : List EntV := [⟨⟨#[97, 98]⟩, 1, 2, 0, 5⟩, ⟨⟨#[97, 98, 100]⟩, 1, 1, 5, 130⟩]
theorem two_any (w : World) : Calls Tryd.prog 21 #[] w fun e w' => ∃ a, e = .returned (.slice a 2 2) ∧ RdEnt w' a 2 twoE ∧ (∃ g, a = some ⟨g, 0, none⟩ ∧ w.heap.size ≤ g) ∧ Below w.heap.size w w' := by
  go_enter Tryd.func21, Tryd.ntmps21
  go_wp2
  go_ret
  refine ⟨_, rfl, ?_, ⟨_, rfl, Nat.le_refl _⟩, (Below.refl _ _).alloc (Nat.le_refl _) _⟩
  refine rdEnt_of rfl fun i hi => ?_
  have h := heap_alloc_new w (.cells #[.string ⟨#[97, 98]⟩, .int .i64 1, .int .i64 2, .int .i64 0, .int .i64 5, .string ⟨#[97, 98, 100]⟩, .int .i64 1, .int .i64 1, .int .i64 5, .int .i64 130] 32)
  have h2 : i = 0 ∨ i = 1 := by have : i < 2 := hi; omega
  rcases h2 with rfl | rfl
  · exact ⟨blk_cell h 0, blk_cell h 1, blk_cell h 2, blk_cell h 3, blk_cell h 4⟩
  · exact ⟨blk_cell h 5, blk_cell h 6, blk_cell h 7, blk_cell h 8, blk_cell h 9⟩
theorem strOf_beq (a b : List UInt8) : ((strOf a).toList == (strOf b).toList) = (a == b) := by rw [strOf_toList, strOf_toList]
set_option maxRecDepth 100000 in
theorem equal_any (w : World) (x y : Value) (a b : List UInt8) (hx : Rd w x (bytesV a)) (hy : Rd w y (bytesV b)) :
    Calls Tryd.prog 15 #[x, y] w fun e w' => e = .returned (.bool (a == b)) ∧ w = w' := by
  have r1 := run_str (P := Tryd.prog) Tryd.underlying22 Tryd.underlying5 Tryd.underlying9 hx
  have r2 := run_str (P := Tryd.prog) Tryd.underlying22 Tryd.underlying5 Tryd.underlying9 hy
  have e := strOf_beq a b
  clear hx hy
  go_enter Tryd.func15, Tryd.ntmps15
  go_wp2
  go_ret
  exact ⟨rfl, rfl⟩
/-! ### The chapter's example, plain -/
theorem two_ok : ∀ e ∈ twoE, entOk e = true := by
  intro e he
  simp only [twoE, List.mem_cons, List.not_mem_nil, or_false] at he
  rcases he with rfl | rfl <;> decide
theorem two_rising : rising none twoE := ⟨rfl, by decide, trivial⟩
theorem uvar130 : uvar 130 = [130, 1] := by rw [uvar_big (by decide), uvar_small (by decide)]; rfl
theorem two_image : imageB twoE = [2, 16, 0, 2, 97, 98, 1, 2, 0, 5, 2, 1, 100, 1, 1, 5, 130, 1] := by
  have e1 : chk twoE = [twoE] := by
    rw [chk_cons (by unfold twoE; simp), show twoE.take 16 = twoE from rfl, show twoE.drop 16 = [] from rfl, chk_nil]
  have e2 : blkB [] twoE = [0, 2, 97, 98, 1, 2, 0, 5, 2, 1, 100, 1, 1, 5, 130, 1] := by
    show entB [] ⟨⟨#[97, 98]⟩, 1, 2, 0, 5⟩ ++ (entB [97, 98] ⟨⟨#[97, 98, 100]⟩, 1, 1, 5, 130⟩ ++ []) = _
    unfold entB EntV.K
    simp only [show shr [] [97, 98] = 0 from rfl, show shr [97, 98] [97, 98, 100] = 2 from rfl]
    rw [show Int.toNat 130 = 130 from rfl, uvar130, show Int.toNat 0 = 0 from rfl, show Int.toNat 1 = 1 from rfl, show Int.toNat 2 = 2 from rfl, show Int.toNat 5 = 5 from rfl]
    simp [uvar_small]
  unfold imageB
  rw [e1]
  simp only [List.flatMap_cons, List.flatMap_nil, e2]
  rw [show twoE.length = 2 from rfl, uvar_small (by decide), uvar_small (by decide)]
  rfl
end Go.Proofs.YtfeldllcpeibcaaDoor
