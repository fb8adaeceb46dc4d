/- The document's begins; small. -/
import Derived.Test.YtejmjjgbbojfbaaDoorZMake
import Derived.BigQuiet
namespace Go.Proofs.YtejmjjgbbojfbaaDoor
set_option linter.unusedVariables false
open Go.ChangeShapes Go.WideShapes Go.ChangeAt Go.RowKit

/-- Does s begin with t? -/
def begB (s t : ByteArray) : Bool := decide (t.size ≤ s.size) && (s.extract 0 t.size).toList == t.toList
set_option maxRecDepth 100000 in
theorem begins_any (w : World) (s t : ByteArray) (hs : s.size ≤ 1000000000000) (ht : t.size ≤ 1000000000000) :
    Calls Tryd.prog 46 #[.string s, .string t] w fun e w' => e = .returned (.bool (begB s t)) ∧ w' = w := by
  by_cases h : t.size ≤ s.size
  · have hb : begB s t = ((s.extract 0 t.size).toList == t.toList) := by unfold begB; rw [decide_eq_true h]; rfl
    rw [hb]
    have t1 : decide ((t.size : Int) ≤ (s.size : Int)) = true := decide_eq_true (by omega)
    clear hb
    go_enter Tryd.func46, Tryd.ntmps46
    go_wp2
    go_ret
    simp
  · have hb : begB s t = false := by unfold begB; rw [decide_eq_false h]; rfl
    rw [hb]
    have t1 : decide ((t.size : Int) ≤ (s.size : Int)) = false := decide_eq_false (by omega)
    clear hb
    go_enter Tryd.func46, Tryd.ntmps46
    go_wp2
    go_ret
    simp
set_option maxRecDepth 100000 in
set_option maxHeartbeats 1000000 in
theorem small_any (w : World) (o : OfV) (s : ByteArray) (h1 : o.s.size ≤ 1000000000) (h2 : o.ls.size ≤ 1000000000) (h3 : o.hs.size ≤ 1000000000) (h4 : s.size ≤ 1000000000) :
    Calls Tryd.prog 19 #[.agg o.cells.toArray, .string s] w fun e w' => (∃ r, e = .returned (.bool r)) ∧ Below w.heap.size w w' := by
  obtain ⟨k, os, n, lop, lin, ls, hop, hin, hs'⟩ := o
  show Calls Tryd.prog 19 #[.agg #[.int .i64 k, .string os, .int .i64 n, .bool lop, .bool lin, .string ls, .bool hop, .bool hin, .string hs'], .string s] w _
  have q1 : IntKind.i64.wrap ((os.size : Int) + (ls.size : Int)) = (os.size : Int) + ls.size := by rw [IntKind.wrap_i64]; simp only at h1 h2 h3; omega
  have q2 : IntKind.i64.wrap ((os.size : Int) + ls.size + (hs'.size : Int)) = (os.size : Int) + ls.size + hs'.size := by rw [IntKind.wrap_i64]; simp only at h1 h2 h3; omega
  have q3 : IntKind.i64.wrap ((os.size : Int) + ls.size + hs'.size + 1) = (os.size : Int) + ls.size + hs'.size + 1 := by rw [IntKind.wrap_i64]; simp only at h1 h2 h3; omega
  have q4 : IntKind.i64.wrap ((s.size : Int) + 1) = (s.size : Int) + 1 := by rw [IntKind.wrap_i64]; omega
  have q5 : ((s.size : Int) + 1 == 0) = false := by simp; omega
  have q6 : IntKind.i64.wrap (Int.tdiv 1048576 ((s.size : Int) + 1)) = Int.tdiv 1048576 ((s.size : Int) + 1) := by
    rw [Int.tdiv_eq_ediv_of_nonneg (by omega), IntKind.wrap_i64]
    have a1 : (0 : Int) ≤ 1048576 / ((s.size : Int) + 1) := Int.ediv_nonneg (by omega) (by omega)
    have a2 : 1048576 / ((s.size : Int) + 1) ≤ 1048576 := Int.ediv_le_self _ (by omega)
    omega
  have HB := Lib.hid (fun o : Obj => (Below.refl w.heap.size w).alloc (Nat.le_refl _) o)
  clear h1 h2 h3 h4
  go_enter Tryd.func19, Tryd.ntmps19
  go_wp2
  go_quiet (fail)
  go_wp2
  go_ret
  exact ⟨⟨_, rfl⟩, below_drewN (HB.out _) _⟩
end Go.Proofs.YtejmjjgbbojfbaaDoor
