/- Two errors, compared. -/
import Derived.Test.YtfeldllcpeibcaaDoorErr
import Derived.LaidEql
namespace Go.Proofs.YtfeldllcpeibcaaDoor
set_option linter.unusedVariables false
open Go.ChangeShapes Go.WideShapes Go.ChangeAt Go.RowKit

theorem errComp : (Tryd.prog.info? 158).map (·.comparable) = some true := by kernel_rfl
theorem errSize : (Tryd.prog.info? 172).map (fun j => decide (j.size ≠ 0)) = some true := by kernel_rfl
theorem err_same (a : Addr) (w : World) : (binOp .eql 26 (.iface 158 (.pointer (some a))) (.iface 158 (.pointer (some a)))).run Tryd.prog w = .ok (.bool true) w := by
  obtain ⟨i, hi, hcmp⟩ := Option.map_eq_some_iff.1 errComp
  obtain ⟨j, hj, hjs⟩ := Option.map_eq_some_iff.1 errSize
  exact run_eql_iface_ptr_same (P := Tryd.prog) w a Tryd.underlying26 Tryd.underlying158 hi hcmp hj
end Go.Proofs.YtfeldllcpeibcaaDoor
