/- The seven sentinels, as a row's list lays them. -/
import Derived.Test.YthnpbfadblcicaaDoorZG6
import Derived.Test.YthnpbfadblcicaaDoorZSent7
namespace Go.Proofs.YthnpbfadblcicaaDoor
set_option linter.unusedVariables false
open Go.ChangeShapes Go.WideShapes Go.ChangeAt Go.RowKit

def errL7 : List (Nat × String × List UInt8) := [(1, "concord/api.ErrShort", [99, 111, 110, 99, 111, 114, 100, 58, 32, 116, 111, 111, 32, 115, 104, 111, 114, 116]), (2, "concord/api.ErrVarint", [99, 111, 110, 99, 111, 114, 100, 58, 32, 118, 97, 114, 105, 110, 116]), (3, "concord/api.ErrLimit", [99, 111, 110, 99, 111, 114, 100, 58, 32, 108, 105, 109, 105, 116]), (4, "concord/api.ErrOrder", [99, 111, 110, 99, 111, 114, 100, 58, 32, 111, 114, 100, 101, 114]), (5, "concord/api.ErrTail", [99, 111, 110, 99, 111, 114, 100, 58, 32, 116, 97, 105, 108]), (8, "concord/api.ErrRange", [99, 111, 110, 99, 111, 114, 100, 58, 32, 114, 97, 110, 103, 101]), (10, "concord/api.ErrCorrupt", [99, 111, 110, 99, 111, 114, 100, 58, 32, 99, 111, 114, 114, 117, 112, 116])]
theorem sent7_of {W : World} {EA : Nat → Addr} (h : Errs W EA (errL7.map fun x => (x.1, x.2.1))) : Sent7 W EA where
  c1 := h.cell (k := 1) (n := "concord/api.ErrShort") (by decide) (by kernel_rfl)
  c2 := h.cell (k := 2) (n := "concord/api.ErrVarint") (by decide) (by kernel_rfl)
  c3 := h.cell (k := 3) (n := "concord/api.ErrLimit") (by decide) (by kernel_rfl)
  c4 := h.cell (k := 4) (n := "concord/api.ErrOrder") (by decide) (by kernel_rfl)
  c5 := h.cell (k := 5) (n := "concord/api.ErrTail") (by decide) (by kernel_rfl)
  c8 := h.cell (k := 8) (n := "concord/api.ErrRange") (by decide) (by kernel_rfl)
  c10 := h.cell (k := 10) (n := "concord/api.ErrCorrupt") (by decide) (by kernel_rfl)
end Go.Proofs.YthnpbfadblcicaaDoor
