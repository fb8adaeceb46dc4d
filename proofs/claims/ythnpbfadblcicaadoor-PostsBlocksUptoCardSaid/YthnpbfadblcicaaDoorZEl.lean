/- The slice type of bytes. -/
import Derived.Test.YthnpbfadblcicaaDoorZLib
import Derived.Test.YthnpbfadblcicaaDoorProg
namespace Go.Proofs.YthnpbfadblcicaaDoor
theorem elBytes : Elem Tryd.prog 24 5 (.int .u8 0) 1 := ⟨Tryd.underlying24, by kernel_rfl, rfl, by decide⟩
end Go.Proofs.YthnpbfadblcicaaDoor
