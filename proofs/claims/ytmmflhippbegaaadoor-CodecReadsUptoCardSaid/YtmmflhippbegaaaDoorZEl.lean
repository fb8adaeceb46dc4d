/- The slice type of bytes. -/
import Derived.Test.YtmmflhippbegaaaDoorZLib
import Derived.Test.YtmmflhippbegaaaDoorProg
namespace Go.Proofs.YtmmflhippbegaaaDoor
theorem elBytes : Elem Tryd.prog 37 5 (.int .u8 0) 1 := ⟨Tryd.underlying37, by kernel_rfl, rfl, by decide⟩
end Go.Proofs.YtmmflhippbegaaaDoor
