/- The slice type of bytes. -/
import Derived.Test.YtejmjjgbbojfbaaDoorLib
import Derived.Test.YtejmjjgbbojfbaaDoorProg
namespace Go.Proofs.YtejmjjgbbojfbaaDoor
theorem elBytes : Elem Tryd.prog 26 5 (.int .u8 0) 1 := ⟨Tryd.underlying26, by kernel_rfl, rfl, by decide⟩
end Go.Proofs.YtejmjjgbbojfbaaDoor
