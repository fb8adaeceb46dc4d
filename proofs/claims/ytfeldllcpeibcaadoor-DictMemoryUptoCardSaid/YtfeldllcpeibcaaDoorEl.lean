/- The slice type of bytes. -/
import Derived.Test.YtfeldllcpeibcaaDoorLib
import Derived.Test.YtfeldllcpeibcaaDoorProg
namespace Go.Proofs.YtfeldllcpeibcaaDoor
theorem elBytes : Elem Tryd.prog 22 5 (.int .u8 0) 1 := ⟨Tryd.underlying22, by kernel_rfl, rfl, by decide⟩
end Go.Proofs.YtfeldllcpeibcaaDoor
