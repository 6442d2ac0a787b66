/- What every printed text leans on. Own work; nothing of any program. -/
import Derived.Test.YtolfcdjbchdkgaaDoorH13
import Derived.Test.YtolfcdjbchdkgaaDoorProg
namespace Go.Proofs.YtolfcdjbchdkgaaDoor
open Go Go.Hp
theorem mixed : Tryd.prog.follows .mixedOrders = true := by kernel_rfl
end Go.Proofs.YtolfcdjbchdkgaaDoor
