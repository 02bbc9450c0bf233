/- The examples of layer 41, reckoned out. -/
import Derived.Test.YtfiefcfjedmhaaaDoorPr
import Derived.KernelRfl
namespace Go.Proofs.YtfiefcfjedmhaaaDoor
open Go Go.Abs Go.Abs.Asks
variable [Asks]
theorem awake41_ev : Ev pr 11 [] (.ret [.d (.bool true)]) := Ev.of_run 60 fun n k => by kernel_rfl
end Go.Proofs.YtfiefcfjedmhaaaDoor
