/- The examples of round 22, reckoned out. -/
import Derived.Test.YtehkgiofchmpaaaDoorPr
import Derived.KernelRfl
namespace Go.Proofs.YtehkgiofchmpaaaDoor
open Go Go.Abs Go.Abs.Asks
variable [Asks]
theorem awake22_ev : Ev pr 13 [] (.ret [.d (.bool true)]) := Ev.of_run 200 fun n k => by kernel_rfl
end Go.Proofs.YtehkgiofchmpaaaDoor
