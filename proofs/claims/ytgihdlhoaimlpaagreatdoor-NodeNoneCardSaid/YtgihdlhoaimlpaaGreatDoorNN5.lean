/- NodeNone: known calls of function 15, run by the kernel. -/
import Derived.Test.YtgihdlhoaimlpaaGreatDoorNNa
namespace Go.Proofs.YtgihdlhoaimlpaaGreatDoor
open Go Go.Proofs.YtgihdlhoaimlpaaGreatDoor.AM
set_option maxRecDepth 100000
theorem runNN5 : [m11, m12, m13, m14, m15].all (memoOK (c1 15)) = true := by decide +kernel
end Go.Proofs.YtgihdlhoaimlpaaGreatDoor
