/- NodeNone: known calls of function 37, run by the kernel. -/
import Derived.Test.YtgihdlhoaimlpaaGreatDoorNNa
namespace Go.Proofs.YtgihdlhoaimlpaaGreatDoor
open Go Go.Proofs.YtgihdlhoaimlpaaGreatDoor.AM
set_option maxRecDepth 100000
theorem runNN1 : [m0].all (memoOK (c1 37)) = true := by decide +kernel
end Go.Proofs.YtgihdlhoaimlpaaGreatDoor
