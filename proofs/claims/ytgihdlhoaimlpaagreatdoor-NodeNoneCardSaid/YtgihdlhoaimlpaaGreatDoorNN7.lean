/- NodeNone: known calls of function 22, run by the kernel. -/
import Derived.Test.YtgihdlhoaimlpaaGreatDoorNNa
namespace Go.Proofs.YtgihdlhoaimlpaaGreatDoor
open Go Go.Proofs.YtgihdlhoaimlpaaGreatDoor.AM
set_option maxRecDepth 100000
theorem runNN7 : [m21].all (memoOK (c1 22)) = true := by decide +kernel
end Go.Proofs.YtgihdlhoaimlpaaGreatDoor
