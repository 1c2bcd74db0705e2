/- NodeNone: known calls of function 15, run by the kernel. -/
import Derived.Test.YtgihdlhoaimlpaaGreatDoorNNa
namespace Go.Proofs.YtgihdlhoaimlpaaGreatDoor
open Go Go.Proofs.YtgihdlhoaimlpaaGreatDoor.AM
set_option maxRecDepth 100000
theorem runNN6 : [m16, m17, m18, m19, m20].all (memoOK (c1 15)) = true := by decide +kernel
end Go.Proofs.YtgihdlhoaimlpaaGreatDoor
