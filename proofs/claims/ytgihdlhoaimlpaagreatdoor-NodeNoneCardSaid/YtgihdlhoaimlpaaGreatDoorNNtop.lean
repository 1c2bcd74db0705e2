/- NodeNone: the whole run, by the kernel, with the known calls: it gives true. -/
import Derived.Test.YtgihdlhoaimlpaaGreatDoorNN1
import Derived.Test.YtgihdlhoaimlpaaGreatDoorNN2
import Derived.Test.YtgihdlhoaimlpaaGreatDoorNN3
import Derived.Test.YtgihdlhoaimlpaaGreatDoorNN4
import Derived.Test.YtgihdlhoaimlpaaGreatDoorNN5
import Derived.Test.YtgihdlhoaimlpaaGreatDoorNN6
import Derived.Test.YtgihdlhoaimlpaaGreatDoorNN7
import Derived.Test.YtgihdlhoaimlpaaGreatDoorNN8
namespace Go.Proofs.YtgihdlhoaimlpaaGreatDoor
open Go Go.Proofs.YtgihdlhoaimlpaaGreatDoor.AM
set_option maxRecDepth 100000
noncomputable def ms15 : List Memo := [m1, m2, m3, m4] ++ [m5, m6] ++ [m7, m8, m9, m10] ++ [m11, m12, m13, m14, m15] ++ [m16, m17, m18, m19, m20]
noncomputable def ms22 : List Memo := [m21] ++ [m22]
noncomputable def l2 : List (Nat × (List V → H → Option (V × H))) := (15, orX (memoX ms15) (c1 15)) :: (37, orX (memoX [m0]) (c1 37)) :: (22, orX (memoX ms22) (c1 22)) :: l1
noncomputable def h0 : H := hOf [(0, .row 349 [.any] false true)] 6
theorem runTop : isB true ((fcl Tryz.prog 6 (extOf l2) 400 6).run [opq, .any] h0) = true := by decide +kernel
end Go.Proofs.YtgihdlhoaimlpaaGreatDoor
