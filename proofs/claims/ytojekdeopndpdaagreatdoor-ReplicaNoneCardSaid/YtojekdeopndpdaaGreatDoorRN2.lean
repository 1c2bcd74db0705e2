/- A run of the abstract machine, by the kernel: ReplicaNone gives true, part below 0; whatever the operation is. -/
import Derived.Test.YtojekdeopndpdaaGreatDoorRN1
import Derived.Test.YtojekdeopndpdaaGreatDoorProg
namespace Go.Proofs.YtojekdeopndpdaaGreatDoor
open Go Go.Proofs.YtojekdeopndpdaaGreatDoor.AM
set_option maxRecDepth 100000
theorem run2 : isB true ((fcl Tryz.prog 6 (extOf exts) 400 9).run [opq, .rng .i64 (-9223372036854775808) (-1), .rng .i64 (-9223372036854775808) 9223372036854775807] ⟨.nil, 6⟩ ) = true := by decide +kernel
end Go.Proofs.YtojekdeopndpdaaGreatDoor
