/- A run of the abstract machine, by the kernel: ReplicaNone gives true, part and me within their bounds; whatever the operation is. -/
import Derived.Test.YtojekdeopndpdaaGreatDoorAMzf
import Derived.Test.YtojekdeopndpdaaGreatDoorProg
namespace Go.Proofs.YtojekdeopndpdaaGreatDoor
open Go Go.Proofs.YtojekdeopndpdaaGreatDoor.AM
noncomputable def exts : List (Nat × (List V → H → Option (V × H))) := [(182, loadX .u32), (190, storeX), (193, casX .i32), (198, addX .i32), (192, mark0X), (194, mark0X), (195, markX), (197, markX)]
def opq : V := .agg (List.replicate 27 .any)
set_option maxRecDepth 100000
theorem run1 : isB true ((fcl Tryz.prog 6 (extOf exts) 400 9).run [opq, .rng .i64 0 5, .rng .i64 0 4] ⟨.nil, 6⟩ ) = true := by decide +kernel
end Go.Proofs.YtojekdeopndpdaaGreatDoor
