/- awake of WorkerCheck: in each world it returns true and leaves what was there as it was. -/
import Derived.Test.YtnnppmcbgfadpaaGreatDoorAwake
namespace Go.Proofs.YtnnppmcbgfadpaaGreatDoor
open Go.RowKit
theorem awake_ends : runEnds Tryz.prog 13452 4 (.bool true) = true := by kernel_rfl
theorem awakeC (w : World) : Calls Tryz.prog 4 #[] w fun e w' => e = .returned (.bool true) ∧ Below w.heap.size w w' := runEnds_calls facts mixed awake_ends w
end Go.Proofs.YtnnppmcbgfadpaaGreatDoor
