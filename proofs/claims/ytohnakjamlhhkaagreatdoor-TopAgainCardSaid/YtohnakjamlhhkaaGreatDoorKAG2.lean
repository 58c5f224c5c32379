/- TopAgain, evaluated. -/
import Derived.Test.YtohnakjamlhhkaaGreatDoorKAGC
import Derived.KernelRfl
namespace Go.Proofs.YtohnakjamlhhkaaGreatDoor
open Go
set_option maxRecDepth 1000000
theorem again_1_2 : isT (ev Tryz.prog 91 (againC 1 2) 60 4 [.chan (some 0), .chan (some 1)] ⟨.leaf, 0⟩) = true := by kernel_rfl
theorem again_1_3 : isT (ev Tryz.prog 91 (againC 1 3) 60 4 [.chan (some 0), .chan (some 1)] ⟨.leaf, 0⟩) = true := by kernel_rfl
end Go.Proofs.YtohnakjamlhhkaaGreatDoor
