/- TopAtOnce, evaluated. -/
import Derived.Test.YtohnakjamlhhkaaGreatDoorKAOC
import Derived.KernelRfl
namespace Go.Proofs.YtohnakjamlhhkaaGreatDoor
open Go
set_option maxRecDepth 1000000
theorem atOnce_1_2 : isT (ev Tryz.prog 91 (atOnceC 1 2) 60 3 [.chan (some 0), .chan (some 1)] ⟨.leaf, 0⟩) = true := by kernel_rfl
theorem atOnce_1_3 : isT (ev Tryz.prog 91 (atOnceC 1 3) 60 3 [.chan (some 0), .chan (some 1)] ⟨.leaf, 0⟩) = true := by kernel_rfl
theorem atOnce_2_0 : isT (ev Tryz.prog 91 (atOnceC 2 0) 60 3 [.chan (some 0), .chan (some 1)] ⟨.leaf, 0⟩) = true := by kernel_rfl
end Go.Proofs.YtohnakjamlhhkaaGreatDoor
