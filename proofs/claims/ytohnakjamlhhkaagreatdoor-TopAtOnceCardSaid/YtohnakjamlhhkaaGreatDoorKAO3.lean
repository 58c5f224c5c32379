/- TopAtOnce, evaluated. -/
import Derived.Test.YtohnakjamlhhkaaGreatDoorKAOC
import Derived.KernelRfl
namespace Go.Proofs.YtohnakjamlhhkaaGreatDoor
open Go
set_option maxRecDepth 1000000
theorem atOnce_2_1 : isT (ev Tryz.prog 91 (atOnceC 2 1) 60 3 [.chan (some 0), .chan (some 1)] ⟨.leaf, 0⟩) = true := by kernel_rfl
theorem atOnce_2_2 : isT (ev Tryz.prog 91 (atOnceC 2 2) 60 3 [.chan (some 0), .chan (some 1)] ⟨.leaf, 0⟩) = true := by kernel_rfl
theorem atOnce_2_3 : isT (ev Tryz.prog 91 (atOnceC 2 3) 60 3 [.chan (some 0), .chan (some 1)] ⟨.leaf, 0⟩) = true := by kernel_rfl
end Go.Proofs.YtohnakjamlhhkaaGreatDoor
