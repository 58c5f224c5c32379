/- TopFails, evaluated: the bit 1 fails. -/
import Derived.Test.YtohnakjamlhhkaaGreatDoorKV
import Derived.KernelRfl
namespace Go.Proofs.YtohnakjamlhhkaaGreatDoor
open Go
set_option maxRecDepth 1000000
theorem fails_1 : isT (ev Tryz.prog 91 (failsC 1) 60 6 [.chan (some 0), .chan (some 7)] ⟨.leaf, 0⟩) = true := by kernel_rfl
end Go.Proofs.YtohnakjamlhhkaaGreatDoor
