/- TopFails, evaluated: the bit 0 fails. -/
import Derived.Test.YtohnakjamlhhkaaGreatDoorKV
import Derived.KernelRfl
namespace Go.Proofs.YtohnakjamlhhkaaGreatDoor
open Go
set_option maxRecDepth 1000000
theorem fails_0 : isT (ev Tryz.prog 91 (failsC 0) 60 6 [.chan (some 0), .chan (some 7)] ⟨.leaf, 0⟩) = true := by kernel_rfl
end Go.Proofs.YtohnakjamlhhkaaGreatDoor
