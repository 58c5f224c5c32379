/- TopFails, evaluated: the bit 3 fails. -/
import Derived.Test.YtohnakjamlhhkaaGreatDoorKV
import Derived.KernelRfl
namespace Go.Proofs.YtohnakjamlhhkaaGreatDoor
open Go
set_option maxRecDepth 1000000
theorem fails_3 : isT (ev Tryz.prog 91 (failsC 3) 60 6 [.chan (some 0), .chan (some 7)] ⟨.leaf, 0⟩) = true := by kernel_rfl
end Go.Proofs.YtohnakjamlhhkaaGreatDoor
