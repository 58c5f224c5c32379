/- TopFails, evaluated: the bit 2 fails. -/
import Derived.Test.YtohnakjamlhhkaaGreatDoorKV
import Derived.KernelRfl
namespace Go.Proofs.YtohnakjamlhhkaaGreatDoor
open Go
set_option maxRecDepth 1000000
theorem fails_2 : isT (ev Tryz.prog 91 (failsC 2) 60 6 [.chan (some 0), .chan (some 7)] ⟨.leaf, 0⟩) = true := by kernel_rfl
end Go.Proofs.YtohnakjamlhhkaaGreatDoor
