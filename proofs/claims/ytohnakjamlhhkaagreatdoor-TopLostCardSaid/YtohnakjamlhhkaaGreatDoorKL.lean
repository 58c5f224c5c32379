/- TopLost, evaluated. -/
import Derived.Test.YtohnakjamlhhkaaGreatDoorKB
import Derived.KernelRfl
namespace Go.Proofs.YtohnakjamlhhkaaGreatDoor
open Go
set_option maxRecDepth 1000000
def lostC (k m : Nat) : Con := addC 7 (arArgs 0 2) (.int .i64 (.ofNat k)) (addC 7 (arArgs 1 2) (.int .i64 (.ofNat m)) baseC)
theorem lost_0_0 : isT (ev Tryz.prog 91 (lostC 0 0) 60 5 [.chan (some 0), .chan (some 1)] ⟨.leaf, 0⟩) = true := by kernel_rfl
theorem lost_0_1 : isT (ev Tryz.prog 91 (lostC 0 1) 60 5 [.chan (some 0), .chan (some 1)] ⟨.leaf, 0⟩) = true := by kernel_rfl
theorem lost_1_0 : isT (ev Tryz.prog 91 (lostC 1 0) 60 5 [.chan (some 0), .chan (some 1)] ⟨.leaf, 0⟩) = true := by kernel_rfl
theorem lost_1_1 : isT (ev Tryz.prog 91 (lostC 1 1) 60 5 [.chan (some 0), .chan (some 1)] ⟨.leaf, 0⟩) = true := by kernel_rfl
end Go.Proofs.YtohnakjamlhhkaaGreatDoor
