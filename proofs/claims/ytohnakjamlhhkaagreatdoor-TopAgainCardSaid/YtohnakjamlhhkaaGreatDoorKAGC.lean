/- TopAgain: what is said of Around. -/
import Derived.Test.YtohnakjamlhhkaaGreatDoorKB
namespace Go.Proofs.YtohnakjamlhhkaaGreatDoor
open Go
noncomputable def againC (k m : Nat) : Con := addC 7 (arArgs 0 2) (.int .i64 (.ofNat k)) (addC 7 (arArgs 1 4) (.int .i64 (.ofNat m)) baseC)
end Go.Proofs.YtohnakjamlhhkaaGreatDoor
