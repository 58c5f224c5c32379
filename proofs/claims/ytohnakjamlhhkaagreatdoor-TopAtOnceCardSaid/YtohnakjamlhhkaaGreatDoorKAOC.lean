/- TopAtOnce: what is said of Around. -/
import Derived.Test.YtohnakjamlhhkaaGreatDoorKB
namespace Go.Proofs.YtohnakjamlhhkaaGreatDoor
open Go
noncomputable def atOnceC (k m : Nat) : Con := addC 7 (arArgs 0 3) (.int .i64 (.ofNat k)) (addC 7 (arArgs 1 4) (.int .i64 (.ofNat m)) baseC)
end Go.Proofs.YtohnakjamlhhkaaGreatDoor
