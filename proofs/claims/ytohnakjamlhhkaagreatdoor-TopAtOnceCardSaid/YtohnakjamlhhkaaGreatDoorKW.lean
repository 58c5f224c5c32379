/- Two numbers that are not known, and the example. -/
import Derived.Test.YtohnakjamlhhkaaGreatDoorKB
import Derived.Test.YtohnakjamlhhkaaGreatDoorKS
namespace Go.Proofs.YtohnakjamlhhkaaGreatDoor
open Go Go.RowKit
set_option maxRecDepth 100000
theorem twoV_one (x y : Int) : ∀ k, (twoV (.int .i64 x) (.int .i64 y) k).oneCell' = true := withV_one rfl rfl 0 0
theorem two_base (x y : Int) : ConOK Tryz.prog (twoV (.int .i64 x) (.int .i64 y)) baseC := baseC_ok alive_ok (twoV_one x y)
end Go.Proofs.YtohnakjamlhhkaaGreatDoor
