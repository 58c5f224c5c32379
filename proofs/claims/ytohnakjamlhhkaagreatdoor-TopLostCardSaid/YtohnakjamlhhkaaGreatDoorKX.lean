/- TopLost: the call. -/
import Derived.Test.YtohnakjamlhhkaaGreatDoorKL
import Derived.Test.YtohnakjamlhhkaaGreatDoorKS
namespace Go.Proofs.YtohnakjamlhhkaaGreatDoor
open Go Go.Proofs Go.RowKit
set_option maxRecDepth 100000
set_option linter.unusedVariables false
theorem twoV_one (x y : Int) : ∀ k, (twoV (.int .i64 x) (.int .i64 y) k).oneCell' = true := withV_one rfl rfl 0 0
theorem ar_two (x : Int) : ar x (2 : Nat) = (0 : Nat) ∨ ar x (2 : Nat) = (1 : Nat) := by
  have h1 := ar_lo x (2 : Nat) (by decide)
  have h2 := ar_hi x (2 : Nat) (by decide)
  omega
theorem lost_calls (x y : Int) (w : World) (hx : -9223372036854775808 ≤ x) (hx' : x ≤ 9223372036854775807) (hy : -9223372036854775808 ≤ y) (hy' : y ≤ 9223372036854775807) :
    Calls Tryz.prog 5 #[.int .i64 x, .int .i64 y] w fun e w' => e = .returned (.bool true) ∧ Below w.heap.size w w' := by
  have hbase : ConOK Tryz.prog (twoV (.int .i64 x) (.int .i64 y)) baseC := baseC_ok alive_ok (twoV_one x y)
  have key : ∀ k m : Nat, ar x (2 : Nat) = k → ar y (2 : Nat) = m → ConOK Tryz.prog (twoV (.int .i64 x) (.int .i64 y)) (lostC k m) := fun k m hk hm =>
    arC_ok (arC_ok hbase (j := 1) (m := 2) rfl hy hy' (by decide) (by decide) hm) (j := 0) (m := 2) rfl hx hx' (by decide) (by decide) hk
  have fin : ∀ k m : Nat, ar x (2 : Nat) = k → ar y (2 : Nat) = m → isT (ev Tryz.prog 91 (lostC k m) 60 5 [.chan (some 0), .chan (some 1)] ⟨.leaf, 0⟩) = true → Calls Tryz.prog 5 #[.int .i64 x, .int .i64 y] w fun e w' => e = .returned (.bool true) ∧ Below w.heap.size w w' := fun k m hk hm he =>
    top_calls Tryz.func5 rfl (by kernel_rfl) rfl rfl (key k m hk hm) he w
  rcases ar_two x with hk | hk
  · rcases ar_two y with hm | hm
    · exact fin 0 0 hk hm lost_0_0
    · exact fin 0 1 hk hm lost_0_1
  · rcases ar_two y with hm | hm
    · exact fin 1 0 hk hm lost_1_0
    · exact fin 1 1 hk hm lost_1_1
end Go.Proofs.YtohnakjamlhhkaaGreatDoor
