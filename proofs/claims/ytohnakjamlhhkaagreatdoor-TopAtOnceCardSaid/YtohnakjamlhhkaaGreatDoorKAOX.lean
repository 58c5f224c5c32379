/- TopAtOnce: the call. -/
import Derived.Test.YtohnakjamlhhkaaGreatDoorKAO0
import Derived.Test.YtohnakjamlhhkaaGreatDoorKAO1
import Derived.Test.YtohnakjamlhhkaaGreatDoorKAO2
import Derived.Test.YtohnakjamlhhkaaGreatDoorKAO3
import Derived.Test.YtohnakjamlhhkaaGreatDoorKW
namespace Go.Proofs.YtohnakjamlhhkaaGreatDoor
open Go Go.Proofs Go.RowKit
set_option maxRecDepth 100000
set_option linter.unusedVariables false
theorem atOnce_calls (x y : Int) (w : World) (hx : -9223372036854775808 ≤ x) (hx' : x ≤ 9223372036854775807) (hy : -9223372036854775808 ≤ y) (hy' : y ≤ 9223372036854775807) :
    Calls Tryz.prog 3 #[.int .i64 x, .int .i64 y] w fun e w' => e = .returned (.bool true) ∧ Below w.heap.size w w' := by
  have hbase : ConOK Tryz.prog (twoV (.int .i64 x) (.int .i64 y)) baseC := two_base x y
  have fin : ∀ k m : Nat, ar x (3 : Nat) = k → ar y (4 : Nat) = m → isT (ev Tryz.prog 91 (atOnceC k m) 60 3 [.chan (some 0), .chan (some 1)] ⟨.leaf, 0⟩) = true → Calls Tryz.prog 3 #[.int .i64 x, .int .i64 y] w fun e w' => e = .returned (.bool true) ∧ Below w.heap.size w w' := fun k m hk hm he =>
    top_calls Tryz.func3 rfl (by kernel_rfl) rfl rfl (arC_ok (arC_ok hbase (j := 1) (m := 4) rfl hy hy' (by decide) (by decide) hm) (j := 0) (m := 3) rfl hx hx' (by decide) (by decide) hk) he w
  have all : ∀ k m : Nat, k < 3 → m < 4 → isT (ev Tryz.prog 91 (atOnceC k m) 60 3 [.chan (some 0), .chan (some 1)] ⟨.leaf, 0⟩) = true
    | 0, 0, _, _ => atOnce_0_0
    | 0, 1, _, _ => atOnce_0_1
    | 0, 2, _, _ => atOnce_0_2
    | 0, 3, _, _ => atOnce_0_3
    | 1, 0, _, _ => atOnce_1_0
    | 1, 1, _, _ => atOnce_1_1
    | 1, 2, _, _ => atOnce_1_2
    | 1, 3, _, _ => atOnce_1_3
    | 2, 0, _, _ => atOnce_2_0
    | 2, 1, _, _ => atOnce_2_1
    | 2, 2, _, _ => atOnce_2_2
    | 2, 3, _, _ => atOnce_2_3
    | k + 3, _, h, _ => absurd h (by omega)
    | _, m + 4, _, h => absurd h (by omega)
  have h1 := ar_lo x (3 : Nat) (by decide)
  have h2 := ar_hi x (3 : Nat) (by decide)
  have h3 := ar_lo y (4 : Nat) (by decide)
  have h4 := ar_hi y (4 : Nat) (by decide)
  exact fin (ar x (3 : Nat)).toNat (ar y (4 : Nat)).toNat (by omega) (by omega) (all _ _ (by omega) (by omega))
end Go.Proofs.YtohnakjamlhhkaaGreatDoor
