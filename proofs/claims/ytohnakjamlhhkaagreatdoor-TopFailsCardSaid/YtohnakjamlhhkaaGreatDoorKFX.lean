/- TopFails: the call. -/
import Derived.Test.YtohnakjamlhhkaaGreatDoorKFA0
import Derived.Test.YtohnakjamlhhkaaGreatDoorKFA1
import Derived.Test.YtohnakjamlhhkaaGreatDoorKFA2
import Derived.Test.YtohnakjamlhhkaaGreatDoorKFA3
import Derived.Test.YtohnakjamlhhkaaGreatDoorKS
namespace Go.Proofs.YtohnakjamlhhkaaGreatDoor
open Go Go.Proofs Go.RowKit
set_option maxRecDepth 100000
set_option linter.unusedVariables false
theorem fails_calls (x y : Int) (w : World) (hx : -9223372036854775808 ≤ x) (hx' : x ≤ 9223372036854775807) (hy : 0 ≤ y) (hy' : y ≤ 255) :
    Calls Tryz.prog 6 #[.int .i64 x, .int .u8 y] w fun e w' => e = .returned (.bool true) ∧ Below w.heap.size w w' := by
  obtain ⟨b, rfl⟩ : ∃ b : Nat, y = b := ⟨y.toNat, by omega⟩
  obtain ⟨s, hs⟩ : ∃ s : Nat, secS (b : Int) = s := ⟨(secS b).toNat, by
    have := bits_lo_u32 .xor IntKind.u32.max (stI 0 (secB b) 16)
    show bits .xor .u32 IntKind.u32.max (stI 0 (secB b) 16) = _
    unfold secS
    omega⟩
  have hV := withV_one (x := .int .i64 x) (y := .int .i64 0) rfl rfl b s
  have fin : ∀ k : Nat, ar x (4 : Nat) = k → isT (ev Tryz.prog 91 (failsC k) 60 6 [.chan (some 0), .chan (some 7)] ⟨.leaf, 0⟩) = true → Calls Tryz.prog 6 #[.int .i64 x, .int .u8 b] w fun e w' => e = .returned (.bool true) ∧ Below w.heap.size w w' := fun k hk h => by
    have hC : ConOK Tryz.prog (withV (.int .i64 x) (.int .i64 0) b s) (failsC k) :=
      sumC_ok (arC_ok (baseC_ok alive_ok hV) (j := 0) (m := 4) rfl hx hx' (by decide) (by decide) hk) (b := b) rfl (by rw [hs]; rfl)
    unfold isT at h
    split at h
    · rename_i A' he
      have hd := pure_does hV (withV_opq _ _ b s) (ev_ok mixed_ok names_ok codes_ok hC 60) he (args' := [.int .i64 x, .int .u8 b]) (.cons _ _ _ _ (.opq 0) (.cons _ _ _ _ (.opq 7) .nil)) rfl w
      refine (calls_of_does Tryz.func6 rfl (by kernel_rfl) hd).mono fun e w' he => ?_
      cases e with
      | returned v => exact ⟨by rw [he.1], he.2.below⟩
      | panicked c => exact he.elim
      | outgrown => exact he.elim
    · cases h
  have all : ∀ k : Nat, k < 4 → isT (ev Tryz.prog 91 (failsC k) 60 6 [.chan (some 0), .chan (some 7)] ⟨.leaf, 0⟩) = true
    | 0, _ => fails_0
    | 1, _ => fails_1
    | 2, _ => fails_2
    | 3, _ => fails_3
    | k + 4, h => absurd h (by omega)
  have h1 := ar_lo x (4 : Nat) (by decide)
  have h2 := ar_hi x (4 : Nat) (by decide)
  exact fin (ar x (4 : Nat)).toNat (by omega) (all _ (by omega))
end Go.Proofs.YtohnakjamlhhkaaGreatDoor
