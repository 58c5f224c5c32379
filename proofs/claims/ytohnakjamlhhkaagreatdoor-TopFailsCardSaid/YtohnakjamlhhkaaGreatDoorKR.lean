/- Around: a number below another one. -/
import Derived.Test.YtohnakjamlhhkaaGreatDoorProg
import Derived.WalkKit
import Derived.WalkLawsBesides
import Derived.WalkSpells
import Derived.Outline
import Derived.Below
namespace Go.Proofs.YtohnakjamlhhkaaGreatDoor
open Go.RowKit
set_option linter.unusedVariables false
set_option linter.unusedSimpArgs false

def ar (a m : Int) : Int := if a < 0 then (-(a + 1)) % m else a % m
theorem ar_lo (a m : Int) (hm : 0 < m) : 0 ≤ ar a m := by
  unfold ar; split <;> exact Int.emod_nonneg _ (by omega)
theorem ar_hi (a m : Int) (hm : 0 < m) : ar a m < m := by
  unfold ar; split <;> exact Int.emod_lt_of_pos _ hm
theorem around_any (a m : Int) (w : World) (hm : 0 < m) (hm' : m ≤ 9223372036854775807) (ha : -9223372036854775808 ≤ a) (ha' : a ≤ 9223372036854775807) :
    Calls Tryz.prog 7 #[.int .i64 a, .int .i64 m] w fun e w' => e = .returned (.int .i64 (ar a m)) ∧ w = w' := by
  have hm0 : (m == 0) = false := by simp; omega
  by_cases h : a < 0
  · have E : ar a m = (-(a + 1)) % m := by unfold ar; rw [if_pos h]
    rw [E]
    clear E
    have h1 : wrap64 (a + 1) = a + 1 := by unfold wrap64; omega
    have h2 : wrap64 (-(a + 1)) = -(a + 1) := by unfold wrap64; omega
    have h3 : Int.tmod (-(a + 1)) m = (-(a + 1)) % m := Int.tmod_eq_emod_of_nonneg (by omega)
    go_enter Tryz.func7, Tryz.ntmps7
    go_wp2
    go_ret
    exact ⟨by simp, rfl⟩
  · have E : ar a m = a % m := by unfold ar; rw [if_neg h]
    rw [E]
    clear E
    go_enter Tryz.func7, Tryz.ntmps7
    go_wp2
    go_ret
    exact ⟨by simp, rfl⟩
end Go.Proofs.YtohnakjamlhhkaaGreatDoor
