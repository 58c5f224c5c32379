/- The pure statement of RightsNeeds: what each operation needs is told as the document says, at every number of the kind int. -/
import Derived.Test.YtjbijljcolkioaaPRightsNeedsx2
namespace Go.Proofs.Ytjbijljcolkioaa.Pure
open Go.RowKit Go.Proofs.Ytjbijljcolkioaa.PRightsNeeds Go.Proofs.YtjbijljcolkioaaW.PrintWords Go.Proofs.YtjbijljcolkioaaW.PrintLast

theorem RightsNeeds_lives : allotmentlaw16_lives.f 10 = some true := by decide +kernel
theorem RightsNeeds_lives_more (k : Nat) (hk : 10 ≤ k) : allotmentlaw16_lives.f k = some true := by
  obtain ⟨d, rfl⟩ : ∃ d, k = 10 + d := ⟨k - 10, by omega⟩
  exact at_rounds (fun n => allotmentlaw16_lives.mono n) (by omega) RightsNeeds_lives

/-- An operation that there is not. -/
theorem RightsNeeds_none (k : Nat) (a : Int) (h : a < 1 ∨ 8 < a) : rights_Needs.f (k + 2) a = some (0, false) ∧ allotmentref16_Needs.f a = some 0 := by
  have n1 : a ≠ 1 := by omega
  have n2 : a ≠ 2 := by omega
  have n3 : a ≠ 3 := by omega
  have n4 : a ≠ 4 := by omega
  have n5 : a ≠ 5 := by omega
  have n6 : a ≠ 6 := by omega
  have n7 : a ≠ 7 := by omega
  have n8 : a ≠ 8 := by omega
  constructor
  · unfold rights_Needs.f
    rw [if_neg n1, if_neg n2, if_neg n4]
    simp only [rights_Needs.j0, rights_Needs.j1]
    simp [n3, n5, n6, n7, n8]
  · unfold allotmentref16_Needs.f
    rcases h with h | h
    · rw [if_pos h]
    · rw [if_neg (by omega), if_pos (by omega)]

theorem RightsNeeds_ref_some (a : Int) : ∃ n, allotmentref16_Needs.f a = some n := by
  by_cases h : a < 1 ∨ 8 < a
  · exact ⟨_, (RightsNeeds_none 0 a h).2⟩
  · have : a = 1 ∨ a = 2 ∨ a = 3 ∨ a = 4 ∨ a = 5 ∨ a = 6 ∨ a = 7 ∨ a = 8 := by omega
    rcases this with rfl | rfl | rfl | rfl | rfl | rfl | rfl | rfl <;> exact ⟨_, rfl⟩

/-- Each operation: what the program tells is what the reference tells. -/
theorem RightsNeeds_one (k : Nat) (a : Int) : ∃ n, allotmentref16_Needs.f a = some n ∧ rights_Needs.f (k + 2) a = some (n, decide (n > 0)) := by
  by_cases h : a < 1 ∨ 8 < a
  · exact ⟨0, (RightsNeeds_none k a h).2, (RightsNeeds_none k a h).1⟩
  · have : a = 1 ∨ a = 2 ∨ a = 3 ∨ a = 4 ∨ a = 5 ∨ a = 6 ∨ a = 7 ∨ a = 8 := by omega
    rcases this with rfl | rfl | rfl | rfl | rfl | rfl | rfl | rfl <;> exact ⟨_, rfl, rfl⟩

theorem RightsNeeds_step (k : Nat) (hk : 2 ≤ k) (x y z : Int) (i : Int) (h0 : 0 ≤ i) (h1 : i < 3) :
    allotmentlaw16_RightsNeeds.l0 (k + 1) [x, y, z] i = allotmentlaw16_RightsNeeds.l0 k [x, y, z] (i + 1) := by
  obtain ⟨d, rfl⟩ : ∃ d, k = d + 2 := ⟨k - 2, by omega⟩
  obtain ⟨n, hr, hp⟩ := RightsNeeds_one d (rd [x, y, z] i)
  have hw : wrap64 (i + 1) = i + 1 := by unfold wrap64; omega
  generalize d + 2 = k at *
  simp only [allotmentlaw16_RightsNeeds.l0]
  rw [if_pos h1, if_pos h0, if_pos (by simpa using h1), hp]
  simp only [Option.bind_some]
  rw [hr]
  simp only [Option.bind_some]
  rw [if_pos trivial, if_neg (by simp), hw]

theorem RightsNeeds : allotmentlaw16_RightsNeeds.Pure := by
  intro a hw
  refine ⟨23, ?_⟩
  have hA : ∃ y, allotmentref01_Around.f a 11 = some y := by
    unfold allotmentref01_Around.f
    split <;> exact ⟨_, rfl⟩
  obtain ⟨y, hy⟩ := hA
  unfold allotmentlaw16_RightsNeeds.f
  rw [hy]
  simp only [Option.bind_some]
  rw [RightsNeeds_step 22 (by omega) a y (-1) 0 (by omega) (by omega), RightsNeeds_step 21 (by omega) a y (-1) (0 + 1) (by omega) (by omega), RightsNeeds_step 20 (by omega) a y (-1) (0 + 1 + 1) (by omega) (by omega)]
  simp only [allotmentlaw16_RightsNeeds.l0]
  rw [if_neg (by omega), RightsNeeds_lives_more 19 (by omega)]
  rfl

end Go.Proofs.Ytjbijljcolkioaa.Pure
