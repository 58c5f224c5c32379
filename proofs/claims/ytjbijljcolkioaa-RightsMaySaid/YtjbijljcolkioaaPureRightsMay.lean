/- The pure statement of RightsMay: which rights may be is told as the document says, at every number of the kind int. -/
import Derived.Test.YtjbijljcolkioaaPRightsMayx1
namespace Go.Proofs.Ytjbijljcolkioaa.Pure
open Go.RowKit Go.Proofs.Ytjbijljcolkioaa.PRightsMay Go.Proofs.YtjbijljcolkioaaW.PrintWords Go.Proofs.YtjbijljcolkioaaW.PrintLast

theorem RightsMay_all : rights_All.f 10 = some 15 := by decide +kernel
theorem RightsMay_lives : allotmentlaw16_lives.f 10 = some true := by decide +kernel
theorem RightsMay_may (a : Int) : rights_May.f a = allotmentref16_May.f a := by
  unfold rights_May.f allotmentref16_May.f
  have h : decide (a < 16) = decide (a ≤ 15) := by
    by_cases h : a ≤ 15
    · rw [decide_eq_true h, decide_eq_true (by omega)]
    · rw [decide_eq_false h, decide_eq_false (by omega)]
  rw [h]
theorem RightsMay_some (a : Int) : ∃ b, allotmentref16_May.f a = some b := by
  unfold allotmentref16_May.f
  split <;> exact ⟨_, rfl⟩

theorem RightsMay : allotmentlaw16_RightsMay.Pure := by
  intro a _
  refine ⟨10, ?_⟩
  obtain ⟨b, hb⟩ := RightsMay_some a
  unfold allotmentlaw16_RightsMay.f
  rw [RightsMay_may a, hb, RightsMay_all, RightsMay_lives]
  simp only [Option.bind_some, beq_self_eq_true, if_true]
  rfl

end Go.Proofs.Ytjbijljcolkioaa.Pure
