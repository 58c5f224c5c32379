/- The example answers true. -/
import Derived.Test.YtohnakjamlhhkaaGreatDoorKQ
namespace Go.Proofs.YtohnakjamlhhkaaGreatDoor
open Go Go.Proofs Go.RowKit
set_option linter.unusedVariables false
set_option maxRecDepth 1000000
noncomputable def libC : Con := joinC (textC (checkC (extC 194 Extern.BytealgCount.count (extC 285 Extern.BytealgIndexByte.indexByte (addC 231 isNil crcV (add64C noC))))))
theorem libC_ok {V : Nat → Value} (hV : ∀ k, (V k).oneCell' = true) : ConOK Tryz.prog V libC := by
  refine joinC_ok (textC_ok (checkC_ok (extC_ok (extC_ok (addC_ok (add64C_ok noC_ok) crcV_flat ?_) Tryz.func285 (by kernel_rfl) (by kernel_rfl) (by kernel_rfl) (by kernel_rfl)) Tryz.func194 (by kernel_rfl) (by kernel_rfl) (by kernel_rfl) (by kernel_rfl))))
  intro E args args' w _ ht ha
  cases ha with
  | nil => exact table_does V hV w
  | cons => cases ht
noncomputable def comC : Con := cmdC libC
noncomputable def exC : Con := lineC (ev Tryz.prog 91 comC 50) comC
theorem exC_ok {V : Nat → Value} (hV : ∀ k, (V k).oneCell' = true) : ConOK Tryz.prog V exC :=
  lineC_ok (ev_ok mixed_ok names_ok codes_ok (cmdC_ok (libC_ok hV)) 50) (cmdC_ok (libC_ok hV))
theorem alive_ev : isT (ev Tryz.prog 91 exC 50 15 [] ⟨.leaf, 0⟩) = true := by kernel_rfl
theorem alive_ok : AliveOK := fun w => by
  have h := alive_ev
  unfold isT at h
  split at h
  · rename_i A' he
    exact pure_does (V := withV (.int .i64 0) (.int .i64 0) 0 0) (withV_one rfl rfl 0 0) (withV_opq _ _ 0 0) (ev_ok mixed_ok names_ok codes_ok (exC_ok (withV_one rfl rfl 0 0)) 50) he (args' := []) .nil rfl w
  · cases h
end Go.Proofs.YtohnakjamlhhkaaGreatDoor
