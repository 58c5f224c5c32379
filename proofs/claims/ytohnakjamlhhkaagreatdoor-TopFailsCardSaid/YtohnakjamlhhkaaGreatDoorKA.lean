/- The program is one that the evaluator is sound for: names, and the regions' plans. -/
import Derived.Test.YtohnakjamlhhkaaGreatDoorSoI
import Derived.Test.YtohnakjamlhhkaaGreatDoorProg
import Derived.KernelRfl
namespace Go.Proofs.YtohnakjamlhhkaaGreatDoor
open Go
set_option linter.unusedVariables false
set_option maxRecDepth 1000000
theorem names_ok : namesB Tryz.prog = true := by kernel_rfl
theorem mixed_ok : Tryz.prog.follows .mixedOrders = true := by kernel_rfl
theorem codes_0 : chunkB Tryz.prog 91 0 40 = true := by kernel_rfl
theorem codes_1 : chunkB Tryz.prog 91 40 40 = true := by kernel_rfl
theorem codes_2 : chunkB Tryz.prog 91 80 40 = true := by kernel_rfl
theorem codes_3 : chunkB Tryz.prog 91 120 40 = true := by kernel_rfl
theorem codes_4 : chunkB Tryz.prog 91 160 40 = true := by kernel_rfl
theorem codes_5 : chunkB Tryz.prog 91 200 40 = true := by kernel_rfl
theorem codes_6 : chunkB Tryz.prog 91 240 40 = true := by kernel_rfl
theorem codes_7 : chunkB Tryz.prog 91 280 40 = true := by kernel_rfl
theorem codes_8 : chunkB Tryz.prog 91 320 40 = true := by kernel_rfl
theorem codes_9 : chunkB Tryz.prog 91 360 40 = true := by kernel_rfl
theorem funcs_size : Tryz.prog.funcs.size = 395 := by kernel_rfl
theorem codes_ok : CodesOK Tryz.prog 91 := fun (f : Nat) fn c hf hc hne => by
  have hlt : f < 395 := by
    have := (Array.getElem?_eq_some_iff.1 hf).1
    rwa [funcs_size] at this
  by_cases h0 : f < 40
  · exact chunk_get codes_0 hf hc hne (by omega) (by omega)
  by_cases h1 : f < 80
  · exact chunk_get codes_1 hf hc hne (by omega) (by omega)
  by_cases h2 : f < 120
  · exact chunk_get codes_2 hf hc hne (by omega) (by omega)
  by_cases h3 : f < 160
  · exact chunk_get codes_3 hf hc hne (by omega) (by omega)
  by_cases h4 : f < 200
  · exact chunk_get codes_4 hf hc hne (by omega) (by omega)
  by_cases h5 : f < 240
  · exact chunk_get codes_5 hf hc hne (by omega) (by omega)
  by_cases h6 : f < 280
  · exact chunk_get codes_6 hf hc hne (by omega) (by omega)
  by_cases h7 : f < 320
  · exact chunk_get codes_7 hf hc hne (by omega) (by omega)
  by_cases h8 : f < 360
  · exact chunk_get codes_8 hf hc hne (by omega) (by omega)
  exact chunk_get codes_9 hf hc hne (by omega) (by omega)
end Go.Proofs.YtohnakjamlhhkaaGreatDoor
