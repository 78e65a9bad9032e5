/-
  Rounds 10 to 19, reckoned by the machine.
-/
import Derived.Test.YtenolmhnmcjndaaGreatDoorEvHN
namespace Go.Proofs.YtenolmhnmcjndaaGreatDoor.Ev
set_option linter.unusedVariables false
set_option linter.unusedSimpArgs false
set_option maxRecDepth 100000
open Go
theorem vp1_10 : vp1 10 = true := by kernel_rfl
theorem vp1_11 : vp1 11 = true := by kernel_rfl
theorem vp1_12 : vp1 12 = true := by kernel_rfl
theorem vp1_13 : vp1 13 = true := by kernel_rfl
theorem vp1_14 : vp1 14 = true := by kernel_rfl
theorem vp1_15 : vp1 15 = true := by kernel_rfl
theorem vp1_16 : vp1 16 = true := by kernel_rfl
theorem vp1_17 : vp1 17 = true := by kernel_rfl
theorem vp1_18 : vp1 18 = true := by kernel_rfl
theorem vp1_19 : vp1 19 = true := by kernel_rfl
end Go.Proofs.YtenolmhnmcjndaaGreatDoor.Ev
