/-
  Rounds 20 to 29, reckoned by the machine.
-/
import Derived.Test.YtenolmhnmcjndaaGreatDoorEvHN
namespace Go.Proofs.YtenolmhnmcjndaaGreatDoor.Ev
set_option linter.unusedVariables false
set_option linter.unusedSimpArgs false
set_option maxRecDepth 100000
open Go
theorem vp1_20 : vp1 20 = true := by kernel_rfl
theorem vp1_21 : vp1 21 = true := by kernel_rfl
theorem vp1_22 : vp1 22 = true := by kernel_rfl
theorem vp1_23 : vp1 23 = true := by kernel_rfl
theorem vp1_24 : vp1 24 = true := by kernel_rfl
theorem vp1_25 : vp1 25 = true := by kernel_rfl
theorem vp1_26 : vp1 26 = true := by kernel_rfl
theorem vp1_27 : vp1 27 = true := by kernel_rfl
theorem vp1_28 : vp1 28 = true := by kernel_rfl
theorem vp1_29 : vp1 29 = true := by kernel_rfl
end Go.Proofs.YtenolmhnmcjndaaGreatDoor.Ev
