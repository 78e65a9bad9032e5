/-
  Rounds 30 to 39, reckoned by the machine.
-/
import Derived.Test.YtenolmhnmcjndaaGreatDoorEvHN
namespace Go.Proofs.YtenolmhnmcjndaaGreatDoor.Ev
set_option linter.unusedVariables false
set_option linter.unusedSimpArgs false
set_option maxRecDepth 100000
open Go
theorem vp1_30 : vp1 30 = true := by kernel_rfl
theorem vp1_31 : vp1 31 = true := by kernel_rfl
theorem vp1_32 : vp1 32 = true := by kernel_rfl
theorem vp1_33 : vp1 33 = true := by kernel_rfl
theorem vp1_34 : vp1 34 = true := by kernel_rfl
theorem vp1_35 : vp1 35 = true := by kernel_rfl
theorem vp1_36 : vp1 36 = true := by kernel_rfl
theorem vp1_37 : vp1 37 = true := by kernel_rfl
theorem vp1_38 : vp1 38 = true := by kernel_rfl
theorem vp1_39 : vp1 39 = true := by kernel_rfl
end Go.Proofs.YtenolmhnmcjndaaGreatDoor.Ev
