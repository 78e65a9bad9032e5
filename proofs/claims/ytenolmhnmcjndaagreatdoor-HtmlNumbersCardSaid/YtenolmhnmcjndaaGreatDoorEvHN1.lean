/-
  Rounds 0 to 9, reckoned by the machine.
-/
import Derived.Test.YtenolmhnmcjndaaGreatDoorEvHN
namespace Go.Proofs.YtenolmhnmcjndaaGreatDoor.Ev
set_option linter.unusedVariables false
set_option linter.unusedSimpArgs false
set_option maxRecDepth 100000
open Go
theorem vp1_0 : vp1 0 = true := by kernel_rfl
theorem vp1_1 : vp1 1 = true := by kernel_rfl
theorem vp1_2 : vp1 2 = true := by kernel_rfl
theorem vp1_3 : vp1 3 = true := by kernel_rfl
theorem vp1_4 : vp1 4 = true := by kernel_rfl
theorem vp1_5 : vp1 5 = true := by kernel_rfl
theorem vp1_6 : vp1 6 = true := by kernel_rfl
theorem vp1_7 : vp1 7 = true := by kernel_rfl
theorem vp1_8 : vp1 8 = true := by kernel_rfl
theorem vp1_9 : vp1 9 = true := by kernel_rfl
end Go.Proofs.YtenolmhnmcjndaaGreatDoor.Ev
