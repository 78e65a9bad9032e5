/-
  Rounds 50 to 59, reckoned by the machine.
-/
import Derived.Test.YtenolmhnmcjndaaGreatDoorEvHN
namespace Go.Proofs.YtenolmhnmcjndaaGreatDoor.Ev
set_option linter.unusedVariables false
set_option linter.unusedSimpArgs false
set_option maxRecDepth 100000
open Go
theorem vp1_50 : vp1 50 = true := by kernel_rfl
theorem vp1_51 : vp1 51 = true := by kernel_rfl
theorem vp1_52 : vp1 52 = true := by kernel_rfl
theorem vp1_53 : vp1 53 = true := by kernel_rfl
theorem vp1_54 : vp1 54 = true := by kernel_rfl
theorem vp1_55 : vp1 55 = true := by kernel_rfl
theorem vp1_56 : vp1 56 = true := by kernel_rfl
theorem vp1_57 : vp1 57 = true := by kernel_rfl
theorem vp1_58 : vp1 58 = true := by kernel_rfl
theorem vp1_59 : vp1 59 = true := by kernel_rfl
end Go.Proofs.YtenolmhnmcjndaaGreatDoor.Ev
