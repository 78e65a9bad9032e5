/-
  Rounds 40 to 49, reckoned by the machine.
-/
import Derived.Test.YtenolmhnmcjndaaGreatDoorEvHN
namespace Go.Proofs.YtenolmhnmcjndaaGreatDoor.Ev
set_option linter.unusedVariables false
set_option linter.unusedSimpArgs false
set_option maxRecDepth 100000
open Go
theorem vp1_40 : vp1 40 = true := by kernel_rfl
theorem vp1_41 : vp1 41 = true := by kernel_rfl
theorem vp1_42 : vp1 42 = true := by kernel_rfl
theorem vp1_43 : vp1 43 = true := by kernel_rfl
theorem vp1_44 : vp1 44 = true := by kernel_rfl
theorem vp1_45 : vp1 45 = true := by kernel_rfl
theorem vp1_46 : vp1 46 = true := by kernel_rfl
theorem vp1_47 : vp1 47 = true := by kernel_rfl
theorem vp1_48 : vp1 48 = true := by kernel_rfl
theorem vp1_49 : vp1 49 = true := by kernel_rfl
end Go.Proofs.YtenolmhnmcjndaaGreatDoor.Ev
