/-
  BlockNumbers: tapes, reckoned by the machine.
-/
import Derived.Test.YtbcenbhdmpljhaaGreatDoorEvBN
namespace Go.Proofs.YtbcenbhdmpljhaaGreatDoor.Ev
set_option linter.unusedVariables false
set_option linter.unusedSimpArgs false
set_option maxRecDepth 100000
open Go
theorem vp2_20 : vp2 20 = true := by kernel_rfl
theorem vp2_21 : vp2 21 = true := by kernel_rfl
theorem vp2_22 : vp2 22 = true := by kernel_rfl
theorem vp2_23 : vp2 23 = true := by kernel_rfl
theorem vp2_24 : vp2 24 = true := by kernel_rfl
theorem vp2_25 : vp2 25 = true := by kernel_rfl
theorem vp2_26 : vp2 26 = true := by kernel_rfl
theorem vp2_27 : vp2 27 = true := by kernel_rfl
theorem vp2_28 : vp2 28 = true := by kernel_rfl
theorem vp2_29 : vp2 29 = true := by kernel_rfl
end Go.Proofs.YtbcenbhdmpljhaaGreatDoor.Ev
