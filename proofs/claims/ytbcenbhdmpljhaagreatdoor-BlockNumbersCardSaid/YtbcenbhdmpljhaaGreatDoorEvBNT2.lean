/-
  BlockNumbers: tapes, reckoned by the machine.
-/
import Derived.Test.YtbcenbhdmpljhaaGreatDoorEvBN
namespace Go.Proofs.YtbcenbhdmpljhaaGreatDoor.Ev
set_option linter.unusedVariables false
set_option linter.unusedSimpArgs false
set_option maxRecDepth 100000
open Go
theorem vp2_10 : vp2 10 = true := by kernel_rfl
theorem vp2_11 : vp2 11 = true := by kernel_rfl
theorem vp2_12 : vp2 12 = true := by kernel_rfl
theorem vp2_13 : vp2 13 = true := by kernel_rfl
theorem vp2_14 : vp2 14 = true := by kernel_rfl
theorem vp2_15 : vp2 15 = true := by kernel_rfl
theorem vp2_16 : vp2 16 = true := by kernel_rfl
theorem vp2_17 : vp2 17 = true := by kernel_rfl
theorem vp2_18 : vp2 18 = true := by kernel_rfl
theorem vp2_19 : vp2 19 = true := by kernel_rfl
end Go.Proofs.YtbcenbhdmpljhaaGreatDoor.Ev
