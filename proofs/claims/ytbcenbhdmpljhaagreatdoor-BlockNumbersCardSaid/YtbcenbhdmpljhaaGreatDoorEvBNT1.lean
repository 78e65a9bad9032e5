/-
  BlockNumbers: tapes, reckoned by the machine.
-/
import Derived.Test.YtbcenbhdmpljhaaGreatDoorEvBN
namespace Go.Proofs.YtbcenbhdmpljhaaGreatDoor.Ev
set_option linter.unusedVariables false
set_option linter.unusedSimpArgs false
set_option maxRecDepth 100000
open Go
theorem vp2_0 : vp2 0 = true := by kernel_rfl
theorem vp2_1 : vp2 1 = true := by kernel_rfl
theorem vp2_2 : vp2 2 = true := by kernel_rfl
theorem vp2_3 : vp2 3 = true := by kernel_rfl
theorem vp2_4 : vp2 4 = true := by kernel_rfl
theorem vp2_5 : vp2 5 = true := by kernel_rfl
theorem vp2_6 : vp2 6 = true := by kernel_rfl
theorem vp2_7 : vp2 7 = true := by kernel_rfl
theorem vp2_8 : vp2 8 = true := by kernel_rfl
theorem vp2_9 : vp2 9 = true := by kernel_rfl
end Go.Proofs.YtbcenbhdmpljhaaGreatDoor.Ev
