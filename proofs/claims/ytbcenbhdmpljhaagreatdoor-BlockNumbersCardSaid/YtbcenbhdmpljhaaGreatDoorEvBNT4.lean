/-
  BlockNumbers: tapes, reckoned by the machine.
-/
import Derived.Test.YtbcenbhdmpljhaaGreatDoorEvBN
namespace Go.Proofs.YtbcenbhdmpljhaaGreatDoor.Ev
set_option linter.unusedVariables false
set_option linter.unusedSimpArgs false
set_option maxRecDepth 100000
open Go
theorem vp2_30 : vp2 30 = true := by kernel_rfl
theorem vp2_31 : vp2 31 = true := by kernel_rfl
theorem vp2_32 : vp2 32 = true := by kernel_rfl
theorem vp2_33 : vp2 33 = true := by kernel_rfl
theorem vp2_34 : vp2 34 = true := by kernel_rfl
theorem vp2_35 : vp2 35 = true := by kernel_rfl
theorem vp2_36 : vp2 36 = true := by kernel_rfl
theorem vp2_37 : vp2 37 = true := by kernel_rfl
theorem vp2_38 : vp2 38 = true := by kernel_rfl
theorem vp2_39 : vp2 39 = true := by kernel_rfl
end Go.Proofs.YtbcenbhdmpljhaaGreatDoor.Ev
