/-
  Runs, reckoned by the machine.
-/
import Derived.Test.YtaadahhjdkkkaaaGreatDoorEvTS
namespace Go.Proofs.YtaadahhjdkkkaaaGreatDoor.Ev
open Go
set_option maxRecDepth 100000
theorem run_0_1 : vpS 0 1 = true := by kernel_rfl
theorem run_1_1 : vpS 1 1 = true := by kernel_rfl
theorem run_2_1 : vpS 2 1 = true := by kernel_rfl
theorem run_3_1 : vpS 3 1 = true := by kernel_rfl
theorem runs_1 (k : Nat) (h : k ≤ 3) : vpS k 1 = true := by
  have h : k = 0 ∨ k = 1 ∨ k = 2 ∨ k = 3 := by omega
  rcases h with rfl | rfl | rfl | rfl
  · exact run_0_1
  · exact run_1_1
  · exact run_2_1
  · exact run_3_1
end Go.Proofs.YtaadahhjdkkkaaaGreatDoor.Ev
