/-
  Runs, reckoned by the machine.
-/
import Derived.Test.YtaadahhjdkkkaaaGreatDoorEvTS
namespace Go.Proofs.YtaadahhjdkkkaaaGreatDoor.Ev
open Go
set_option maxRecDepth 100000
theorem run_0_0 : vpS 0 0 = true := by kernel_rfl
theorem run_1_0 : vpS 1 0 = true := by kernel_rfl
theorem run_2_0 : vpS 2 0 = true := by kernel_rfl
theorem run_3_0 : vpS 3 0 = true := by kernel_rfl
theorem runs_0 (k : Nat) (h : k ≤ 3) : vpS k 0 = true := by
  have h : k = 0 ∨ k = 1 ∨ k = 2 ∨ k = 3 := by omega
  rcases h with rfl | rfl | rfl | rfl
  · exact run_0_0
  · exact run_1_0
  · exact run_2_0
  · exact run_3_0
end Go.Proofs.YtaadahhjdkkkaaaGreatDoor.Ev
