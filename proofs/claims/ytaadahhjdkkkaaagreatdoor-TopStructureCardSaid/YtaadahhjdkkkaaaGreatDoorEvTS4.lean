/-
  Runs, reckoned by the machine.
-/
import Derived.Test.YtaadahhjdkkkaaaGreatDoorEvTS
namespace Go.Proofs.YtaadahhjdkkkaaaGreatDoor.Ev
open Go
set_option maxRecDepth 100000
theorem run_0_3 : vpS 0 3 = true := by kernel_rfl
theorem run_1_3 : vpS 1 3 = true := by kernel_rfl
theorem run_2_3 : vpS 2 3 = true := by kernel_rfl
theorem run_3_3 : vpS 3 3 = true := by kernel_rfl
theorem runs_3 (k : Nat) (h : k ≤ 3) : vpS k 3 = true := by
  have h : k = 0 ∨ k = 1 ∨ k = 2 ∨ k = 3 := by omega
  rcases h with rfl | rfl | rfl | rfl
  · exact run_0_3
  · exact run_1_3
  · exact run_2_3
  · exact run_3_3
end Go.Proofs.YtaadahhjdkkkaaaGreatDoor.Ev
