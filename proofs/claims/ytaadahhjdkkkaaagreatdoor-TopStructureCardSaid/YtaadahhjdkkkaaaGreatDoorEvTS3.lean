/-
  Runs, reckoned by the machine.
-/
import Derived.Test.YtaadahhjdkkkaaaGreatDoorEvTS
namespace Go.Proofs.YtaadahhjdkkkaaaGreatDoor.Ev
open Go
set_option maxRecDepth 100000
theorem run_0_2 : vpS 0 2 = true := by kernel_rfl
theorem run_1_2 : vpS 1 2 = true := by kernel_rfl
theorem run_2_2 : vpS 2 2 = true := by kernel_rfl
theorem run_3_2 : vpS 3 2 = true := by kernel_rfl
theorem runs_2 (k : Nat) (h : k ≤ 3) : vpS k 2 = true := by
  have h : k = 0 ∨ k = 1 ∨ k = 2 ∨ k = 3 := by omega
  rcases h with rfl | rfl | rfl | rfl
  · exact run_0_2
  · exact run_1_2
  · exact run_2_2
  · exact run_3_2
end Go.Proofs.YtaadahhjdkkkaaaGreatDoor.Ev
