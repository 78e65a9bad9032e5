/-
  Runs, reckoned by the machine.
-/
import Derived.Test.YtaadahhjdkkkaaaGreatDoorEvTS
namespace Go.Proofs.YtaadahhjdkkkaaaGreatDoor.Ev
open Go
set_option maxRecDepth 100000
theorem run_0_4 : vpS 0 4 = true := by kernel_rfl
theorem run_1_4 : vpS 1 4 = true := by kernel_rfl
theorem run_2_4 : vpS 2 4 = true := by kernel_rfl
theorem run_3_4 : vpS 3 4 = true := by kernel_rfl
theorem runs_4 (k : Nat) (h : k ≤ 3) : vpS k 4 = true := by
  have h : k = 0 ∨ k = 1 ∨ k = 2 ∨ k = 3 := by omega
  rcases h with rfl | rfl | rfl | rfl
  · exact run_0_4
  · exact run_1_4
  · exact run_2_4
  · exact run_3_4
end Go.Proofs.YtaadahhjdkkkaaaGreatDoor.Ev
