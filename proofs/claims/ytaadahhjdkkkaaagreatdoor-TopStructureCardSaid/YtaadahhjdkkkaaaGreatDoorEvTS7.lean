/-
  Runs, reckoned by the machine.
-/
import Derived.Test.YtaadahhjdkkkaaaGreatDoorEvTS
namespace Go.Proofs.YtaadahhjdkkkaaaGreatDoor.Ev
open Go
set_option maxRecDepth 100000
theorem run_0_6 : vpS 0 6 = true := by kernel_rfl
theorem run_1_6 : vpS 1 6 = true := by kernel_rfl
theorem run_2_6 : vpS 2 6 = true := by kernel_rfl
theorem run_3_6 : vpS 3 6 = true := by kernel_rfl
theorem runs_6 (k : Nat) (h : k ≤ 3) : vpS k 6 = true := by
  have h : k = 0 ∨ k = 1 ∨ k = 2 ∨ k = 3 := by omega
  rcases h with rfl | rfl | rfl | rfl
  · exact run_0_6
  · exact run_1_6
  · exact run_2_6
  · exact run_3_6
end Go.Proofs.YtaadahhjdkkkaaaGreatDoor.Ev
