/-
  Runs, reckoned by the machine.
-/
import Derived.Test.YtaadahhjdkkkaaaGreatDoorEvTS
namespace Go.Proofs.YtaadahhjdkkkaaaGreatDoor.Ev
open Go
set_option maxRecDepth 100000
theorem run_0_7 : vpS 0 7 = true := by kernel_rfl
theorem run_1_7 : vpS 1 7 = true := by kernel_rfl
theorem run_2_7 : vpS 2 7 = true := by kernel_rfl
theorem run_3_7 : vpS 3 7 = true := by kernel_rfl
theorem runs_7 (k : Nat) (h : k ≤ 3) : vpS k 7 = true := by
  have h : k = 0 ∨ k = 1 ∨ k = 2 ∨ k = 3 := by omega
  rcases h with rfl | rfl | rfl | rfl
  · exact run_0_7
  · exact run_1_7
  · exact run_2_7
  · exact run_3_7
end Go.Proofs.YtaadahhjdkkkaaaGreatDoor.Ev
