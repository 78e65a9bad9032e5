/-
  Runs, reckoned by the machine.
-/
import Derived.Test.YtaadahhjdkkkaaaGreatDoorEvTS
namespace Go.Proofs.YtaadahhjdkkkaaaGreatDoor.Ev
open Go
set_option maxRecDepth 100000
theorem run_0_5 : vpS 0 5 = true := by kernel_rfl
theorem run_1_5 : vpS 1 5 = true := by kernel_rfl
theorem run_2_5 : vpS 2 5 = true := by kernel_rfl
theorem run_3_5 : vpS 3 5 = true := by kernel_rfl
theorem runs_5 (k : Nat) (h : k ≤ 3) : vpS k 5 = true := by
  have h : k = 0 ∨ k = 1 ∨ k = 2 ∨ k = 3 := by omega
  rcases h with rfl | rfl | rfl | rfl
  · exact run_0_5
  · exact run_1_5
  · exact run_2_5
  · exact run_3_5
end Go.Proofs.YtaadahhjdkkkaaaGreatDoor.Ev
