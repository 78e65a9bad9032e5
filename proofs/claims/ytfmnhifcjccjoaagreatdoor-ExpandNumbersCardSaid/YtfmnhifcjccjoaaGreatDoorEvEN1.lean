/-
  Rounds 0 to 7, reckoned by the machine.
-/
import Derived.Test.YtfmnhifcjccjoaaGreatDoorEvEN
namespace Go.Proofs.YtfmnhifcjccjoaaGreatDoor.Ev
open Go
set_option maxRecDepth 100000
theorem round_0 : vpR 0 = true := by kernel_rfl
theorem round_1 : vpR 1 = true := by kernel_rfl
theorem round_2 : vpR 2 = true := by kernel_rfl
theorem round_3 : vpR 3 = true := by kernel_rfl
theorem round_4 : vpR 4 = true := by kernel_rfl
theorem round_5 : vpR 5 = true := by kernel_rfl
theorem round_6 : vpR 6 = true := by kernel_rfl
theorem round_7 : vpR 7 = true := by kernel_rfl
theorem rounds_1 : ∀ k, 0 ≤ k → k < 8 → vpR k = true := fun k h1 h2 => by
  have h : k = 0 ∨ k = 1 ∨ k = 2 ∨ k = 3 ∨ k = 4 ∨ k = 5 ∨ k = 6 ∨ k = 7 := by omega
  rcases h with rfl | rfl | rfl | rfl | rfl | rfl | rfl | rfl
  · exact round_0
  · exact round_1
  · exact round_2
  · exact round_3
  · exact round_4
  · exact round_5
  · exact round_6
  · exact round_7
end Go.Proofs.YtfmnhifcjccjoaaGreatDoor.Ev
