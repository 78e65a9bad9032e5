/-
  Rounds 8 to 15, reckoned by the machine.
-/
import Derived.Test.YtfmnhifcjccjoaaGreatDoorEvEN
namespace Go.Proofs.YtfmnhifcjccjoaaGreatDoor.Ev
open Go
set_option maxRecDepth 100000
theorem round_8 : vpR 8 = true := by kernel_rfl
theorem round_9 : vpR 9 = true := by kernel_rfl
theorem round_10 : vpR 10 = true := by kernel_rfl
theorem round_11 : vpR 11 = true := by kernel_rfl
theorem round_12 : vpR 12 = true := by kernel_rfl
theorem round_13 : vpR 13 = true := by kernel_rfl
theorem round_14 : vpR 14 = true := by kernel_rfl
theorem round_15 : vpR 15 = true := by kernel_rfl
theorem rounds_2 : ∀ k, 8 ≤ k → k < 16 → vpR k = true := fun k h1 h2 => by
  have h : k = 8 ∨ k = 9 ∨ k = 10 ∨ k = 11 ∨ k = 12 ∨ k = 13 ∨ k = 14 ∨ k = 15 := by omega
  rcases h with rfl | rfl | rfl | rfl | rfl | rfl | rfl | rfl
  · exact round_8
  · exact round_9
  · exact round_10
  · exact round_11
  · exact round_12
  · exact round_13
  · exact round_14
  · exact round_15
end Go.Proofs.YtfmnhifcjccjoaaGreatDoor.Ev
