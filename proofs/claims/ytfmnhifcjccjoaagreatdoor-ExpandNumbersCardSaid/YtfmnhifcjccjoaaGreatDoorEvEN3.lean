/-
  Rounds 16 to 23, reckoned by the machine.
-/
import Derived.Test.YtfmnhifcjccjoaaGreatDoorEvEN
namespace Go.Proofs.YtfmnhifcjccjoaaGreatDoor.Ev
open Go
set_option maxRecDepth 100000
theorem round_16 : vpR 16 = true := by kernel_rfl
theorem round_17 : vpR 17 = true := by kernel_rfl
theorem round_18 : vpR 18 = true := by kernel_rfl
theorem round_19 : vpR 19 = true := by kernel_rfl
theorem round_20 : vpR 20 = true := by kernel_rfl
theorem round_21 : vpR 21 = true := by kernel_rfl
theorem round_22 : vpR 22 = true := by kernel_rfl
theorem round_23 : vpR 23 = true := by kernel_rfl
theorem rounds_3 : ∀ k, 16 ≤ k → k < 24 → vpR k = true := fun k h1 h2 => by
  have h : k = 16 ∨ k = 17 ∨ k = 18 ∨ k = 19 ∨ k = 20 ∨ k = 21 ∨ k = 22 ∨ k = 23 := by omega
  rcases h with rfl | rfl | rfl | rfl | rfl | rfl | rfl | rfl
  · exact round_16
  · exact round_17
  · exact round_18
  · exact round_19
  · exact round_20
  · exact round_21
  · exact round_22
  · exact round_23
end Go.Proofs.YtfmnhifcjccjoaaGreatDoor.Ev
