/-
  Rounds 24 to 31, reckoned by the machine.
-/
import Derived.Test.YtfmnhifcjccjoaaGreatDoorEvEN
namespace Go.Proofs.YtfmnhifcjccjoaaGreatDoor.Ev
open Go
set_option maxRecDepth 100000
theorem round_24 : vpR 24 = true := by kernel_rfl
theorem round_25 : vpR 25 = true := by kernel_rfl
theorem round_26 : vpR 26 = true := by kernel_rfl
theorem round_27 : vpR 27 = true := by kernel_rfl
theorem round_28 : vpR 28 = true := by kernel_rfl
theorem round_29 : vpR 29 = true := by kernel_rfl
theorem round_30 : vpR 30 = true := by kernel_rfl
theorem round_31 : vpR 31 = true := by kernel_rfl
theorem rounds_4 : ∀ k, 24 ≤ k → k < 32 → vpR k = true := fun k h1 h2 => by
  have h : k = 24 ∨ k = 25 ∨ k = 26 ∨ k = 27 ∨ k = 28 ∨ k = 29 ∨ k = 30 ∨ k = 31 := by omega
  rcases h with rfl | rfl | rfl | rfl | rfl | rfl | rfl | rfl
  · exact round_24
  · exact round_25
  · exact round_26
  · exact round_27
  · exact round_28
  · exact round_29
  · exact round_30
  · exact round_31
end Go.Proofs.YtfmnhifcjccjoaaGreatDoor.Ev
