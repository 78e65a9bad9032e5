/-
  Rounds 48 to 55, reckoned by the machine.
-/
import Derived.Test.YtfmnhifcjccjoaaGreatDoorEvEN
namespace Go.Proofs.YtfmnhifcjccjoaaGreatDoor.Ev
open Go
set_option maxRecDepth 100000
theorem round_48 : vpR 48 = true := by kernel_rfl
theorem round_49 : vpR 49 = true := by kernel_rfl
theorem round_50 : vpR 50 = true := by kernel_rfl
theorem round_51 : vpR 51 = true := by kernel_rfl
theorem round_52 : vpR 52 = true := by kernel_rfl
theorem round_53 : vpR 53 = true := by kernel_rfl
theorem round_54 : vpR 54 = true := by kernel_rfl
theorem round_55 : vpR 55 = true := by kernel_rfl
theorem rounds_7 : ∀ k, 48 ≤ k → k < 56 → vpR k = true := fun k h1 h2 => by
  have h : k = 48 ∨ k = 49 ∨ k = 50 ∨ k = 51 ∨ k = 52 ∨ k = 53 ∨ k = 54 ∨ k = 55 := by omega
  rcases h with rfl | rfl | rfl | rfl | rfl | rfl | rfl | rfl
  · exact round_48
  · exact round_49
  · exact round_50
  · exact round_51
  · exact round_52
  · exact round_53
  · exact round_54
  · exact round_55
end Go.Proofs.YtfmnhifcjccjoaaGreatDoor.Ev
