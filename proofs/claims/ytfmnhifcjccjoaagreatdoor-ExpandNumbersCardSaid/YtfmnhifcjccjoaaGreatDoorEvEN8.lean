/-
  Rounds 56 to 59, reckoned by the machine.
-/
import Derived.Test.YtfmnhifcjccjoaaGreatDoorEvEN
namespace Go.Proofs.YtfmnhifcjccjoaaGreatDoor.Ev
open Go
set_option maxRecDepth 100000
theorem round_56 : vpR 56 = true := by kernel_rfl
theorem round_57 : vpR 57 = true := by kernel_rfl
theorem round_58 : vpR 58 = true := by kernel_rfl
theorem round_59 : vpR 59 = true := by kernel_rfl
theorem rounds_8 : ∀ k, 56 ≤ k → k < 60 → vpR k = true := fun k h1 h2 => by
  have h : k = 56 ∨ k = 57 ∨ k = 58 ∨ k = 59 := by omega
  rcases h with rfl | rfl | rfl | rfl
  · exact round_56
  · exact round_57
  · exact round_58
  · exact round_59
end Go.Proofs.YtfmnhifcjccjoaaGreatDoor.Ev
