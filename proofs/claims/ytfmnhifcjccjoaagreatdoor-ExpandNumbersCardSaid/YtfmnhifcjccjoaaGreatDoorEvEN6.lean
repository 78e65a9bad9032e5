/-
  Rounds 40 to 47, reckoned by the machine.
-/
import Derived.Test.YtfmnhifcjccjoaaGreatDoorEvEN
namespace Go.Proofs.YtfmnhifcjccjoaaGreatDoor.Ev
open Go
set_option maxRecDepth 100000
theorem round_40 : vpR 40 = true := by kernel_rfl
theorem round_41 : vpR 41 = true := by kernel_rfl
theorem round_42 : vpR 42 = true := by kernel_rfl
theorem round_43 : vpR 43 = true := by kernel_rfl
theorem round_44 : vpR 44 = true := by kernel_rfl
theorem round_45 : vpR 45 = true := by kernel_rfl
theorem round_46 : vpR 46 = true := by kernel_rfl
theorem round_47 : vpR 47 = true := by kernel_rfl
theorem rounds_6 : ∀ k, 40 ≤ k → k < 48 → vpR k = true := fun k h1 h2 => by
  have h : k = 40 ∨ k = 41 ∨ k = 42 ∨ k = 43 ∨ k = 44 ∨ k = 45 ∨ k = 46 ∨ k = 47 := by omega
  rcases h with rfl | rfl | rfl | rfl | rfl | rfl | rfl | rfl
  · exact round_40
  · exact round_41
  · exact round_42
  · exact round_43
  · exact round_44
  · exact round_45
  · exact round_46
  · exact round_47
end Go.Proofs.YtfmnhifcjccjoaaGreatDoor.Ev
