/-
  Rounds 32 to 39, reckoned by the machine.
-/
import Derived.Test.YtfmnhifcjccjoaaGreatDoorEvEN
namespace Go.Proofs.YtfmnhifcjccjoaaGreatDoor.Ev
open Go
set_option maxRecDepth 100000
theorem round_32 : vpR 32 = true := by kernel_rfl
theorem round_33 : vpR 33 = true := by kernel_rfl
theorem round_34 : vpR 34 = true := by kernel_rfl
theorem round_35 : vpR 35 = true := by kernel_rfl
theorem round_36 : vpR 36 = true := by kernel_rfl
theorem round_37 : vpR 37 = true := by kernel_rfl
theorem round_38 : vpR 38 = true := by kernel_rfl
theorem round_39 : vpR 39 = true := by kernel_rfl
theorem rounds_5 : ∀ k, 32 ≤ k → k < 40 → vpR k = true := fun k h1 h2 => by
  have h : k = 32 ∨ k = 33 ∨ k = 34 ∨ k = 35 ∨ k = 36 ∨ k = 37 ∨ k = 38 ∨ k = 39 := by omega
  rcases h with rfl | rfl | rfl | rfl | rfl | rfl | rfl | rfl
  · exact round_32
  · exact round_33
  · exact round_34
  · exact round_35
  · exact round_36
  · exact round_37
  · exact round_38
  · exact round_39
end Go.Proofs.YtfmnhifcjccjoaaGreatDoor.Ev
