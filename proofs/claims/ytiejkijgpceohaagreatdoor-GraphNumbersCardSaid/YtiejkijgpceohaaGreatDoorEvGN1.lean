/-
  Rounds 0 to 7, reckoned by the machine.
-/
import Derived.Test.YtiejkijgpceohaaGreatDoorEvGN
namespace Go.Proofs.YtiejkijgpceohaaGreatDoor.Ev
open Go
set_option maxRecDepth 100000
theorem rdz0 : vpR 0 = true := by kernel_rfl
theorem rdz1 : vpR 1 = true := by kernel_rfl
theorem rdz2 : vpR 2 = true := by kernel_rfl
theorem rdz3 : vpR 3 = true := by kernel_rfl
theorem rdz4 : vpR 4 = true := by kernel_rfl
theorem rdz5 : vpR 5 = true := by kernel_rfl
theorem rdz6 : vpR 6 = true := by kernel_rfl
theorem rdz7 : vpR 7 = true := by kernel_rfl
theorem rds1 : ∀ k, 0 ≤ k → k < 8 → vpR k = true := fun k h1 h2 => by
  have h : k = 0 ∨ k = 1 ∨ k = 2 ∨ k = 3 ∨ k = 4 ∨ k = 5 ∨ k = 6 ∨ k = 7 := by omega
  rcases h with rfl | rfl | rfl | rfl | rfl | rfl | rfl | rfl
  · exact rdz0
  · exact rdz1
  · exact rdz2
  · exact rdz3
  · exact rdz4
  · exact rdz5
  · exact rdz6
  · exact rdz7
end Go.Proofs.YtiejkijgpceohaaGreatDoor.Ev
