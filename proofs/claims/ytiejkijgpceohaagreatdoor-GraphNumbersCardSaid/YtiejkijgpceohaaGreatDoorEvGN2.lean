/-
  Rounds 8 to 15, reckoned by the machine.
-/
import Derived.Test.YtiejkijgpceohaaGreatDoorEvGN
namespace Go.Proofs.YtiejkijgpceohaaGreatDoor.Ev
open Go
set_option maxRecDepth 100000
theorem rd8 : vpR 8 = true := by kernel_rfl
theorem rd9 : vpR 9 = true := by kernel_rfl
theorem rd10 : vpR 10 = true := by kernel_rfl
theorem rd11 : vpR 11 = true := by kernel_rfl
theorem rd12 : vpR 12 = true := by kernel_rfl
theorem rd13 : vpR 13 = true := by kernel_rfl
theorem rd14 : vpR 14 = true := by kernel_rfl
theorem rd15 : vpR 15 = true := by kernel_rfl
theorem rds2 : ∀ k, 8 ≤ k → k < 16 → vpR k = true := fun k h1 h2 => by
  have h : k = 8 ∨ k = 9 ∨ k = 10 ∨ k = 11 ∨ k = 12 ∨ k = 13 ∨ k = 14 ∨ k = 15 := by omega
  rcases h with rfl | rfl | rfl | rfl | rfl | rfl | rfl | rfl
  · exact rd8
  · exact rd9
  · exact rd10
  · exact rd11
  · exact rd12
  · exact rd13
  · exact rd14
  · exact rd15
end Go.Proofs.YtiejkijgpceohaaGreatDoor.Ev
