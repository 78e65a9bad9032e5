/-
  Rounds 16 to 23, reckoned by the machine.
-/
import Derived.Test.YtiejkijgpceohaaGreatDoorEvGN
namespace Go.Proofs.YtiejkijgpceohaaGreatDoor.Ev
open Go
set_option maxRecDepth 100000
theorem rd16 : vpR 16 = true := by kernel_rfl
theorem rd17 : vpR 17 = true := by kernel_rfl
theorem rd18 : vpR 18 = true := by kernel_rfl
theorem rd19 : vpR 19 = true := by kernel_rfl
theorem rd20 : vpR 20 = true := by kernel_rfl
theorem rd21 : vpR 21 = true := by kernel_rfl
theorem rd22 : vpR 22 = true := by kernel_rfl
theorem rd23 : vpR 23 = true := by kernel_rfl
theorem rds3 : ∀ k, 16 ≤ k → k < 24 → vpR k = true := fun k h1 h2 => by
  have h : k = 16 ∨ k = 17 ∨ k = 18 ∨ k = 19 ∨ k = 20 ∨ k = 21 ∨ k = 22 ∨ k = 23 := by omega
  rcases h with rfl | rfl | rfl | rfl | rfl | rfl | rfl | rfl
  · exact rd16
  · exact rd17
  · exact rd18
  · exact rd19
  · exact rd20
  · exact rd21
  · exact rd22
  · exact rd23
end Go.Proofs.YtiejkijgpceohaaGreatDoor.Ev
