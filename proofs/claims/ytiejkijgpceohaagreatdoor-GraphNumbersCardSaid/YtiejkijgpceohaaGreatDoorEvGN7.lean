/-
  Rounds 48 to 55, reckoned by the machine.
-/
import Derived.Test.YtiejkijgpceohaaGreatDoorEvGN
namespace Go.Proofs.YtiejkijgpceohaaGreatDoor.Ev
open Go
set_option maxRecDepth 100000
theorem rd48 : vpR 48 = true := by kernel_rfl
theorem rd49 : vpR 49 = true := by kernel_rfl
theorem rd50 : vpR 50 = true := by kernel_rfl
theorem rd51 : vpR 51 = true := by kernel_rfl
theorem rd52 : vpR 52 = true := by kernel_rfl
theorem rd53 : vpR 53 = true := by kernel_rfl
theorem rd54 : vpR 54 = true := by kernel_rfl
theorem rd55 : vpR 55 = true := by kernel_rfl
theorem rds7 : ∀ k, 48 ≤ k → k < 56 → vpR k = true := fun k h1 h2 => by
  have h : k = 48 ∨ k = 49 ∨ k = 50 ∨ k = 51 ∨ k = 52 ∨ k = 53 ∨ k = 54 ∨ k = 55 := by omega
  rcases h with rfl | rfl | rfl | rfl | rfl | rfl | rfl | rfl
  · exact rd48
  · exact rd49
  · exact rd50
  · exact rd51
  · exact rd52
  · exact rd53
  · exact rd54
  · exact rd55
end Go.Proofs.YtiejkijgpceohaaGreatDoor.Ev
