/-
  Rounds 40 to 47, reckoned by the machine.
-/
import Derived.Test.YtiejkijgpceohaaGreatDoorEvGN
namespace Go.Proofs.YtiejkijgpceohaaGreatDoor.Ev
open Go
set_option maxRecDepth 100000
theorem rd40 : vpR 40 = true := by kernel_rfl
theorem rd41 : vpR 41 = true := by kernel_rfl
theorem rd42 : vpR 42 = true := by kernel_rfl
theorem rd43 : vpR 43 = true := by kernel_rfl
theorem rd44 : vpR 44 = true := by kernel_rfl
theorem rd45 : vpR 45 = true := by kernel_rfl
theorem rd46 : vpR 46 = true := by kernel_rfl
theorem rd47 : vpR 47 = true := by kernel_rfl
theorem rds6 : ∀ k, 40 ≤ k → k < 48 → vpR k = true := fun k h1 h2 => by
  have h : k = 40 ∨ k = 41 ∨ k = 42 ∨ k = 43 ∨ k = 44 ∨ k = 45 ∨ k = 46 ∨ k = 47 := by omega
  rcases h with rfl | rfl | rfl | rfl | rfl | rfl | rfl | rfl
  · exact rd40
  · exact rd41
  · exact rd42
  · exact rd43
  · exact rd44
  · exact rd45
  · exact rd46
  · exact rd47
end Go.Proofs.YtiejkijgpceohaaGreatDoor.Ev
