/-
  Rounds 56 to 59, reckoned by the machine.
-/
import Derived.Test.YtiejkijgpceohaaGreatDoorEvGN
namespace Go.Proofs.YtiejkijgpceohaaGreatDoor.Ev
open Go
set_option maxRecDepth 100000
theorem rd56 : vpR 56 = true := by kernel_rfl
theorem rd57 : vpR 57 = true := by kernel_rfl
theorem rd58 : vpR 58 = true := by kernel_rfl
theorem rd59 : vpR 59 = true := by kernel_rfl
theorem rds8 : ∀ k, 56 ≤ k → k < 60 → vpR k = true := fun k h1 h2 => by
  have h : k = 56 ∨ k = 57 ∨ k = 58 ∨ k = 59 := by omega
  rcases h with rfl | rfl | rfl | rfl
  · exact rd56
  · exact rd57
  · exact rd58
  · exact rd59
end Go.Proofs.YtiejkijgpceohaaGreatDoor.Ev
