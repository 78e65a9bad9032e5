/-
  Rounds 24 to 31, reckoned by the machine.
-/
import Derived.Test.YtiejkijgpceohaaGreatDoorEvGN
namespace Go.Proofs.YtiejkijgpceohaaGreatDoor.Ev
open Go
set_option maxRecDepth 100000
theorem rd24 : vpR 24 = true := by kernel_rfl
theorem rd25 : vpR 25 = true := by kernel_rfl
theorem rd26 : vpR 26 = true := by kernel_rfl
theorem rd27 : vpR 27 = true := by kernel_rfl
theorem rd28 : vpR 28 = true := by kernel_rfl
theorem rd29 : vpR 29 = true := by kernel_rfl
theorem rd30 : vpR 30 = true := by kernel_rfl
theorem rd31 : vpR 31 = true := by kernel_rfl
theorem rds4 : ∀ k, 24 ≤ k → k < 32 → vpR k = true := fun k h1 h2 => by
  have h : k = 24 ∨ k = 25 ∨ k = 26 ∨ k = 27 ∨ k = 28 ∨ k = 29 ∨ k = 30 ∨ k = 31 := by omega
  rcases h with rfl | rfl | rfl | rfl | rfl | rfl | rfl | rfl
  · exact rd24
  · exact rd25
  · exact rd26
  · exact rd27
  · exact rd28
  · exact rd29
  · exact rd30
  · exact rd31
end Go.Proofs.YtiejkijgpceohaaGreatDoor.Ev
