/-
  Rounds 32 to 39, reckoned by the machine.
-/
import Derived.Test.YtiejkijgpceohaaGreatDoorEvGN
namespace Go.Proofs.YtiejkijgpceohaaGreatDoor.Ev
open Go
set_option maxRecDepth 100000
theorem rd32 : vpR 32 = true := by kernel_rfl
theorem rd33 : vpR 33 = true := by kernel_rfl
theorem rd34 : vpR 34 = true := by kernel_rfl
theorem rd35 : vpR 35 = true := by kernel_rfl
theorem rd36 : vpR 36 = true := by kernel_rfl
theorem rd37 : vpR 37 = true := by kernel_rfl
theorem rd38 : vpR 38 = true := by kernel_rfl
theorem rd39 : vpR 39 = true := by kernel_rfl
theorem rds5 : ∀ k, 32 ≤ k → k < 40 → vpR k = true := fun k h1 h2 => by
  have h : k = 32 ∨ k = 33 ∨ k = 34 ∨ k = 35 ∨ k = 36 ∨ k = 37 ∨ k = 38 ∨ k = 39 := by omega
  rcases h with rfl | rfl | rfl | rfl | rfl | rfl | rfl | rfl
  · exact rd32
  · exact rd33
  · exact rd34
  · exact rd35
  · exact rd36
  · exact rd37
  · exact rd38
  · exact rd39
end Go.Proofs.YtiejkijgpceohaaGreatDoor.Ev
