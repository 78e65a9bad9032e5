/-
  The functions of Go's library that chapter 16 takes by their contracts, as the machine has them.
-/
import Derived.Test.YtiejkijgpceohaaGreatDoorEvVmP
import Derived.Test.YtiejkijgpceohaaGreatDoorEvPrimD
namespace Go.Proofs.YtiejkijgpceohaaGreatDoor.Ev
set_option linter.unusedVariables false
set_option linter.unusedSimpArgs false
open Go
theorem flat_trimL : FlatP primTrimL := fun args v H0 h H => by
  unfold primTrimL at h ⊢
  repeat' split at h
  all_goals first | (cases h; done) | (cases h; simp_all)
theorem flat_valid : FlatP primValid := fun args v H0 h H => by
  unfold primValid at h ⊢
  repeat' split at h
  all_goals first | (cases h; done) | (cases h; simp_all)
theorem flat_indexByte : FlatP primIndexByte := fun args v H0 h H => by
  unfold primIndexByte at h ⊢
  repeat' split at h
  all_goals first | (cases h; done) | (cases h; simp_all)
theorem flat_last : FlatP primLast := fun args v H0 h H => by
  unfold primLast at h ⊢
  repeat' split at h
  all_goals first | (cases h; done) | (cases h; simp_all)
noncomputable def fp0 (f : FuncId) : FnK :=
  Bool.rec (motive := fun _ => FnK) (Bool.rec (motive := fun _ => FnK) (Bool.rec (motive := fun _ => FnK) (Bool.rec (motive := fun _ => FnK) failF (flatPF primLast) (Nat.beq f 112)) (flatPF primIndexByte) (Nat.beq f 92)) (flatPF primValid) (Nat.beq f 91)) (flatPF primTrimL) (Nat.beq f 60)
theorem fp0_ok : ∀ f g, prims0.run f = some g → FPrimOk (fp0 f) g := fun f g h => by
  have h : run0 f = some g := h
  unfold run0 at h
  split at h
  · rename_i e; cases h; subst e; exact flatPF_ok flat_trimL
  split at h
  · rename_i e; cases h; subst e; exact flatPF_ok flat_valid
  split at h
  · rename_i e; cases h; subst e; exact flatPF_ok flat_indexByte
  split at h
  · rename_i e; cases h; subst e; exact flatPF_ok flat_last
  cases h
end Go.Proofs.YtiejkijgpceohaaGreatDoor.Ev
