/-
  Functions of Go's library that are taken by their contracts, as the machine has them.
-/
import Derived.Test.YtfmnhifcjccjoaaGreatDoorEvVmP
import Derived.Test.YtfmnhifcjccjoaaGreatDoorEvPrimD
namespace Go.Proofs.YtfmnhifcjccjoaaGreatDoor.Ev
set_option linter.unusedVariables false
set_option linter.unusedSimpArgs false
open Go
theorem flat_TrimL : FlatP primTrimL := fun args v H0 h H => by
  unfold primTrimL at h ⊢
  repeat' split at h
  all_goals first | (cases h; done) | (cases h; simp_all)
theorem flat_Trim : FlatP primTrim := fun args v H0 h H => by
  unfold primTrim at h ⊢
  repeat' split at h
  all_goals first | (cases h; done) | (cases h; simp_all)
theorem flat_Valid : FlatP primValid := fun args v H0 h H => by
  unfold primValid at h ⊢
  repeat' split at h
  all_goals first | (cases h; done) | (cases h; simp_all)
theorem flat_IndexByte : FlatP primIndexByte := fun args v H0 h H => by
  unfold primIndexByte at h ⊢
  repeat' split at h
  all_goals first | (cases h; done) | (cases h; simp_all)
theorem flat_Last : FlatP primLast := fun args v H0 h H => by
  unfold primLast at h ⊢
  repeat' split at h
  all_goals first | (cases h; done) | (cases h; simp_all)
theorem flat_Itoa : FlatP primItoa := fun args v H0 h H => by
  unfold primItoa at h ⊢
  repeat' split at h
  all_goals first | (cases h; done) | (cases h; simp_all)
noncomputable def fp0 (f : FuncId) : FnK :=
  (Bool.rec (motive := fun _ => FnK) (Bool.rec (motive := fun _ => FnK) (Bool.rec (motive := fun _ => FnK) (Bool.rec (motive := fun _ => FnK) (Bool.rec (motive := fun _ => FnK) (Bool.rec (motive := fun _ => FnK) failF (flatPF primItoa) (Nat.beq f 116)) (flatPF primLast) (Nat.beq f 149)) (flatPF primIndexByte) (Nat.beq f 130)) (flatPF primValid) (Nat.beq f 134)) (flatPF primTrim) (Nat.beq f 128)) (flatPF primTrimL) (Nat.beq f 98))
theorem fp0_ok : ∀ f g, prims0.run f = some g → FPrimOk (fp0 f) g := fun f g h => by
  have h : run0 f = some g := h
  unfold run0 at h
  split at h
  · rename_i e; cases h; subst e; exact flatPF_ok flat_TrimL
  split at h
  · rename_i e; cases h; subst e; exact flatPF_ok flat_Trim
  split at h
  · rename_i e; cases h; subst e; exact flatPF_ok flat_Valid
  split at h
  · rename_i e; cases h; subst e; exact flatPF_ok flat_IndexByte
  split at h
  · rename_i e; cases h; subst e; exact flatPF_ok flat_Last
  split at h
  · rename_i e; cases h; subst e; exact flatPF_ok flat_Itoa
  cases h
end Go.Proofs.YtfmnhifcjccjoaaGreatDoor.Ev
