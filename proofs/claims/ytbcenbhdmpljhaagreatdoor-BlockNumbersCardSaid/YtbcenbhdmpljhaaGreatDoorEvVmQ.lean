/-
  Functions of Go's library that are taken by their contracts, as the machine has them.
-/
import Derived.Test.YtbcenbhdmpljhaaGreatDoorEvVmM
import Derived.Test.YtbcenbhdmpljhaaGreatDoorEvPrimD
import Derived.Test.YtbcenbhdmpljhaaGreatDoorEvVmS
import Derived.Test.YtbcenbhdmpljhaaGreatDoorEvProg
import Derived.KernelRfl
namespace Go.Proofs.YtbcenbhdmpljhaaGreatDoor.Ev
set_option linter.unusedVariables false
set_option linter.unusedSimpArgs false
open Go
theorem flat_TrimR : FlatP primTrimR := fun args v H0 h H => by
  unfold primTrimR at h ⊢
  repeat' split at h
  all_goals first | (cases h; done) | (cases h; simp_all)
theorem flat_Trim : FlatP primTrim := fun args v H0 h H => by
  unfold primTrim at h ⊢
  repeat' split at h
  all_goals first | (cases h; done) | (cases h; simp_all)
theorem flat_IndexByte : FlatP primIndexByte := fun args v H0 h H => by
  unfold primIndexByte at h ⊢
  repeat' split at h
  all_goals first | (cases h; done) | (cases h; simp_all)
theorem flat_Repeat : FlatP primRepeat := fun args v H0 h H => by
  unfold primRepeat at h ⊢
  repeat' split at h
  all_goals first | (cases h; done) | (cases h; simp_all)
noncomputable def fp0 (f : FuncId) : FnK :=
  (Bool.rec (motive := fun _ => FnK) (Bool.rec (motive := fun _ => FnK) (Bool.rec (motive := fun _ => FnK) (Bool.rec (motive := fun _ => FnK) (Bool.rec (motive := fun _ => FnK) (Bool.rec (motive := fun _ => FnK) (Bool.rec (motive := fun _ => FnK) failF (fpJoin) (Nat.beq f 39)) (fpStr 5) (Nat.beq f 38)) (fpCC bt) (Nat.beq f 61)) (flatPF primRepeat) (Nat.beq f 52)) (flatPF primIndexByte) (Nat.beq f 81)) (flatPF primTrim) (Nat.beq f 60)) (flatPF primTrimR) (Nat.beq f 82))
theorem fp0_ok : ∀ f g, prims0.run f = some g → FPrimOk (fp0 f) g := fun f g h => by
  have h : run0 f = some g := h
  unfold run0 at h
  rcases ite_cases h with ⟨e, h⟩ | ⟨_, h⟩
  · cases h; subst e; exact flatPF_ok flat_TrimR
  rcases ite_cases h with ⟨e, h⟩ | ⟨_, h⟩
  · cases h; subst e; exact flatPF_ok flat_Trim
  rcases ite_cases h with ⟨e, h⟩ | ⟨_, h⟩
  · cases h; subst e; exact flatPF_ok flat_IndexByte
  rcases ite_cases h with ⟨e, h⟩ | ⟨_, h⟩
  · cases h; subst e; exact flatPF_ok flat_Repeat
  rcases ite_cases h with ⟨e, h⟩ | ⟨_, h⟩
  · cases h; subst e; exact fpCC_ok bt
  rcases ite_cases h with ⟨e, h⟩ | ⟨_, h⟩
  · cases h; subst e; exact fpStr_ok 5
  rcases ite_cases h with ⟨e, h⟩ | ⟨_, h⟩
  · cases h; subst e; exact fpJoin_ok
  cases h
end Go.Proofs.YtbcenbhdmpljhaaGreatDoor.Ev
