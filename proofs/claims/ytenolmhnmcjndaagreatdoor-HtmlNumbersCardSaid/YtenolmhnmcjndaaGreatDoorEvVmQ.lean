/-
  Functions of Go's library that are taken by their contracts, as the machine has them.
-/
import Derived.Test.YtenolmhnmcjndaaGreatDoorEvVmM
import Derived.Test.YtenolmhnmcjndaaGreatDoorEvPrimD
import Derived.Test.YtenolmhnmcjndaaGreatDoorEvVmS
import Derived.Test.YtenolmhnmcjndaaGreatDoorEvProg
import Derived.KernelRfl
namespace Go.Proofs.YtenolmhnmcjndaaGreatDoor.Ev
set_option linter.unusedVariables false
set_option linter.unusedSimpArgs false
open Go
theorem flat_TrimL : FlatP primTrimL := fun args v H0 h H => by
  unfold primTrimL at h ⊢
  repeat' split at h
  all_goals first | (cases h; done) | (cases h; simp_all)
theorem flat_Trim : FlatP primTrim := fun args v H0 h H => by
  unfold primTrim at h ⊢
  repeat' split at h
  all_goals first | (cases h; done) | (cases h; simp_all)
theorem flat_TrimR : FlatP primTrimR := fun args v H0 h H => by
  unfold primTrimR at h ⊢
  repeat' split at h
  all_goals first | (cases h; done) | (cases h; simp_all)
theorem flat_Valid : FlatP primValid := fun args v H0 h H => by
  unfold primValid at h ⊢
  repeat' split at h
  all_goals first | (cases h; done) | (cases h; simp_all)
theorem flat_IndexByte : FlatP primIndexByte := fun args v H0 h H => by
  unfold primIndexByte at h ⊢
  repeat' split at h
  all_goals first | (cases h; done) | (cases h; simp_all)
theorem flat_Last : FlatP primLast := fun args v H0 h H => by
  unfold primLast at h ⊢
  repeat' split at h
  all_goals first | (cases h; done) | (cases h; simp_all)
theorem flat_Index1 : FlatP primIndex1 := fun args v H0 h H => by
  unfold primIndex1 at h ⊢
  repeat' split at h
  all_goals first | (cases h; done) | (cases h; simp_all)
theorem flat_Count : FlatP primCount := fun args v H0 h H => by
  unfold primCount at h ⊢
  repeat' split at h
  all_goals first | (cases h; done) | (cases h; simp_all)
theorem flat_IndexAny : FlatP primIndexAny := fun args v H0 h H => by
  unfold primIndexAny at h ⊢
  repeat' split at h
  all_goals first | (cases h; done) | (cases h; simp_all)
theorem flat_Repeat : FlatP primRepeat := fun args v H0 h H => by
  unfold primRepeat at h ⊢
  repeat' split at h
  all_goals first | (cases h; done) | (cases h; simp_all)
theorem flat_Itoa : FlatP primItoa := fun args v H0 h H => by
  unfold primItoa at h ⊢
  repeat' split at h
  all_goals first | (cases h; done) | (cases h; simp_all)
def tabF : FT := [(329, []), (330, []), (137, [])]
theorem tabF_ok : TabOk Tryz.prog (fun _ => false) tabF := tabOk_all fun p hp => List.all_eq_true.1 (show tabF.all (fun p => chkFn Tryz.prog (fun _ => false) p.1 p.2) = true by kernel_rfl) p hp
noncomputable def fp0 (f : FuncId) : FnK :=
  (Bool.rec (motive := fun _ => FnK) (Bool.rec (motive := fun _ => FnK) (Bool.rec (motive := fun _ => FnK) (Bool.rec (motive := fun _ => FnK) (Bool.rec (motive := fun _ => FnK) (Bool.rec (motive := fun _ => FnK) (Bool.rec (motive := fun _ => FnK) (Bool.rec (motive := fun _ => FnK) (Bool.rec (motive := fun _ => FnK) (Bool.rec (motive := fun _ => FnK) (Bool.rec (motive := fun _ => FnK) (Bool.rec (motive := fun _ => FnK) (Bool.rec (motive := fun _ => FnK) (Bool.rec (motive := fun _ => FnK) (Bool.rec (motive := fun _ => FnK) (Bool.rec (motive := fun _ => FnK) failF (fpFlat Tryz.prog tabF 330) (Nat.beq f 330)) (fpFlat Tryz.prog tabF 329) (Nat.beq f 329)) (fpJoin) (Nat.beq f 148)) (fpStr 5) (Nat.beq f 61)) (fpCC bt) (Nat.beq f 104)) (flatPF primItoa) (Nat.beq f 52)) (flatPF primRepeat) (Nat.beq f 205)) (flatPF primIndexAny) (Nat.beq f 328)) (flatPF primCount) (Nat.beq f 175)) (flatPF primIndex1) (Nat.beq f 249)) (flatPF primLast) (Nat.beq f 198)) (flatPF primIndexByte) (Nat.beq f 93)) (flatPF primValid) (Nat.beq f 134)) (flatPF primTrimR) (Nat.beq f 288)) (flatPF primTrim) (Nat.beq f 114)) (flatPF primTrimL) (Nat.beq f 269))
theorem fp0_ok : ∀ f g, prims0.run f = some g → FPrimOk (fp0 f) g := fun f g h => by
  have h : run0 f = some g := h
  unfold run0 at h
  rcases ite_cases h with ⟨e, h⟩ | ⟨_, h⟩
  · cases h; subst e; exact flatPF_ok flat_TrimL
  rcases ite_cases h with ⟨e, h⟩ | ⟨_, h⟩
  · cases h; subst e; exact flatPF_ok flat_Trim
  rcases ite_cases h with ⟨e, h⟩ | ⟨_, h⟩
  · cases h; subst e; exact flatPF_ok flat_TrimR
  rcases ite_cases h with ⟨e, h⟩ | ⟨_, h⟩
  · cases h; subst e; exact flatPF_ok flat_Valid
  rcases ite_cases h with ⟨e, h⟩ | ⟨_, h⟩
  · cases h; subst e; exact flatPF_ok flat_IndexByte
  rcases ite_cases h with ⟨e, h⟩ | ⟨_, h⟩
  · cases h; subst e; exact flatPF_ok flat_Last
  rcases ite_cases h with ⟨e, h⟩ | ⟨_, h⟩
  · cases h; subst e; exact flatPF_ok flat_Index1
  rcases ite_cases h with ⟨e, h⟩ | ⟨_, h⟩
  · cases h; subst e; exact flatPF_ok flat_Count
  rcases ite_cases h with ⟨e, h⟩ | ⟨_, h⟩
  · cases h; subst e; exact flatPF_ok flat_IndexAny
  rcases ite_cases h with ⟨e, h⟩ | ⟨_, h⟩
  · cases h; subst e; exact flatPF_ok flat_Repeat
  rcases ite_cases h with ⟨e, h⟩ | ⟨_, h⟩
  · cases h; subst e; exact flatPF_ok flat_Itoa
  rcases ite_cases h with ⟨e, h⟩ | ⟨_, h⟩
  · cases h; subst e; exact fpCC_ok bt
  rcases ite_cases h with ⟨e, h⟩ | ⟨_, h⟩
  · cases h; subst e; exact fpStr_ok 5
  rcases ite_cases h with ⟨e, h⟩ | ⟨_, h⟩
  · cases h; subst e; exact fpJoin_ok
  rcases ite_cases h with ⟨e, h⟩ | ⟨_, h⟩
  · cases h; subst e; exact fpFlat_ok tabF_ok
  rcases ite_cases h with ⟨e, h⟩ | ⟨_, h⟩
  · cases h; subst e; exact fpFlat_ok tabF_ok
  cases h
end Go.Proofs.YtenolmhnmcjndaaGreatDoor.Ev
