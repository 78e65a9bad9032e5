/-
  The functions of Go's library that chapter 16 takes by their contracts: that they are so.
-/
import Derived.Test.YtiejkijgpceohaaGreatDoorEvLaw
import Derived.Test.YtiejkijgpceohaaGreatDoorEvProg
import Derived.Test.YtiejkijgpceohaaGreatDoorEvLays
import Derived.Test.YtiejkijgpceohaaGreatDoorEvPrimD
import Derived.WalkKit
namespace Go.Proofs.YtiejkijgpceohaaGreatDoor.Ev
set_option linter.unusedVariables false
set_option linter.unusedSimpArgs false
open Go Go.RowKit

theorem asciiB_iff {c : ByteArray} (h : asciiB c = true) : c.size < 4294967281 ∧ ∀ (j : Nat) b, c.data.toList[j]? = some b → b.toNat < 128 := by
  unfold asciiB at h
  rw [Bool.and_eq_true] at h
  exact ⟨of_decide_eq_true h.2, fun j b hb => of_decide_eq_true (List.all_eq_true.1 h.1 b (List.mem_of_getElem? hb))⟩
theorem trimL_ok : CallOk Tryz.prog (fun f' args H => if f' = 60 then primTrimL args H else none) := by
  refine prim_ok ⟨_, Tryz.func60, rfl⟩ fun args H v H' h => ?_
  unfold primTrimL at h
  split at h
  case h_2 => cases h
  rename_i s c
  split at h
  case isFalse => cases h
  rename_i hc
  cases h
  exact ⟨rfl, rfl, rfl, fun w _ => Any.strings_TrimLeft_laid lays161 (by kernel_rfl) s c w (asciiB_iff hc).1 (asciiB_iff hc).2⟩
theorem valid_ok : CallOk Tryz.prog (fun f' args H => if f' = 91 then primValid args H else none) := by
  refine prim_ok ⟨_, Tryz.func91, rfl⟩ fun args H v H' h => ?_
  unfold primValid at h
  split at h
  case h_2 => cases h
  rename_i s
  split at h
  case isFalse => cases h
  rename_i hc
  cases h
  exact ⟨rfl, rfl, rfl, fun w hT => Any.utf8_ValidString lays196 s w hc hT⟩
theorem indexByte_ok : CallOk Tryz.prog (fun f' args H => if f' = 92 then primIndexByte args H else none) := by
  refine prim_ok ⟨_, Tryz.func92, rfl⟩ fun args H v H' h => ?_
  unfold primIndexByte at h
  split at h
  case h_2 => cases h
  rename_i s c
  cases h
  exact ⟨rfl, rfl, rfl, fun w _ => (Any.strings_IndexByte lays137 s c w).mono fun e w' ⟨he, hw⟩ => ⟨he, hw ▸ Below.refl _ _⟩⟩
theorem last_ok : CallOk Tryz.prog (fun f' args H => if f' = 112 then primLast args H else none) := by
  refine prim_ok ⟨_, Tryz.func112, rfl⟩ fun args H v H' h => ?_
  unfold primLast at h
  split at h
  case h_2 => cases h
  rename_i s
  split at h
  case isFalse => cases h
  rename_i hc
  cases h
  exact ⟨rfl, rfl, rfl, fun w hT => Any.utf8_DecodeLastRuneInString lays271 s w hc hT⟩

theorem same_h {g : List Value → AH → Option (Value × AH)} (h : ∀ args H v H', g args H = some (v, H') → H' = H) : ∀ args H v H', g args H = some (v, H') → StepH H H' := fun args H v H' e => by
  obtain rfl := h args H v H' e
  exact StepH.refl
theorem primTrimL_h : ∀ args H v H', primTrimL args H = some (v, H') → StepH H H' := same_h fun args H v H' h => by
  unfold primTrimL at h
  repeat' split at h
  all_goals cases h
  all_goals rfl
theorem primValid_h : ∀ args H v H', primValid args H = some (v, H') → StepH H H' := same_h fun args H v H' h => by
  unfold primValid at h
  repeat' split at h
  all_goals cases h
  all_goals rfl
theorem primIndexByte_h : ∀ args H v H', primIndexByte args H = some (v, H') → StepH H H' := same_h fun args H v H' h => by
  unfold primIndexByte at h
  repeat' split at h
  all_goals cases h
  all_goals rfl
theorem primLast_h : ∀ args H v H', primLast args H = some (v, H') → StepH H H' := same_h fun args H v H' h => by
  unfold primLast at h
  repeat' split at h
  all_goals cases h
  all_goals rfl
theorem prims0_ok : PrimsOk Tryz.prog prims0 := by
  refine ⟨fun f g h => ?_, fun f g h => ?_, fun f h => by cases h⟩
  · replace h : run0 f = some g := h
    unfold run0 at h
    split at h
    · rename_i e; cases h; subst e; exact fun _ _ _ => trimL_ok
    split at h
    · rename_i e; cases h; subst e; exact fun _ _ _ => valid_ok
    split at h
    · rename_i e; cases h; subst e; exact fun _ _ _ => indexByte_ok
    split at h
    · rename_i e; cases h; subst e; exact fun _ _ _ => last_ok
    cases h
  · replace h : run0 f = some g := h
    unfold run0 at h
    split at h
    · rename_i e; cases h; exact fun _ _ => primTrimL_h
    split at h
    · rename_i e; cases h; exact fun _ _ => primValid_h
    split at h
    · rename_i e; cases h; exact fun _ _ => primIndexByte_h
    split at h
    · rename_i e; cases h; exact fun _ _ => primLast_h
    cases h
end Go.Proofs.YtiejkijgpceohaaGreatDoor.Ev
