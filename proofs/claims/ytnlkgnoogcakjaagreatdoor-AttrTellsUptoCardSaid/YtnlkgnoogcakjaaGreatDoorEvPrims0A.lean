/-
  The functions of Go's library that chapter 5 takes by their contracts: the first of them.
-/
import Derived.Test.YtnlkgnoogcakjaaGreatDoorEvLaw
import Derived.Test.YtnlkgnoogcakjaaGreatDoorEvProg
import Derived.Test.YtnlkgnoogcakjaaGreatDoorEvLays
import Derived.Test.YtnlkgnoogcakjaaGreatDoorEvPrimD
import Derived.Test.YtnlkgnoogcakjaaGreatDoorEvFast
import Derived.WalkKit
namespace Go.Proofs.YtnlkgnoogcakjaaGreatDoor.Ev
set_option linter.unusedVariables false
set_option linter.unusedSimpArgs false
open Go Go.RowKit

theorem asciiB_iff {c : ByteArray} (h : asciiB c = true) : c.size < 4294967281 ∧ ∀ (j : Nat) b, c.data.toList[j]? = some b → b.toNat < 128 := by
  unfold asciiB at h
  rw [Bool.and_eq_true] at h
  exact ⟨of_decide_eq_true h.2, fun j b hb => of_decide_eq_true (List.all_eq_true.1 h.1 b (List.mem_of_getElem? hb))⟩
theorem trimL_ok : CallOk Tryz.prog (fun f' args H => if f' = 21 then primTrimL args H else none) := by
  refine prim_ok ⟨_, Tryz.func21, rfl⟩ fun args H v H' h => ?_
  unfold primTrimL at h
  split at h
  case h_2 => cases h
  rename_i s c
  split at h
  case isFalse => cases h
  rename_i hc
  cases h
  exact ⟨rfl, rfl, rfl, fun w _ => Any.strings_TrimLeft_laid lays161 (by kernel_rfl) s c w (asciiB_iff hc).1 (asciiB_iff hc).2⟩
theorem valid_ok : CallOk Tryz.prog (fun f' args H => if f' = 25 then primValid args H else none) := by
  refine prim_ok ⟨_, Tryz.func25, rfl⟩ fun args H v H' h => ?_
  unfold primValid at h
  split at h
  case h_2 => cases h
  rename_i s
  split at h
  case isFalse => cases h
  rename_i hc
  cases h
  exact ⟨rfl, rfl, rfl, fun w hT => Any.utf8_ValidString lays196 s w hc hT⟩
theorem indexByte_ok : CallOk Tryz.prog (fun f' args H => if f' = 26 then primIndexByte args H else none) := by
  refine prim_ok ⟨_, Tryz.func26, rfl⟩ fun args H v H' h => ?_
  unfold primIndexByte at h
  split at h
  case h_2 => cases h
  rename_i s c
  cases h
  exact ⟨rfl, rfl, rfl, fun w _ => (Any.strings_IndexByte lays137 s c w).mono fun e w' ⟨he, hw⟩ => ⟨he, hw ▸ Below.refl _ _⟩⟩
theorem last_ok : CallOk Tryz.prog (fun f' args H => if f' = 54 then primLast args H else none) := by
  refine prim_ok ⟨_, Tryz.func54, rfl⟩ fun args H v H' h => ?_
  unfold primLast at h
  split at h
  case h_2 => cases h
  rename_i s
  split at h
  case isFalse => cases h
  rename_i hc
  cases h
  exact ⟨rfl, rfl, rfl, fun w hT => Any.utf8_DecodeLastRuneInString lays271 s w hc hT⟩

theorem count_ok : CallOk Tryz.prog (fun f' args H => if f' = 139 then primCount args H else none) := by
  refine prim_ok ⟨_, Tryz.func139, rfl⟩ fun args H v H' h => ?_
  unfold primCount at h
  split at h
  case h_2 => cases h
  rename_i s p
  split at h
  case isFalse => cases h
  rename_i hc
  cases h
  obtain ⟨c, rfl⟩ : ∃ c, p = ⟨#[c]⟩ := by
    obtain ⟨⟨l⟩⟩ := p
    match l, hc with
    | [c], _ => exact ⟨c, rfl⟩
  exact ⟨rfl, rfl, rfl, fun w _ => (Any.strings_Count_one lays138 s c w).mono fun e w' ⟨he, hw⟩ => ⟨he, hw ▸ Below.refl _ _⟩⟩
theorem same_h {g : List Value → AH → Option (Value × AH)} (h : ∀ args H v H', g args H = some (v, H') → H' = H) : ∀ args H v H', g args H = some (v, H') → StepH H H' := fun args H v H' e => by
  obtain rfl := h args H v H' e
  exact StepH.refl
theorem primTrimL_h : ∀ args H v H', primTrimL args H = some (v, H') → StepH H H' := same_h fun args H v H' h => by
  unfold primTrimL at h
  repeat' split at h
  all_goals cases h
  all_goals rfl
theorem primValid_h : ∀ args H v H', primValid args H = some (v, H') → StepH H H' := same_h fun args H v H' h => by
  unfold primValid at h
  repeat' split at h
  all_goals cases h
  all_goals rfl
theorem primIndexByte_h : ∀ args H v H', primIndexByte args H = some (v, H') → StepH H H' := same_h fun args H v H' h => by
  unfold primIndexByte at h
  repeat' split at h
  all_goals cases h
  all_goals rfl
theorem primLast_h : ∀ args H v H', primLast args H = some (v, H') → StepH H H' := same_h fun args H v H' h => by
  unfold primLast at h
  repeat' split at h
  all_goals cases h
  all_goals rfl
theorem primCount_h : ∀ args H v H', primCount args H = some (v, H') → StepH H H' := same_h fun args H v H' h => by
  unfold primCount at h
  repeat' split at h
  all_goals first | (cases h; done) | (cases h; rfl)
theorem prims00_ok : PrimsOk Tryz.prog prims00 := by
  refine ⟨fun f g h => ?_, fun f g h => ?_, fun f h => by cases h⟩
  · replace h : run00 f = some g := h
    unfold run00 at h
    split at h
    · rename_i e; cases h; subst e; exact fun _ _ _ => trimL_ok
    split at h
    · rename_i e; cases h; subst e; exact fun _ _ _ => valid_ok
    split at h
    · rename_i e; cases h; subst e; exact fun _ _ _ => indexByte_ok
    split at h
    · rename_i e; cases h; subst e; exact fun _ _ _ => last_ok
    split at h
    · rename_i e; cases h; subst e; exact fun _ _ _ => count_ok
    cases h
  · replace h : run00 f = some g := h
    unfold run00 at h
    split at h
    · rename_i e; cases h; exact fun _ _ => primTrimL_h
    split at h
    · rename_i e; cases h; exact fun _ _ => primValid_h
    split at h
    · rename_i e; cases h; exact fun _ _ => primIndexByte_h
    split at h
    · rename_i e; cases h; exact fun _ _ => primLast_h
    split at h
    · rename_i e; cases h; exact fun _ _ => primCount_h
    cases h
end Go.Proofs.YtnlkgnoogcakjaaGreatDoor.Ev
