/-
  The functions that are taken by their contracts, all of them: Go's library's, some of chapter 5's, its fixed runs.
-/
import Derived.Test.YtnlkgnoogcakjaaGreatDoorEvA8
namespace Go.Proofs.YtnlkgnoogcakjaaGreatDoor.Ev
set_option linter.unusedVariables false
set_option linter.unusedSimpArgs false
open Go Go.RowKit
theorem primClosed_h (x : Value) : ∀ args H v H', primClosed x args H = some (v, H') → StepH H H' := same_h fun args H v H' h => by
  unfold primClosed at h
  split at h <;> cases h
  rfl
theorem primText_h : ∀ args H v H', primText args H = some (v, H') → StepH H H' := same_h fun args H v H' h => by
  unfold primText at h
  repeat' split at h
  all_goals first | (cases h; done) | (cases h; rfl)
theorem text_ok : CallOk Tryz.prog (fun f' args H => if f' = 20 then primText args H else none) := by
  refine flat_ok progOk mixed prims0_ok ⟨_, Tryz.func20, rfl⟩ fun args H v H' h => ?_
  unfold primText at h
  split at h
  case h_2 => cases h
  rename_i k s
  split at h
  case isFalse => cases h
  rename_i hc
  cases h
  exact ⟨rfl, rfl, rfl, text0_spec k s hc.1 hc.2 _ (fun _ => rfl)⟩
theorem prims_ok : PrimsOk Tryz.prog prims := by
  refine ⟨fun f g h => ?_, fun f g h => ?_, flat0_ok runs fun f hf => ?_⟩
  · replace h : runs f = some g := h
    unfold runs at h
    split at h
    · rename_i e; cases h; subst e
      exact fun _ _ _ => closed_ok progOk mixed prims0_ok ⟨_, Tryz.func9, rfl⟩ rfl known_run
    split at h
    · rename_i e; cases h; subst e; exact fun _ _ _ => text_ok
    · exact prims0_ok.ok f g h
  · replace h : runs f = some g := h
    unfold runs at h
    split at h
    · rename_i e; cases h; exact fun _ _ => primClosed_h _
    split at h
    · rename_i e; cases h; exact fun _ _ => primText_h
    · exact prims0_ok.h f g h
  · unfold runs
    rcases hf with rfl | rfl <;> rfl
end Go.Proofs.YtnlkgnoogcakjaaGreatDoor.Ev
