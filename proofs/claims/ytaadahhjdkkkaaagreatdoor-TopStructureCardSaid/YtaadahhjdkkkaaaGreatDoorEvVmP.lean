/-
  Functions told of by hand, as the machine has them: those that leave the heap alone.
-/
import Derived.Test.YtaadahhjdkkkaaaGreatDoorEvVmM
namespace Go.Proofs.YtaadahhjdkkkaaaGreatDoor.Ev
set_option linter.unusedVariables false
set_option linter.unusedSimpArgs false
open Go
/-- What a function gives does not hang on the heap. -/
def FlatP (g : List Value → AH → Option (Value × AH)) : Prop := ∀ args v H0, g args AH.empty = some (v, H0) → ∀ H, g args H = some (v, H)
noncomputable def flatPF (g : List Value → AH → Option (Value × AH)) : FnK :=
  ⟨fun _ _ args k F => Option.rec (motive := fun _ => Bool) false (fun p => convK (fun v => k v F) p.1) (g (FV.vals args) AH.empty)⟩
theorem flatPF_ok {g : List Value → AH → Option (Value × AH)} (hg : FlatP g) : FPrimOk (flatPF g) (fun _ => g) := fun call ca N args k F H _ hH h => by
  have h : Option.rec (motive := fun _ => Bool) false (fun p => convK (fun v => k v F) p.1) (g (FV.vals args) AH.empty) = true := h
  cases hr : g (FV.vals args) AH.empty with
  | none => rw [hr] at h; cases h
  | some p =>
    obtain ⟨v, H0⟩ := p
    rw [hr] at h
    obtain ⟨f, hf, h2⟩ := convK_ok (show convK (fun v => k v F) v = true from h)
    subst hf
    exact ⟨f, F, H, hg _ _ _ hr H, hH, h2⟩
end Go.Proofs.YtaadahhjdkkkaaaGreatDoor.Ev
