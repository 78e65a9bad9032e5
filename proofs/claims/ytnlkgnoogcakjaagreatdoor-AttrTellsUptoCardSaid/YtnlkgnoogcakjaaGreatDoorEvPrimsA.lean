/-
  The functions of Go's library, and of chapter 5, that are taken by their contracts; the chapter's fixed runs.
-/
import Derived.Test.YtnlkgnoogcakjaaGreatDoorEvPrims0A
import Derived.Test.YtnlkgnoogcakjaaGreatDoorEvA0
namespace Go.Proofs.YtnlkgnoogcakjaaGreatDoor.Ev
set_option linter.unusedVariables false
set_option linter.unusedSimpArgs false
open Go Go.RowKit

theorem eqBytes_sp {c : ByteArray} (h : eqBytes c.data.toList [32, 9] = true) : c = ⟨#[32, 9]⟩ := by
  have := eqBytes_str c ⟨#[32, 9]⟩
  rw [this] at h
  exact of_decide_eq_true h
theorem indexAny_ok : CallOk Tryz.prog (fun f' args H => if f' = 55 then primIndexAny args H else none) := by
  refine prim_ok ⟨_, Tryz.func55, rfl⟩ fun args H v H' h => ?_
  unfold primIndexAny at h
  split at h
  case h_2 => cases h
  rename_i s c
  split at h
  case isFalse => cases h
  rename_i hc
  cases h
  obtain rfl := eqBytes_sp hc.1
  refine ⟨rfl, rfl, rfl, fun w hT => ?_⟩
  by_cases h8 : 8 < s.size
  · refine (Any.strings_IndexAny_long lays153 (fun w => by kernel_rfl) (by kernel_rfl) s ⟨#[32, 9]⟩ w (by decide) h8 hc.2 (by decide) (fun j b hb => ?_)).mono fun e w' ⟨he, hw⟩ => ⟨he, ?_⟩
    · match j, hb with
      | 0, hb => cases hb; decide
      | 1, hb => cases hb; decide
    · rw [hw]
      exact Below.alloc (Below.alloc (Below.refl _ _) (Nat.le_refl _) _) (by show _ ≤ (Array.push _ _).size; rw [Array.size_push]; exact Nat.le_succ _) _
  · refine law_calls progOk mixed prims00_ok (v := .int .i64 (Lib.indexAny s.data.toList [32, 9])) rfl (ixaShort_spec s (by omega) AH.empty _ ?_ WfH.empty) (sim_empty hT) (fun c r δ b h => by cases h) rfl (fun i x y hx hy => ?_)
    · intro H' _
      rw [indexAny_word]
    · rw [List.getElem?_toArray, hx] at hy
      cases hy
      match i, hx with
      | 0, hx => cases hx; exact val_refl rfl
      | 1, hx => cases hx; exact val_refl rfl
theorem key_ok : CallOk Tryz.prog (fun f' args H => if f' = 56 then primKey args H else none) := by
  refine flat_ok progOk mixed prims00_ok ⟨_, Tryz.func56, rfl⟩ fun args H v H' h => ?_
  unfold primKey at h
  split at h
  case h_2 => cases h
  rename_i s
  split at h
  case isFalse => cases h
  rename_i hc
  cases h
  refine ⟨rfl, rfl, rfl, key0_spec s hc AH.empty _ (fun H' b _ hb => ?_) WfH.empty⟩
  congr 1
  rw [Bool.eq_iff_iff, hb, keyB_iff]
theorem bare_ok : CallOk Tryz.prog (fun f' args H => if f' = 42 then primBare args H else none) := by
  refine flat_ok progOk mixed prims00_ok ⟨_, Tryz.func42, rfl⟩ fun args H v H' h => ?_
  unfold primBare at h
  split at h
  case h_2 => cases h
  rename_i s
  split at h
  case isFalse => cases h
  rename_i hc
  cases h
  refine ⟨rfl, rfl, rfl, bare0_spec s hc AH.empty _ (fun H' b _ hb => ?_) WfH.empty⟩
  congr 1
  rw [Bool.eq_iff_iff, hb, bareB_iff]
theorem primIndexAny_h : ∀ args H v H', primIndexAny args H = some (v, H') → StepH H H' := same_h fun args H v H' h => by
  unfold primIndexAny at h
  repeat' split at h
  all_goals first | (cases h; done) | (cases h; rfl)
theorem primKey_h : ∀ args H v H', primKey args H = some (v, H') → StepH H H' := same_h fun args H v H' h => by
  unfold primKey at h
  repeat' split at h
  all_goals first | (cases h; done) | (cases h; rfl)
theorem primBare_h : ∀ args H v H', primBare args H = some (v, H') → StepH H H' := same_h fun args H v H' h => by
  unfold primBare at h
  repeat' split at h
  all_goals first | (cases h; done) | (cases h; rfl)
theorem flat0_ok (run : FuncId → Option PrimF) (hr : ∀ f, f = 56 ∨ f = 42 → run f = run0 f) : ∀ f, flat0 f = true → ∃ g0 : List Value → Option Value, ∃ g, run f = some g ∧ ∀ call args H, g call args H = (g0 args).map (·, H) := by
  intro f h
  unfold flat0 at h
  rw [Bool.or_eq_true] at h
  rcases h with h | h
  · obtain rfl := Nat.eq_of_beq_eq_true h
    refine ⟨fun args => (primKey args AH.empty).map (·.1), fun _ => primKey, (hr _ (.inl rfl)).trans rfl, fun call args H => ?_⟩
    show primKey args H = Option.map (·, H) ((primKey args AH.empty).map (·.1))
    unfold primKey
    split
    · split <;> rfl
    · rfl
  · obtain rfl := Nat.eq_of_beq_eq_true h
    refine ⟨fun args => (primBare args AH.empty).map (·.1), fun _ => primBare, (hr _ (.inr rfl)).trans rfl, fun call args H => ?_⟩
    show primBare args H = Option.map (·, H) ((primBare args AH.empty).map (·.1))
    unfold primBare
    split
    · split <;> rfl
    · rfl
theorem prims0_ok : PrimsOk Tryz.prog prims0 := by
  refine ⟨fun f g h => ?_, fun f g h => ?_, flat0_ok run0 fun f _ => rfl⟩
  · replace h : run0 f = some g := h
    unfold run0 at h
    split at h
    · rename_i e; cases h; subst e; exact fun _ _ _ => indexAny_ok
    split at h
    · rename_i e; cases h; subst e; exact fun _ hc _ => replace_ok hc
    split at h
    · rename_i e; cases h; subst e; exact fun _ _ _ => key_ok
    split at h
    · rename_i e; cases h; subst e; exact fun _ _ _ => bare_ok
    exact prims00_ok.ok f g h
  · replace h : run0 f = some g := h
    unfold run0 at h
    split at h
    · rename_i e; cases h; exact fun _ _ => primIndexAny_h
    split at h
    · rename_i e; cases h; exact primReplace_h
    split at h
    · rename_i e; cases h; exact fun _ _ => primKey_h
    split at h
    · rename_i e; cases h; exact fun _ _ => primBare_h
    exact prims00_ok.h f g h
theorem prims0_up : PrimsUp prims0 := by
  intro f g h c c' hc a H r hr
  replace h : run0 f = some g := h
  unfold run0 at h
  split at h
  · cases h; exact hr
  split at h
  · cases h; exact primReplace_up c c' hc a H r hr
  split at h
  · cases h; exact hr
  split at h
  · cases h; exact hr
  unfold run00 at h
  repeat' split at h
  all_goals first | (cases h; done) | (cases h; exact hr)
/-- THE CHAPTER's FIXED RUNS, reckoned. -/
theorem known_fast : boolOf (evFnF Tryz.prog prims0 60 9 [] AH.empty) = true := by kernel_rfl
theorem known_run : (evFn Tryz.prog prims0 60 9 [] AH.empty).map Prod.fst = some (.bool true) := run_of_fast prims0_up known_fast
end Go.Proofs.YtnlkgnoogcakjaaGreatDoor.Ev
