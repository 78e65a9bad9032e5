/-
  Functions of Go's library that are taken by their contracts: that they are so.
-/
import Derived.Test.YtfmnhifcjccjoaaGreatDoorEvLaw
import Derived.Test.YtfmnhifcjccjoaaGreatDoorEvProg
import Derived.Test.YtfmnhifcjccjoaaGreatDoorEvLays
import Derived.Test.YtfmnhifcjccjoaaGreatDoorEvPrimD
import Derived.WalkKit
import Derived.Lib.AppendIntMem
namespace Go.Proofs.YtfmnhifcjccjoaaGreatDoor.Ev
set_option linter.unusedVariables false
set_option linter.unusedSimpArgs false
open Go Go.RowKit

theorem asciiB_iff {c : ByteArray} (h : asciiB c = true) : c.size < 4294967281 ∧ ∀ (j : Nat) b, c.data.toList[j]? = some b → b.toNat < 128 := by
  unfold asciiB at h
  rw [Bool.and_eq_true] at h
  exact ⟨of_decide_eq_true h.2, fun j b hb => of_decide_eq_true (List.all_eq_true.1 h.1 b (List.mem_of_getElem? hb))⟩
theorem tabIs {w : World} (hT : Tabs w) : Lib.TabIs Tryz.prog w "internal/strconv.uint64pow10" .u64 Lib.pow10Tab := by
  obtain ⟨e, fr, hp⟩ := hT.pow
  unfold Lib.TabIs World.var?
  have hg : Tryz.prog.globalNamed "internal/strconv.uint64pow10" = some 3 := by kernel_rfl
  rw [hg]
  show (match w.heap[(3 : Nat)]? with | some (.cells cs _ _) => some cs | _ => none) = _
  rw [hp]
theorem TrimL_ok : CallOk Tryz.prog (fun f' args H => if f' = 98 then primTrimL args H else none) := by
  refine prim_ok ⟨_, Tryz.func98, rfl⟩ fun args H v H' h => ?_
  unfold primTrimL at h
  split at h
  case h_2 => cases h
  rename_i s c
  split at h
  case isFalse => cases h
  rename_i hc
  cases h
  exact ⟨rfl, rfl, rfl, fun w _ => Any.strings_TrimLeft_laid lays161 (by kernel_rfl) s c w (asciiB_iff hc).1 (asciiB_iff hc).2⟩
theorem Trim_ok : CallOk Tryz.prog (fun f' args H => if f' = 128 then primTrim args H else none) := by
  refine prim_ok ⟨_, Tryz.func128, rfl⟩ fun args H v H' h => ?_
  unfold primTrim at h
  split at h
  case h_2 => cases h
  rename_i s c
  split at h
  case isFalse => cases h
  rename_i hc
  cases h
  exact ⟨rfl, rfl, rfl, fun w _ => Any.strings_Trim_laid lays160 (by kernel_rfl) s c w hc.2 (asciiB_iff hc.1).1 (asciiB_iff hc.1).2⟩
theorem Valid_ok : CallOk Tryz.prog (fun f' args H => if f' = 134 then primValid args H else none) := by
  refine prim_ok ⟨_, Tryz.func134, rfl⟩ fun args H v H' h => ?_
  unfold primValid at h
  split at h
  case h_2 => cases h
  rename_i s
  split at h
  case isFalse => cases h
  rename_i hc
  cases h
  exact ⟨rfl, rfl, rfl, fun w hT => Any.utf8_ValidString lays196 s w hc hT.u8⟩
theorem IndexByte_ok : CallOk Tryz.prog (fun f' args H => if f' = 130 then primIndexByte args H else none) := by
  refine prim_ok ⟨_, Tryz.func130, rfl⟩ fun args H v H' h => ?_
  unfold primIndexByte at h
  split at h
  case h_2 => cases h
  rename_i s c
  cases h
  exact ⟨rfl, rfl, rfl, fun w _ => (Any.strings_IndexByte lays137 s c w).mono fun e w' ⟨he, hw⟩ => ⟨he, hw ▸ Below.refl _ _⟩⟩
theorem Last_ok : CallOk Tryz.prog (fun f' args H => if f' = 149 then primLast args H else none) := by
  refine prim_ok ⟨_, Tryz.func149, rfl⟩ fun args H v H' h => ?_
  unfold primLast at h
  split at h
  case h_2 => cases h
  rename_i s
  split at h
  case isFalse => cases h
  rename_i hc
  cases h
  exact ⟨rfl, rfl, rfl, fun w hT => Any.utf8_DecodeLastRuneInString lays271 s w hc hT.u8⟩
theorem Itoa_ok : CallOk Tryz.prog (fun f' args H => if f' = 116 then primItoa args H else none) := by
  refine prim_ok ⟨_, Tryz.func116, rfl⟩ fun args H v H' h => ?_
  unfold primItoa at h
  split at h
  case h_2 => cases h
  rename_i n
  split at h
  case isFalse => cases h
  rename_i hc
  cases h
  exact ⟨rfl, rfl, rfl, fun w hT => (Any.strconv_Itoa lays171 n hc.1 hc.2 w (tabIs hT)).mono fun e w' ⟨he, k, os, hw⟩ => ⟨he, hw ▸ Go.Lib.below_grow _ w (Nat.le_refl _) k os⟩⟩
theorem same_h {g : List Value → AH → Option (Value × AH)} (h : ∀ args H v H', g args H = some (v, H') → H' = H) : ∀ args H v H', g args H = some (v, H') → StepH H H' := fun args H v H' e => by
  obtain rfl := h args H v H' e
  exact StepH.refl
theorem primTrimL_h : ∀ args H v H', primTrimL args H = some (v, H') → StepH H H' := same_h fun args H v H' h => by
  unfold primTrimL at h
  repeat' split at h
  all_goals cases h
  all_goals rfl
theorem primTrim_h : ∀ args H v H', primTrim args H = some (v, H') → StepH H H' := same_h fun args H v H' h => by
  unfold primTrim at h
  repeat' split at h
  all_goals cases h
  all_goals rfl
theorem primValid_h : ∀ args H v H', primValid args H = some (v, H') → StepH H H' := same_h fun args H v H' h => by
  unfold primValid at h
  repeat' split at h
  all_goals cases h
  all_goals rfl
theorem primIndexByte_h : ∀ args H v H', primIndexByte args H = some (v, H') → StepH H H' := same_h fun args H v H' h => by
  unfold primIndexByte at h
  repeat' split at h
  all_goals cases h
  all_goals rfl
theorem primLast_h : ∀ args H v H', primLast args H = some (v, H') → StepH H H' := same_h fun args H v H' h => by
  unfold primLast at h
  repeat' split at h
  all_goals cases h
  all_goals rfl
theorem primItoa_h : ∀ args H v H', primItoa args H = some (v, H') → StepH H H' := same_h fun args H v H' h => by
  unfold primItoa at h
  repeat' split at h
  all_goals cases h
  all_goals rfl
theorem prims0_ok : PrimsOk Tryz.prog prims0 := by
  refine ⟨fun f g h => ?_, fun f g h => ?_, fun f h => by cases h⟩
  · replace h : run0 f = some g := h
    unfold run0 at h
    split at h
    · rename_i e; cases h; subst e; exact fun _ _ _ => TrimL_ok
    split at h
    · rename_i e; cases h; subst e; exact fun _ _ _ => Trim_ok
    split at h
    · rename_i e; cases h; subst e; exact fun _ _ _ => Valid_ok
    split at h
    · rename_i e; cases h; subst e; exact fun _ _ _ => IndexByte_ok
    split at h
    · rename_i e; cases h; subst e; exact fun _ _ _ => Last_ok
    split at h
    · rename_i e; cases h; subst e; exact fun _ _ _ => Itoa_ok
    cases h
  · replace h : run0 f = some g := h
    unfold run0 at h
    split at h
    · rename_i e; cases h; exact fun _ _ => primTrimL_h
    split at h
    · rename_i e; cases h; exact fun _ _ => primTrim_h
    split at h
    · rename_i e; cases h; exact fun _ _ => primValid_h
    split at h
    · rename_i e; cases h; exact fun _ _ => primIndexByte_h
    split at h
    · rename_i e; cases h; exact fun _ _ => primLast_h
    split at h
    · rename_i e; cases h; exact fun _ _ => primItoa_h
    cases h
end Go.Proofs.YtfmnhifcjccjoaaGreatDoor.Ev
