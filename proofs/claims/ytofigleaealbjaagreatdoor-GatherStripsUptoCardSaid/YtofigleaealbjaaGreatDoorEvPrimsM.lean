/-
  The functions of Go's library that chapter 17 takes by their contracts; the chapter's fixed runs.
-/
import Derived.Test.YtofigleaealbjaaGreatDoorEvLaw
import Derived.Test.YtofigleaealbjaaGreatDoorEvProg
import Derived.Test.YtofigleaealbjaaGreatDoorEvLays
import Derived.Test.YtofigleaealbjaaGreatDoorEvPrimD
import Derived.Test.YtofigleaealbjaaGreatDoorEvFast
import Derived.WalkKit
import Derived.Lib.AppendIntMem
namespace Go.Proofs.YtofigleaealbjaaGreatDoor.Ev
open Go Go.RowKit

theorem asciiB_iff {c : ByteArray} (h : asciiB c = true) : c.size < 4294967281 ∧ ∀ (j : Nat) b, c.data.toList[j]? = some b → b.toNat < 128 := by
  unfold asciiB at h
  rw [Bool.and_eq_true] at h
  exact ⟨of_decide_eq_true h.2, fun j b hb => of_decide_eq_true (List.all_eq_true.1 h.1 b (List.mem_of_getElem? hb))⟩
theorem trimL_ok : CallOk Tryz.prog (fun f' args H => if f' = 26 then primTrimL args H else none) := by
  refine prim_ok ⟨_, Tryz.func26, rfl⟩ fun args H v H' h => ?_
  unfold primTrimL at h
  split at h
  case h_2 => cases h
  rename_i s c
  split at h
  case isFalse => cases h
  rename_i hc
  cases h
  exact ⟨rfl, rfl, rfl, fun w _ => Any.strings_TrimLeft_laid lays161 (by kernel_rfl) s c w (asciiB_iff hc).1 (asciiB_iff hc).2⟩
theorem trim_ok : CallOk Tryz.prog (fun f' args H => if f' = 68 then primTrim args H else none) := by
  refine prim_ok ⟨_, Tryz.func68, rfl⟩ fun args H v H' h => ?_
  unfold primTrim at h
  split at h
  case h_2 => cases h
  rename_i s c
  split at h
  case isFalse => cases h
  rename_i hc
  cases h
  exact ⟨rfl, rfl, rfl, fun w _ => Any.strings_Trim_laid lays160 (by kernel_rfl) s c w hc.2 (asciiB_iff hc.1).1 (asciiB_iff hc.1).2⟩
theorem valid_ok : CallOk Tryz.prog (fun f' args H => if f' = 55 then primValid args H else none) := by
  refine prim_ok ⟨_, Tryz.func55, rfl⟩ fun args H v H' h => ?_
  unfold primValid at h
  split at h
  case h_2 => cases h
  rename_i s
  split at h
  case isFalse => cases h
  rename_i hc
  cases h
  exact ⟨rfl, rfl, rfl, fun w hT => Any.utf8_ValidString lays196 s w hc hT.u8⟩
theorem indexByte_ok : CallOk Tryz.prog (fun f' args H => if f' = 56 then primIndexByte args H else none) := by
  refine prim_ok ⟨_, Tryz.func56, rfl⟩ fun args H v H' h => ?_
  unfold primIndexByte at h
  split at h
  case h_2 => cases h
  rename_i s c
  cases h
  exact ⟨rfl, rfl, rfl, fun w _ => (Any.strings_IndexByte lays137 s c w).mono fun e w' ⟨he, hw⟩ => ⟨he, hw ▸ Below.refl _ _⟩⟩
theorem last_ok : CallOk Tryz.prog (fun f' args H => if f' = 76 then primLast args H else none) := by
  refine prim_ok ⟨_, Tryz.func76, rfl⟩ fun args H v H' h => ?_
  unfold primLast at h
  split at h
  case h_2 => cases h
  rename_i s
  split at h
  case isFalse => cases h
  rename_i hc
  cases h
  exact ⟨rfl, rfl, rfl, fun w hT => Any.utf8_DecodeLastRuneInString lays271 s w hc hT.u8⟩

theorem lastIndex_ok : CallOk Tryz.prog (fun f' args H => if f' = 45 then primLastIndex args H else none) := by
  refine prim_ok ⟨_, Tryz.func45, rfl⟩ fun args H v H' h => ?_
  unfold primLastIndex at h
  split at h
  case h_2 => cases h
  rename_i s c
  split at h
  case isFalse => cases h
  rename_i hc
  cases h
  exact ⟨rfl, rfl, rfl, fun w _ => (Any.strings_LastIndex lays148 s c hc w).mono fun e w' ⟨he, hw⟩ => ⟨he, hw ▸ Below.refl _ _⟩⟩
theorem index1_ok : CallOk Tryz.prog (fun f' args H => if f' = 79 then primIndex1 args H else none) := by
  refine prim_ok ⟨_, Tryz.func79, rfl⟩ fun args H v H' h => ?_
  unfold primIndex1 at h
  split at h
  case h_2 => cases h
  rename_i s p
  split at h
  case isFalse => cases h
  rename_i hc
  cases h
  obtain ⟨c, rfl⟩ : ∃ c, p = ⟨#[c]⟩ := by
    obtain ⟨⟨l⟩⟩ := p
    match l, hc with
    | [c], _ => exact ⟨c, rfl⟩
  exact ⟨rfl, rfl, rfl, fun w _ => (Any.stringslite_Index_one lays219 s c w).mono fun e w' ⟨he, hw⟩ => ⟨he, hw ▸ Below.refl _ _⟩⟩
theorem tabIs {w : World} (hT : Tabs w) : Lib.TabIs Tryz.prog w "internal/strconv.uint64pow10" .u64 Lib.pow10Tab := by
  obtain ⟨e, fr, hp⟩ := hT.pow
  unfold Lib.TabIs World.var?
  have hg : Tryz.prog.globalNamed "internal/strconv.uint64pow10" = some 5 := by kernel_rfl
  rw [hg]
  show (match w.heap[(5 : Nat)]? with | some (.cells cs _ _) => some cs | _ => none) = _
  rw [hp]
theorem itoa_ok : CallOk Tryz.prog (fun f' args H => if f' = 70 then primItoa args H else none) := by
  refine prim_ok ⟨_, Tryz.func70, rfl⟩ fun args H v H' h => ?_
  unfold primItoa at h
  split at h
  case h_2 => cases h
  rename_i n
  split at h
  case isFalse => cases h
  rename_i hc
  cases h
  exact ⟨rfl, rfl, rfl, fun w hT => (Any.strconv_Itoa lays171 n hc.1 hc.2 w (tabIs hT)).mono fun e w' ⟨he, k, os, hw⟩ => ⟨he, hw ▸ Go.Lib.below_grow _ w (Nat.le_refl _) k os⟩⟩
theorem atoi_ok : CallOk Tryz.prog (fun f' args H => if f' = 46 then primAtoi args H else none) := by
  refine prim_err ⟨_, Tryz.func46, rfl⟩ fun args H v H' h => ?_
  unfold primAtoi at h
  split at h
  case h_2 => cases h
  rename_i s
  split at h
  case isFalse => cases h
  rename_i hc
  rcases hr : Lib.atoiAll s.data.toList with v | _ | _
  · rw [hr] at h
    dsimp only at h
    cases h
    exact ⟨rfl, .inl ⟨rfl, rfl, fun w hT => (Any.strconv_Atoi_ok lays172 s (by omega) _ hr w).mono fun e w' ⟨he, hw⟩ => ⟨he, by
      rcases hw with rfl | ⟨t, rfl⟩
      · exact Below.refl _ _
      · exact Go.Lib.bytesWorld_below _ _ _⟩⟩⟩
  · rw [hr] at h
    dsimp only at h
    cases h
    refine ⟨rfl, .inr ⟨_, _, rfl, rfl, rfl, fun w hT => ?_⟩⟩
    obtain ⟨ev, h1, h2⟩ := hT.syn
    exact (Any.strconv_Atoi_syntax lays172 s hc hr ev w h1 h2).mono fun e w' ⟨N, he, _, _, hB⟩ => ⟨_, he, hB⟩
  · rw [hr] at h
    dsimp only at h
    cases h
    refine ⟨rfl, .inr ⟨_, _, rfl, rfl, rfl, fun w hT => ?_⟩⟩
    obtain ⟨ev, h1, h2⟩ := hT.rng
    exact (Any.strconv_Atoi_range lays172 s hc hr ev w h1 h2).mono fun e w' ⟨N, he, _, _, hB⟩ => ⟨_, he, hB⟩

theorem same_h {g : List Value → AH → Option (Value × AH)} (h : ∀ args H v H', g args H = some (v, H') → H' = H) : ∀ args H v H', g args H = some (v, H') → StepH H H' := fun args H v H' e => by
  obtain rfl := h args H v H' e
  exact StepH.refl
theorem primTrimL_h : ∀ args H v H', primTrimL args H = some (v, H') → StepH H H' := same_h fun args H v H' h => by
  unfold primTrimL at h
  repeat' split at h
  all_goals cases h
  all_goals rfl
theorem primTrim_h : ∀ args H v H', primTrim args H = some (v, H') → StepH H H' := same_h fun args H v H' h => by
  unfold primTrim at h
  repeat' split at h
  all_goals cases h
  all_goals rfl
theorem primValid_h : ∀ args H v H', primValid args H = some (v, H') → StepH H H' := same_h fun args H v H' h => by
  unfold primValid at h
  repeat' split at h
  all_goals cases h
  all_goals rfl
theorem primIndexByte_h : ∀ args H v H', primIndexByte args H = some (v, H') → StepH H H' := same_h fun args H v H' h => by
  unfold primIndexByte at h
  repeat' split at h
  all_goals cases h
  all_goals rfl
theorem primLast_h : ∀ args H v H', primLast args H = some (v, H') → StepH H H' := same_h fun args H v H' h => by
  unfold primLast at h
  repeat' split at h
  all_goals cases h
  all_goals rfl
theorem primLastIndex_h : ∀ args H v H', primLastIndex args H = some (v, H') → StepH H H' := same_h fun args H v H' h => by
  unfold primLastIndex at h
  repeat' split at h
  all_goals cases h
  all_goals rfl
theorem primIndex1_h : ∀ args H v H', primIndex1 args H = some (v, H') → StepH H H' := same_h fun args H v H' h => by
  unfold primIndex1 at h
  repeat' split at h
  all_goals cases h
  all_goals rfl
theorem primItoa_h : ∀ args H v H', primItoa args H = some (v, H') → StepH H H' := same_h fun args H v H' h => by
  unfold primItoa at h
  repeat' split at h
  all_goals cases h
  all_goals rfl
theorem primAtoi_h : ∀ args H v H', primAtoi args H = some (v, H') → StepH H H' := fun args H v H' h => by
  unfold primAtoi at h
  split at h
  case h_2 => cases h
  rename_i s
  split at h
  case isFalse => cases h
  rcases hr : Lib.atoiAll s.data.toList with v | _ | _ <;> rw [hr] at h <;> dsimp only at h <;> cases h
  · exact StepH.refl
  · exact fun hw => ⟨(ghost_keep hw).1.wf, hstep_keeps hw (ghost_keep hw).1 (ghost_keep hw).2.1⟩
  · exact fun hw => ⟨(ghost_keep hw).1.wf, hstep_keeps hw (ghost_keep hw).1 (ghost_keep hw).2.1⟩
theorem prims0_ok : PrimsOk Tryz.prog prims0 := by
  refine ⟨fun f g h => ?_, fun f g h => ?_⟩
  · unfold prims0 at h
    split at h
    · rename_i e; cases h; subst e; exact trimL_ok
    split at h
    · rename_i e; cases h; subst e; exact trim_ok
    split at h
    · rename_i e; cases h; subst e; exact valid_ok
    split at h
    · rename_i e; cases h; subst e; exact indexByte_ok
    split at h
    · rename_i e; cases h; subst e; exact last_ok
    split at h
    · rename_i e; cases h; subst e; exact lastIndex_ok
    split at h
    · rename_i e; cases h; subst e; exact index1_ok
    split at h
    · rename_i e; cases h; subst e; exact itoa_ok
    split at h
    · rename_i e; cases h; subst e; exact atoi_ok
    cases h
  · unfold prims0 at h
    split at h
    · rename_i e; cases h; exact primTrimL_h
    split at h
    · rename_i e; cases h; exact primTrim_h
    split at h
    · rename_i e; cases h; exact primValid_h
    split at h
    · rename_i e; cases h; exact primIndexByte_h
    split at h
    · rename_i e; cases h; exact primLast_h
    split at h
    · rename_i e; cases h; exact primLastIndex_h
    split at h
    · rename_i e; cases h; exact primIndex1_h
    split at h
    · rename_i e; cases h; exact primItoa_h
    split at h
    · rename_i e; cases h; exact primAtoi_h
    cases h

/-- THE CHAPTER's FIXED RUNS, reckoned. -/
theorem known_fast : boolOf (evFnF Tryz.prog prims0 60 7 [] AH.empty) = true := by kernel_rfl
theorem known_run : (evFn Tryz.prog prims0 60 7 [] AH.empty).map Prod.fst = some (.bool true) := run_of_fast known_fast

theorem primClosed_h (x : Value) : ∀ args H v H', primClosed x args H = some (v, H') → StepH H H' := same_h fun args H v H' h => by
  unfold primClosed at h
  split at h <;> cases h
  rfl
theorem prims_ok : PrimsOk Tryz.prog prims := by
  refine ⟨fun f g h => ?_, fun f g h => ?_⟩
  · unfold prims at h
    split at h
    · rename_i e; cases h; subst e
      exact closed_ok progOk mixed prims0_ok ⟨_, Tryz.func7, rfl⟩ rfl known_run
    · exact prims0_ok.ok f g h
  · unfold prims at h
    split at h
    · rename_i e; cases h; exact primClosed_h _
    · exact prims0_ok.h f g h
end Go.Proofs.YtofigleaealbjaaGreatDoor.Ev
