/-
  Functions of Go's library that are taken by their contracts: that they are so.
-/
import Derived.Test.YtbcenbhdmpljhaaGreatDoorEvLaw
import Derived.Test.YtbcenbhdmpljhaaGreatDoorEvProg
import Derived.Test.YtbcenbhdmpljhaaGreatDoorEvLays
import Derived.Test.YtbcenbhdmpljhaaGreatDoorEvPrimD
import Derived.WalkKit
namespace Go.Proofs.YtbcenbhdmpljhaaGreatDoor.Ev
set_option linter.unusedVariables false
set_option linter.unusedSimpArgs false
open Go Go.RowKit

theorem asciiB_iff {c : ByteArray} (h : asciiB c = true) : c.size < 4294967281 ∧ ∀ (j : Nat) b, c.data.toList[j]? = some b → b.toNat < 128 := by
  unfold asciiB at h
  rw [Bool.and_eq_true] at h
  exact ⟨of_decide_eq_true h.2, fun j b hb => of_decide_eq_true (List.all_eq_true.1 h.1 b (List.mem_of_getElem? hb))⟩
theorem extra105 : Go.Proofs.Builder.Extra Tryz.prog lays105_ren := { sizeBuilder := by kernel_rfl, liesBuilder := by kernel_rfl, t5 := Tryz.underlying5, a5 := Tryz.isAgg5, z5 := Tryz.sizeOf5, v5 := Tryz.zeroValue5, infoByte := by kernel_rfl, cellsByte := by kernel_rfl, sizeByte := by kernel_rfl, neB5 := by decide }
theorem repeat_calls (s : ByteArray) (c : Int) (hc : 0 ≤ c ∧ c ≤ 1000000 ∧ s.size ≤ 1000000) (w : World) : Calls Tryz.prog 52 #[.string s, .int .i64 c] w fun e w' => e = .returned (.string ⟨(Lib.repeatL s.data.toList c.toNat).toArray⟩) ∧ Below w.heap.size w w' := by
  obtain ⟨c, rfl⟩ := Int.eq_ofNat_of_zero_le hc.1
  have h1 : c ≤ 1000000 := by omega
  have h2 : s.size * c ≤ 1000000 * 1000000 := Nat.mul_le_mul hc.2.2 h1
  exact Any.strings_Repeat lays105 extra105 s c w (by omega) (by omega)
theorem TrimR_ok : CallOk Tryz.prog (fun f' args H => if f' = 82 then primTrimR args H else none) := by
  refine prim_ok ⟨_, Tryz.func82, rfl⟩ fun args H v H' h => ?_
  unfold primTrimR at h
  split at h
  case h_2 => cases h
  rename_i s c
  split at h
  case isFalse => cases h
  rename_i hc
  cases h
  exact ⟨rfl, rfl, rfl, fun w _ => Any.strings_TrimRight_laid lays162 (by kernel_rfl) s c w hc.2 (asciiB_iff hc.1).1 (asciiB_iff hc.1).2⟩
theorem Trim_ok : CallOk Tryz.prog (fun f' args H => if f' = 60 then primTrim args H else none) := by
  refine prim_ok ⟨_, Tryz.func60, rfl⟩ fun args H v H' h => ?_
  unfold primTrim at h
  split at h
  case h_2 => cases h
  rename_i s c
  split at h
  case isFalse => cases h
  rename_i hc
  cases h
  exact ⟨rfl, rfl, rfl, fun w _ => Any.strings_Trim_laid lays160 (by kernel_rfl) s c w hc.2 (asciiB_iff hc.1).1 (asciiB_iff hc.1).2⟩
theorem IndexByte_ok : CallOk Tryz.prog (fun f' args H => if f' = 81 then primIndexByte args H else none) := by
  refine prim_ok ⟨_, Tryz.func81, rfl⟩ fun args H v H' h => ?_
  unfold primIndexByte at h
  split at h
  case h_2 => cases h
  rename_i s c
  cases h
  exact ⟨rfl, rfl, rfl, fun w _ => (Any.strings_IndexByte lays137 s c w).mono fun e w' ⟨he, hw⟩ => ⟨he, hw ▸ Below.refl _ _⟩⟩
theorem Repeat_ok : CallOk Tryz.prog (fun f' args H => if f' = 52 then primRepeat args H else none) := by
  refine prim_ok ⟨_, Tryz.func52, rfl⟩ fun args H v H' h => ?_
  unfold primRepeat at h
  split at h
  case h_2 => cases h
  rename_i s c
  split at h
  case isFalse => cases h
  rename_i hc
  cases h
  exact ⟨rfl, rfl, rfl, fun w _ => repeat_calls s c hc w⟩
theorem same_h {g : List Value → AH → Option (Value × AH)} (h : ∀ args H v H', g args H = some (v, H') → H' = H) : ∀ args H v H', g args H = some (v, H') → StepH H H' := fun args H v H' e => by
  obtain rfl := h args H v H' e
  exact StepH.refl
theorem primTrimR_h : ∀ args H v H', primTrimR args H = some (v, H') → StepH H H' := same_h fun args H v H' h => by
  unfold primTrimR at h
  repeat' split at h
  all_goals first | (cases h; done) | (cases h; rfl)
theorem primTrim_h : ∀ args H v H', primTrim args H = some (v, H') → StepH H H' := same_h fun args H v H' h => by
  unfold primTrim at h
  repeat' split at h
  all_goals first | (cases h; done) | (cases h; rfl)
theorem primIndexByte_h : ∀ args H v H', primIndexByte args H = some (v, H') → StepH H H' := same_h fun args H v H' h => by
  unfold primIndexByte at h
  repeat' split at h
  all_goals first | (cases h; done) | (cases h; rfl)
theorem primRepeat_h : ∀ args H v H', primRepeat args H = some (v, H') → StepH H H' := same_h fun args H v H' h => by
  unfold primRepeat at h
  repeat' split at h
  all_goals first | (cases h; done) | (cases h; rfl)
theorem lays240 : Go.Proofs.Lays.n240 Tryz.prog lays105_ren := { lays105 with }
theorem lays169 : Go.Proofs.Lays.n169 Tryz.prog lays105_ren := { lays105 with }
theorem x72 : Go.Proofs.Builder.X72 Tryz.prog lays105_ren := { sizeBuilder := by kernel_rfl, liesBuilder := by kernel_rfl }
theorem extra169 : Go.Proofs.Builder.Extra Tryz.prog lays105_ren := { sizeBuilder := by kernel_rfl, liesBuilder := by kernel_rfl, t5 := Tryz.underlying5, a5 := Tryz.isAgg5, z5 := Tryz.sizeOf5, v5 := Tryz.zeroValue5, infoByte := by kernel_rfl, cellsByte := by kernel_rfl, sizeByte := by kernel_rfl, neB5 := by decide }
theorem bt_ok : BtOk Tryz.prog (lays105_ren.t 72) bt := fun t ht => by
  simp only [bt, List.mem_cons, List.not_mem_nil, or_false] at ht
  rcases ht with rfl
  all_goals exact ⟨by kernel_rfl, by decide⟩
theorem CC_ok : CallOk Tryz.prog (fun f' args H => if f' = 61 then primCC bt args H else none) := primCC_ok lays240 x72 bt_ok ⟨_, Tryz.func61, rfl⟩
theorem Str_ok : CallOk Tryz.prog (fun f' args H => if f' = 38 then primStr 5 args H else none) := primStr_ok lays169 extra169 ⟨_, Tryz.func38, rfl⟩
theorem extra156 : Go.Proofs.Builder.Extra Tryz.prog lays156_ren := { sizeBuilder := by kernel_rfl, liesBuilder := by kernel_rfl, t5 := Tryz.underlying5, a5 := Tryz.isAgg5, z5 := Tryz.sizeOf5, v5 := Tryz.zeroValue5, infoByte := by kernel_rfl, cellsByte := by kernel_rfl, sizeByte := by kernel_rfl, neB5 := by decide }
theorem Join_ok : CallOk Tryz.prog (fun f' args H => if f' = 39 then primJoin args H else none) := primJoin_ok lays156 extra156 ⟨_, Tryz.func39, rfl⟩
theorem prims0_ok : PrimsOk Tryz.prog prims0 := by
  refine ⟨fun f g h => ?_, fun f g h => ?_, fun f h => ?_⟩
  · replace h : run0 f = some g := h
    unfold run0 at h
    rcases ite_cases h with ⟨e, h⟩ | ⟨_, h⟩
    · cases h; subst e; exact fun _ _ _ => TrimR_ok
    rcases ite_cases h with ⟨e, h⟩ | ⟨_, h⟩
    · cases h; subst e; exact fun _ _ _ => Trim_ok
    rcases ite_cases h with ⟨e, h⟩ | ⟨_, h⟩
    · cases h; subst e; exact fun _ _ _ => IndexByte_ok
    rcases ite_cases h with ⟨e, h⟩ | ⟨_, h⟩
    · cases h; subst e; exact fun _ _ _ => Repeat_ok
    rcases ite_cases h with ⟨e, h⟩ | ⟨_, h⟩
    · cases h; subst e; exact fun _ _ _ => CC_ok
    rcases ite_cases h with ⟨e, h⟩ | ⟨_, h⟩
    · cases h; subst e; exact fun _ _ _ => Str_ok
    rcases ite_cases h with ⟨e, h⟩ | ⟨_, h⟩
    · cases h; subst e; exact fun _ _ _ => Join_ok
    cases h
  · replace h : run0 f = some g := h
    unfold run0 at h
    rcases ite_cases h with ⟨e, h⟩ | ⟨_, h⟩
    · cases h; exact fun _ _ => primTrimR_h
    rcases ite_cases h with ⟨e, h⟩ | ⟨_, h⟩
    · cases h; exact fun _ _ => primTrim_h
    rcases ite_cases h with ⟨e, h⟩ | ⟨_, h⟩
    · cases h; exact fun _ _ => primIndexByte_h
    rcases ite_cases h with ⟨e, h⟩ | ⟨_, h⟩
    · cases h; exact fun _ _ => primRepeat_h
    rcases ite_cases h with ⟨e, h⟩ | ⟨_, h⟩
    · cases h; exact fun _ _ => primCC_h bt
    rcases ite_cases h with ⟨e, h⟩ | ⟨_, h⟩
    · cases h; exact fun _ _ => primStr_h 5
    rcases ite_cases h with ⟨e, h⟩ | ⟨_, h⟩
    · cases h; exact fun _ _ => primJoin_h
    cases h
  · have h : ffl f = true := h
    unfold ffl at h
    cases h
end Go.Proofs.YtbcenbhdmpljhaaGreatDoor.Ev
