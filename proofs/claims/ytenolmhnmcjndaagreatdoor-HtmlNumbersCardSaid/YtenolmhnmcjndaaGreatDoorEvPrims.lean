/-
  Functions of Go's library that are taken by their contracts: that they are so.
-/
import Derived.Test.YtenolmhnmcjndaaGreatDoorEvLaw
import Derived.Test.YtenolmhnmcjndaaGreatDoorEvProg
import Derived.Test.YtenolmhnmcjndaaGreatDoorEvLays
import Derived.Test.YtenolmhnmcjndaaGreatDoorEvPrimD
import Derived.WalkKit
import Derived.Lib.AppendIntMem
namespace Go.Proofs.YtenolmhnmcjndaaGreatDoor.Ev
set_option linter.unusedVariables false
set_option linter.unusedSimpArgs false
open Go Go.RowKit

theorem asciiB_iff {c : ByteArray} (h : asciiB c = true) : c.size < 4294967281 ∧ ∀ (j : Nat) b, c.data.toList[j]? = some b → b.toNat < 128 := by
  unfold asciiB at h
  rw [Bool.and_eq_true] at h
  exact ⟨of_decide_eq_true h.2, fun j b hb => of_decide_eq_true (List.all_eq_true.1 h.1 b (List.mem_of_getElem? hb))⟩
theorem tabIs {w : World} (hT : Tabs w) : Lib.TabIs Tryz.prog w "internal/strconv.uint64pow10" .u64 Lib.pow10Tab := by
  obtain ⟨e, fr, hp⟩ := hT.pow
  unfold Lib.TabIs World.var?
  have hg : Tryz.prog.globalNamed "internal/strconv.uint64pow10" = some 3 := by kernel_rfl
  rw [hg]
  show (match w.heap[(3 : Nat)]? with | some (.cells cs _ _) => some cs | _ => none) = _
  rw [hp]
theorem index1_calls (s p : ByteArray) (hc : p.size = 1) (w : World) : Calls Tryz.prog 249 #[.string s, .string p] w fun e w' => e = .returned (.int .i64 (Lib.indexByte s.data.toList (p.data.getD 0 0))) ∧ Below w.heap.size w w' := by
  obtain ⟨c, rfl⟩ : ∃ c, p = ⟨#[c]⟩ := by
    obtain ⟨⟨l⟩⟩ := p
    match l, hc with
    | [c], _ => exact ⟨c, rfl⟩
  exact (Any.stringslite_Index_one lays219 s c w).mono fun e w' ⟨he, hw⟩ => ⟨he, hw ▸ Below.refl _ _⟩
theorem count_calls (s p : ByteArray) (hc : p.size = 1) (w : World) : Calls Tryz.prog 175 #[.string s, .string p] w fun e w' => e = .returned (.int .i64 (Lib.countByte s.data.toList (p.data.getD 0 0))) ∧ Below w.heap.size w w' := by
  obtain ⟨c, rfl⟩ : ∃ c, p = ⟨#[c]⟩ := by
    obtain ⟨⟨l⟩⟩ := p
    match l, hc with
    | [c], _ => exact ⟨c, rfl⟩
  exact (Any.strings_Count_one lays138 s c w).mono fun e w' ⟨he, hw⟩ => ⟨he, hw ▸ Below.refl _ _⟩
theorem indexAny_calls (s c : ByteArray) (h1 : (asciiB s || (Nat.blt 8 s.size && Nat.blt 1 c.size && decide (s.size < 4294967281))) = true) (h2 : asciiB c = true) (w : World) : Calls Tryz.prog 328 #[.string s, .string c] w fun e w' => e = .returned (.int .i64 (Lib.indexAny s.data.toList c.data.toList)) ∧ Below w.heap.size w w' := by
  rw [Bool.or_eq_true, Bool.and_eq_true, Bool.and_eq_true] at h1
  rcases h1 with h1 | ⟨⟨h3, h4⟩, h5⟩
  · exact Any.strings_IndexAny lays153 (fun w => by kernel_rfl) (by kernel_rfl) s c w (asciiB_iff h1).1 (asciiB_iff h2).1 (asciiB_iff h1).2 (asciiB_iff h2).2
  · have h3 : 8 < s.size := by simpa using h3
    have h4 : 1 < c.size := by simpa using h4
    refine (Any.strings_IndexAny_long lays153 (fun w => by kernel_rfl) (by kernel_rfl) s c w h4 h3 (of_decide_eq_true h5) (asciiB_iff h2).1 (asciiB_iff h2).2).mono fun e w' ⟨he, hw⟩ => ⟨he, ?_⟩
    rw [hw]
    exact Below.alloc (Below.alloc (Below.refl _ _) (Nat.le_refl _) _) (by show _ ≤ (Array.push _ _).size; rw [Array.size_push]; exact Nat.le_succ _) _
theorem extra105 : Go.Proofs.Builder.Extra Tryz.prog lays105_ren := { sizeBuilder := by kernel_rfl, liesBuilder := by kernel_rfl, t5 := Tryz.underlying5, a5 := Tryz.isAgg5, z5 := Tryz.sizeOf5, v5 := Tryz.zeroValue5, infoByte := by kernel_rfl, cellsByte := by kernel_rfl, sizeByte := by kernel_rfl, neB5 := by decide }
theorem repeat_calls (s : ByteArray) (c : Int) (hc : 0 ≤ c ∧ c ≤ 1000000 ∧ s.size ≤ 1000000) (w : World) : Calls Tryz.prog 205 #[.string s, .int .i64 c] w fun e w' => e = .returned (.string ⟨(Lib.repeatL s.data.toList c.toNat).toArray⟩) ∧ Below w.heap.size w w' := by
  obtain ⟨c, rfl⟩ := Int.eq_ofNat_of_zero_le hc.1
  have h1 : c ≤ 1000000 := by omega
  have h2 : s.size * c ≤ 1000000 * 1000000 := Nat.mul_le_mul hc.2.2 h1
  exact Any.strings_Repeat lays105 extra105 s c w (by omega) (by omega)
theorem TrimL_ok : CallOk Tryz.prog (fun f' args H => if f' = 269 then primTrimL args H else none) := by
  refine prim_ok ⟨_, Tryz.func269, rfl⟩ fun args H v H' h => ?_
  unfold primTrimL at h
  split at h
  case h_2 => cases h
  rename_i s c
  split at h
  case isFalse => cases h
  rename_i hc
  cases h
  exact ⟨rfl, rfl, rfl, fun w _ => Any.strings_TrimLeft_laid lays161 (by kernel_rfl) s c w (asciiB_iff hc).1 (asciiB_iff hc).2⟩
theorem Trim_ok : CallOk Tryz.prog (fun f' args H => if f' = 114 then primTrim args H else none) := by
  refine prim_ok ⟨_, Tryz.func114, rfl⟩ fun args H v H' h => ?_
  unfold primTrim at h
  split at h
  case h_2 => cases h
  rename_i s c
  split at h
  case isFalse => cases h
  rename_i hc
  cases h
  exact ⟨rfl, rfl, rfl, fun w _ => Any.strings_Trim_laid lays160 (by kernel_rfl) s c w hc.2 (asciiB_iff hc.1).1 (asciiB_iff hc.1).2⟩
theorem TrimR_ok : CallOk Tryz.prog (fun f' args H => if f' = 288 then primTrimR args H else none) := by
  refine prim_ok ⟨_, Tryz.func288, rfl⟩ fun args H v H' h => ?_
  unfold primTrimR at h
  split at h
  case h_2 => cases h
  rename_i s c
  split at h
  case isFalse => cases h
  rename_i hc
  cases h
  exact ⟨rfl, rfl, rfl, fun w _ => Any.strings_TrimRight_laid lays162 (by kernel_rfl) s c w hc.2 (asciiB_iff hc.1).1 (asciiB_iff hc.1).2⟩
theorem Valid_ok : CallOk Tryz.prog (fun f' args H => if f' = 134 then primValid args H else none) := by
  refine prim_ok ⟨_, Tryz.func134, rfl⟩ fun args H v H' h => ?_
  unfold primValid at h
  split at h
  case h_2 => cases h
  rename_i s
  split at h
  case isFalse => cases h
  rename_i hc
  cases h
  exact ⟨rfl, rfl, rfl, fun w hT => Any.utf8_ValidString lays196 s w hc hT.u8⟩
theorem IndexByte_ok : CallOk Tryz.prog (fun f' args H => if f' = 93 then primIndexByte args H else none) := by
  refine prim_ok ⟨_, Tryz.func93, rfl⟩ fun args H v H' h => ?_
  unfold primIndexByte at h
  split at h
  case h_2 => cases h
  rename_i s c
  cases h
  exact ⟨rfl, rfl, rfl, fun w _ => (Any.strings_IndexByte lays137 s c w).mono fun e w' ⟨he, hw⟩ => ⟨he, hw ▸ Below.refl _ _⟩⟩
theorem Last_ok : CallOk Tryz.prog (fun f' args H => if f' = 198 then primLast args H else none) := by
  refine prim_ok ⟨_, Tryz.func198, rfl⟩ fun args H v H' h => ?_
  unfold primLast at h
  split at h
  case h_2 => cases h
  rename_i s
  split at h
  case isFalse => cases h
  rename_i hc
  cases h
  exact ⟨rfl, rfl, rfl, fun w hT => Any.utf8_DecodeLastRuneInString lays271 s w hc hT.u8⟩
theorem Index1_ok : CallOk Tryz.prog (fun f' args H => if f' = 249 then primIndex1 args H else none) := by
  refine prim_ok ⟨_, Tryz.func249, rfl⟩ fun args H v H' h => ?_
  unfold primIndex1 at h
  split at h
  case h_2 => cases h
  rename_i s p
  split at h
  case isFalse => cases h
  rename_i hc
  cases h
  exact ⟨rfl, rfl, rfl, fun w _ => index1_calls s p hc w⟩
theorem Count_ok : CallOk Tryz.prog (fun f' args H => if f' = 175 then primCount args H else none) := by
  refine prim_ok ⟨_, Tryz.func175, rfl⟩ fun args H v H' h => ?_
  unfold primCount at h
  split at h
  case h_2 => cases h
  rename_i s p
  split at h
  case isFalse => cases h
  rename_i hc
  cases h
  exact ⟨rfl, rfl, rfl, fun w _ => count_calls s p hc w⟩
theorem IndexAny_ok : CallOk Tryz.prog (fun f' args H => if f' = 328 then primIndexAny args H else none) := by
  refine prim_ok ⟨_, Tryz.func328, rfl⟩ fun args H v H' h => ?_
  unfold primIndexAny at h
  split at h
  case h_2 => cases h
  rename_i s c
  split at h
  case isFalse => cases h
  rename_i hc
  cases h
  exact ⟨rfl, rfl, rfl, fun w _ => indexAny_calls s c hc.1 hc.2 w⟩
theorem Repeat_ok : CallOk Tryz.prog (fun f' args H => if f' = 205 then primRepeat args H else none) := by
  refine prim_ok ⟨_, Tryz.func205, rfl⟩ fun args H v H' h => ?_
  unfold primRepeat at h
  split at h
  case h_2 => cases h
  rename_i s c
  split at h
  case isFalse => cases h
  rename_i hc
  cases h
  exact ⟨rfl, rfl, rfl, fun w _ => repeat_calls s c hc w⟩
theorem Itoa_ok : CallOk Tryz.prog (fun f' args H => if f' = 52 then primItoa args H else none) := by
  refine prim_ok ⟨_, Tryz.func52, rfl⟩ fun args H v H' h => ?_
  unfold primItoa at h
  split at h
  case h_2 => cases h
  rename_i n
  split at h
  case isFalse => cases h
  rename_i hc
  cases h
  exact ⟨rfl, rfl, rfl, fun w hT => (Any.strconv_Itoa lays171 n hc.1 hc.2 w (tabIs hT)).mono fun e w' ⟨he, k, os, hw⟩ => ⟨he, hw ▸ Go.Lib.below_grow _ w (Nat.le_refl _) k os⟩⟩
theorem same_h {g : List Value → AH → Option (Value × AH)} (h : ∀ args H v H', g args H = some (v, H') → H' = H) : ∀ args H v H', g args H = some (v, H') → StepH H H' := fun args H v H' e => by
  obtain rfl := h args H v H' e
  exact StepH.refl
theorem primTrimL_h : ∀ args H v H', primTrimL args H = some (v, H') → StepH H H' := same_h fun args H v H' h => by
  unfold primTrimL at h
  repeat' split at h
  all_goals first | (cases h; done) | (cases h; rfl)
theorem primTrim_h : ∀ args H v H', primTrim args H = some (v, H') → StepH H H' := same_h fun args H v H' h => by
  unfold primTrim at h
  repeat' split at h
  all_goals first | (cases h; done) | (cases h; rfl)
theorem primTrimR_h : ∀ args H v H', primTrimR args H = some (v, H') → StepH H H' := same_h fun args H v H' h => by
  unfold primTrimR at h
  repeat' split at h
  all_goals first | (cases h; done) | (cases h; rfl)
theorem primValid_h : ∀ args H v H', primValid args H = some (v, H') → StepH H H' := same_h fun args H v H' h => by
  unfold primValid at h
  repeat' split at h
  all_goals first | (cases h; done) | (cases h; rfl)
theorem primIndexByte_h : ∀ args H v H', primIndexByte args H = some (v, H') → StepH H H' := same_h fun args H v H' h => by
  unfold primIndexByte at h
  repeat' split at h
  all_goals first | (cases h; done) | (cases h; rfl)
theorem primLast_h : ∀ args H v H', primLast args H = some (v, H') → StepH H H' := same_h fun args H v H' h => by
  unfold primLast at h
  repeat' split at h
  all_goals first | (cases h; done) | (cases h; rfl)
theorem primIndex1_h : ∀ args H v H', primIndex1 args H = some (v, H') → StepH H H' := same_h fun args H v H' h => by
  unfold primIndex1 at h
  repeat' split at h
  all_goals first | (cases h; done) | (cases h; rfl)
theorem primCount_h : ∀ args H v H', primCount args H = some (v, H') → StepH H H' := same_h fun args H v H' h => by
  unfold primCount at h
  repeat' split at h
  all_goals first | (cases h; done) | (cases h; rfl)
theorem primIndexAny_h : ∀ args H v H', primIndexAny args H = some (v, H') → StepH H H' := same_h fun args H v H' h => by
  unfold primIndexAny at h
  repeat' split at h
  all_goals first | (cases h; done) | (cases h; rfl)
theorem primRepeat_h : ∀ args H v H', primRepeat args H = some (v, H') → StepH H H' := same_h fun args H v H' h => by
  unfold primRepeat at h
  repeat' split at h
  all_goals first | (cases h; done) | (cases h; rfl)
theorem primItoa_h : ∀ args H v H', primItoa args H = some (v, H') → StepH H H' := same_h fun args H v H' h => by
  unfold primItoa at h
  repeat' split at h
  all_goals first | (cases h; done) | (cases h; rfl)
theorem lays240 : Go.Proofs.Lays.n240 Tryz.prog lays105_ren := { lays105 with }
theorem lays169 : Go.Proofs.Lays.n169 Tryz.prog lays105_ren := { lays105 with }
theorem x72 : Go.Proofs.Builder.X72 Tryz.prog lays105_ren := { sizeBuilder := by kernel_rfl, liesBuilder := by kernel_rfl }
theorem extra169 : Go.Proofs.Builder.Extra Tryz.prog lays105_ren := { sizeBuilder := by kernel_rfl, liesBuilder := by kernel_rfl, t5 := Tryz.underlying5, a5 := Tryz.isAgg5, z5 := Tryz.sizeOf5, v5 := Tryz.zeroValue5, infoByte := by kernel_rfl, cellsByte := by kernel_rfl, sizeByte := by kernel_rfl, neB5 := by decide }
theorem bt_ok : BtOk Tryz.prog (lays105_ren.t 72) bt := fun t ht => by
  simp only [bt, List.mem_cons, List.not_mem_nil, or_false] at ht
  rcases ht with rfl | rfl
  all_goals exact ⟨by kernel_rfl, by decide⟩
theorem CC_ok : CallOk Tryz.prog (fun f' args H => if f' = 104 then primCC bt args H else none) := primCC_ok lays240 x72 bt_ok ⟨_, Tryz.func104, rfl⟩
theorem Str_ok : CallOk Tryz.prog (fun f' args H => if f' = 61 then primStr 5 args H else none) := primStr_ok lays169 extra169 ⟨_, Tryz.func61, rfl⟩
theorem extra156 : Go.Proofs.Builder.Extra Tryz.prog lays156_ren := { sizeBuilder := by kernel_rfl, liesBuilder := by kernel_rfl, t5 := Tryz.underlying5, a5 := Tryz.isAgg5, z5 := Tryz.sizeOf5, v5 := Tryz.zeroValue5, infoByte := by kernel_rfl, cellsByte := by kernel_rfl, sizeByte := by kernel_rfl, neB5 := by decide }
theorem Join_ok : CallOk Tryz.prog (fun f' args H => if f' = 148 then primJoin args H else none) := primJoin_ok lays156 extra156 ⟨_, Tryz.func148, rfl⟩
theorem prims0_ok : PrimsOk Tryz.prog prims0 := by
  refine ⟨fun f g h => ?_, fun f g h => ?_, fun f h => ?_⟩
  · replace h : run0 f = some g := h
    unfold run0 at h
    rcases ite_cases h with ⟨e, h⟩ | ⟨_, h⟩
    · cases h; subst e; exact fun _ _ _ => TrimL_ok
    rcases ite_cases h with ⟨e, h⟩ | ⟨_, h⟩
    · cases h; subst e; exact fun _ _ _ => Trim_ok
    rcases ite_cases h with ⟨e, h⟩ | ⟨_, h⟩
    · cases h; subst e; exact fun _ _ _ => TrimR_ok
    rcases ite_cases h with ⟨e, h⟩ | ⟨_, h⟩
    · cases h; subst e; exact fun _ _ _ => Valid_ok
    rcases ite_cases h with ⟨e, h⟩ | ⟨_, h⟩
    · cases h; subst e; exact fun _ _ _ => IndexByte_ok
    rcases ite_cases h with ⟨e, h⟩ | ⟨_, h⟩
    · cases h; subst e; exact fun _ _ _ => Last_ok
    rcases ite_cases h with ⟨e, h⟩ | ⟨_, h⟩
    · cases h; subst e; exact fun _ _ _ => Index1_ok
    rcases ite_cases h with ⟨e, h⟩ | ⟨_, h⟩
    · cases h; subst e; exact fun _ _ _ => Count_ok
    rcases ite_cases h with ⟨e, h⟩ | ⟨_, h⟩
    · cases h; subst e; exact fun _ _ _ => IndexAny_ok
    rcases ite_cases h with ⟨e, h⟩ | ⟨_, h⟩
    · cases h; subst e; exact fun _ _ _ => Repeat_ok
    rcases ite_cases h with ⟨e, h⟩ | ⟨_, h⟩
    · cases h; subst e; exact fun _ _ _ => Itoa_ok
    rcases ite_cases h with ⟨e, h⟩ | ⟨_, h⟩
    · cases h; subst e; exact fun _ _ _ => CC_ok
    rcases ite_cases h with ⟨e, h⟩ | ⟨_, h⟩
    · cases h; subst e; exact fun _ _ _ => Str_ok
    rcases ite_cases h with ⟨e, h⟩ | ⟨_, h⟩
    · cases h; subst e; exact fun _ _ _ => Join_ok
    rcases ite_cases h with ⟨e, h⟩ | ⟨_, h⟩
    · cases h; subst e; exact fun _ _ _ => primFlat_ok progOk mixed ⟨_, Tryz.func329, rfl⟩
    rcases ite_cases h with ⟨e, h⟩ | ⟨_, h⟩
    · cases h; subst e; exact fun _ _ _ => primFlat_ok progOk mixed ⟨_, Tryz.func330, rfl⟩
    cases h
  · replace h : run0 f = some g := h
    unfold run0 at h
    rcases ite_cases h with ⟨e, h⟩ | ⟨_, h⟩
    · cases h; exact fun _ _ => primTrimL_h
    rcases ite_cases h with ⟨e, h⟩ | ⟨_, h⟩
    · cases h; exact fun _ _ => primTrim_h
    rcases ite_cases h with ⟨e, h⟩ | ⟨_, h⟩
    · cases h; exact fun _ _ => primTrimR_h
    rcases ite_cases h with ⟨e, h⟩ | ⟨_, h⟩
    · cases h; exact fun _ _ => primValid_h
    rcases ite_cases h with ⟨e, h⟩ | ⟨_, h⟩
    · cases h; exact fun _ _ => primIndexByte_h
    rcases ite_cases h with ⟨e, h⟩ | ⟨_, h⟩
    · cases h; exact fun _ _ => primLast_h
    rcases ite_cases h with ⟨e, h⟩ | ⟨_, h⟩
    · cases h; exact fun _ _ => primIndex1_h
    rcases ite_cases h with ⟨e, h⟩ | ⟨_, h⟩
    · cases h; exact fun _ _ => primCount_h
    rcases ite_cases h with ⟨e, h⟩ | ⟨_, h⟩
    · cases h; exact fun _ _ => primIndexAny_h
    rcases ite_cases h with ⟨e, h⟩ | ⟨_, h⟩
    · cases h; exact fun _ _ => primRepeat_h
    rcases ite_cases h with ⟨e, h⟩ | ⟨_, h⟩
    · cases h; exact fun _ _ => primItoa_h
    rcases ite_cases h with ⟨e, h⟩ | ⟨_, h⟩
    · cases h; exact fun _ _ => primCC_h bt
    rcases ite_cases h with ⟨e, h⟩ | ⟨_, h⟩
    · cases h; exact fun _ _ => primStr_h 5
    rcases ite_cases h with ⟨e, h⟩ | ⟨_, h⟩
    · cases h; exact fun _ _ => primJoin_h
    rcases ite_cases h with ⟨e, h⟩ | ⟨_, h⟩
    · cases h; exact fun _ _ => primFlat_h
    rcases ite_cases h with ⟨e, h⟩ | ⟨_, h⟩
    · cases h; exact fun _ _ => primFlat_h
    cases h
  · have h : ffl f = true := h
    unfold ffl at h
    rw [Bool.or_eq_true] at h
    rcases h with h | h
    rotate_left
    · obtain rfl : f = 330 := Nat.eq_of_beq_eq_true h
      obtain ⟨g0, hg0⟩ := primFlat_fl (P := Tryz.prog) (f := 330)
      exact ⟨g0, _, (show run0 330 = some (fun _ => primFlat Tryz.prog 330) by unfold run0; rfl), fun _ args H => hg0 args H⟩
    · obtain rfl : f = 329 := Nat.eq_of_beq_eq_true h
      obtain ⟨g0, hg0⟩ := primFlat_fl (P := Tryz.prog) (f := 329)
      exact ⟨g0, _, (show run0 329 = some (fun _ => primFlat Tryz.prog 329) by unfold run0; rfl), fun _ args H => hg0 args H⟩
end Go.Proofs.YtenolmhnmcjndaaGreatDoor.Ev
