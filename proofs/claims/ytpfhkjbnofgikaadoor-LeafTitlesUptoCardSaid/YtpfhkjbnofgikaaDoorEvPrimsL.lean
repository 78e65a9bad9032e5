/-
  The functions of Go's library that chapter 6 takes by their contracts; the chapter's fixed runs.
-/
import Derived.Test.YtpfhkjbnofgikaaDoorEvLaw
import Derived.Test.YtpfhkjbnofgikaaDoorEvProg
import Derived.Test.YtpfhkjbnofgikaaDoorEvLays
import Derived.WalkKit
namespace Go.Proofs.YtpfhkjbnofgikaaDoor.Ev
open Go Go.RowKit

def asciiB (c : ByteArray) : Bool := c.data.toList.all (fun b => decide (b.toNat < 128)) && decide (c.size < 4294967281)
theorem asciiB_iff {c : ByteArray} (h : asciiB c = true) : c.size < 4294967281 ∧ ∀ (j : Nat) b, c.data.toList[j]? = some b → b.toNat < 128 := by
  unfold asciiB at h
  rw [Bool.and_eq_true] at h
  exact ⟨of_decide_eq_true h.2, fun j b hb => of_decide_eq_true (List.all_eq_true.1 h.1 b (List.mem_of_getElem? hb))⟩
def primTrim : List Value → AH → Option (Value × AH)
  | [.string s, .string c], H => if asciiB c = true ∧ s.size ≤ 9223372036854775807 then some (.string ⟨(Lib.trimS s.data.toList c.data.toList).toArray⟩, H) else none
  | _, _ => none
def primTrimR : List Value → AH → Option (Value × AH)
  | [.string s, .string c], H => if asciiB c = true ∧ s.size ≤ 9223372036854775807 then some (.string ⟨(Lib.trimRightS s.data.toList c.data.toList).toArray⟩, H) else none
  | _, _ => none
def primIndexByte : List Value → AH → Option (Value × AH)
  | [.string s, .int .u8 c], H => some (.int .i64 (Lib.indexByte s.data.toList c.toNat.toUInt8), H)
  | _, _ => none
def primRepeat : List Value → AH → Option (Value × AH)
  | [.string s, .int .i64 c], H => if 0 ≤ c ∧ c ≤ 1000000 ∧ s.size ≤ 1000000 then some (.string ⟨(Lib.repeatL s.data.toList c.toNat).toArray⟩, H) else none
  | _, _ => none

theorem extra105 : Go.Proofs.Builder.Extra Tryd.prog lays105_ren := {
  sizeBuilder := by kernel_rfl
  liesBuilder := by kernel_rfl
  t5 := Tryd.underlying5
  a5 := Tryd.isAgg5
  z5 := Tryd.sizeOf5
  v5 := Tryd.zeroValue5
  infoByte := by kernel_rfl
  cellsByte := by kernel_rfl
  sizeByte := by kernel_rfl
  neB5 := by decide }
theorem trim_ok : CallOk Tryd.prog (fun f' args H => if f' = 21 then primTrim args H else none) := by
  refine prim_ok ⟨_, Tryd.func21, rfl⟩ fun args H v H' h => ?_
  unfold primTrim at h
  split at h
  case h_2 => cases h
  rename_i s c
  split at h
  case isFalse => cases h
  rename_i hc
  cases h
  exact ⟨rfl, rfl, rfl, fun w _ => Any.strings_Trim_laid lays160 (by kernel_rfl) s c w hc.2 (asciiB_iff hc.1).1 (asciiB_iff hc.1).2⟩
theorem trimR_ok : CallOk Tryd.prog (fun f' args H => if f' = 22 then primTrimR args H else none) := by
  refine prim_ok ⟨_, Tryd.func22, rfl⟩ fun args H v H' h => ?_
  unfold primTrimR at h
  split at h
  case h_2 => cases h
  rename_i s c
  split at h
  case isFalse => cases h
  rename_i hc
  cases h
  exact ⟨rfl, rfl, rfl, fun w _ => Any.strings_TrimRight_laid lays162 (by kernel_rfl) s c w hc.2 (asciiB_iff hc.1).1 (asciiB_iff hc.1).2⟩
theorem indexByte_ok : CallOk Tryd.prog (fun f' args H => if f' = 20 then primIndexByte args H else none) := by
  refine prim_ok ⟨_, Tryd.func20, rfl⟩ fun args H v H' h => ?_
  unfold primIndexByte at h
  split at h
  case h_2 => cases h
  rename_i s c
  cases h
  exact ⟨rfl, rfl, rfl, fun w _ => (Any.strings_IndexByte lays137 s c w).mono fun e w' ⟨he, hw⟩ => ⟨he, hw ▸ Below.refl _ _⟩⟩
theorem repeat_ok : CallOk Tryd.prog (fun f' args H => if f' = 42 then primRepeat args H else none) := by
  refine prim_ok ⟨_, Tryd.func42, rfl⟩ fun args H v H' h => ?_
  unfold primRepeat at h
  split at h
  case h_2 => cases h
  rename_i s c
  split at h
  case isFalse => cases h
  rename_i hc
  cases h
  refine ⟨rfl, rfl, rfl, fun w _ => ?_⟩
  obtain ⟨c, rfl⟩ := Int.eq_ofNat_of_zero_le hc.1
  have h1 : c ≤ 1000000 := by omega
  have h2 : s.size * c ≤ 1000000 * 1000000 := Nat.mul_le_mul hc.2.2 h1
  exact Any.strings_Repeat lays105 extra105 s c w (by omega) (by omega)

def prims0 : Prims := fun f =>
  if f = 21 then some primTrim else if f = 22 then some primTrimR else if f = 20 then some primIndexByte else if f = 42 then some primRepeat else none
theorem prims0_ok : PrimsOk Tryd.prog prims0 := by
  intro f g h
  unfold prims0 at h
  split at h
  · rename_i e; cases h; subst e; exact trim_ok
  split at h
  · rename_i e; cases h; subst e; exact trimR_ok
  split at h
  · rename_i e; cases h; subst e; exact indexByte_ok
  split at h
  · rename_i e; cases h; subst e; exact repeat_ok
  cases h

/-- THE CHAPTER's FIXED RUNS, reckoned. -/
theorem known_run : (evFn Tryd.prog prims0 60 10 [] AH.empty).map Prod.fst = some (.bool true) := by kernel_rfl

def prims : Prims := fun f => if f = 10 then some (primClosed (.bool true)) else prims0 f
theorem prims_ok : PrimsOk Tryd.prog prims := by
  intro f g h
  unfold prims at h
  split at h
  · rename_i e; cases h; subst e
    exact closed_ok progOk mixed prims0_ok ⟨_, Tryd.func10, rfl⟩ rfl known_run
  · exact prims0_ok f g h
end Go.Proofs.YtpfhkjbnofgikaaDoor.Ev
