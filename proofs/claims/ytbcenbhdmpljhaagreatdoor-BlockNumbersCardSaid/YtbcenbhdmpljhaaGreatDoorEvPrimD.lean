/-
  Functions of Go's library that are taken by their contracts: what they compute.
-/
import Derived.Test.YtbcenbhdmpljhaaGreatDoorEvLaw
import Derived.Test.YtbcenbhdmpljhaaGreatDoorEvProg
import Derived.Test.YtbcenbhdmpljhaaGreatDoorEvGhost
import Derived.Test.YtbcenbhdmpljhaaGreatDoorEvName
import Derived.Test.YtbcenbhdmpljhaaGreatDoorEvBld
import Derived.Lib.LastIndexLaws
import Derived.Lib.IndexAny
import Derived.Lib.AtoiAll
import Derived.Lib.ItoaNum
import Derived.Lib.Repeat
namespace Go.Proofs.YtbcenbhdmpljhaaGreatDoor.Ev
set_option linter.unusedVariables false
set_option linter.unusedSimpArgs false
open Go Go.RowKit

def asciiB (c : ByteArray) : Bool := c.data.toList.all (fun b => decide (b.toNat < 128)) && decide (c.size < 4294967281)
def primTrimR : List Value → AH → Option (Value × AH)
  | [.string s, .string c], H => if asciiB c = true ∧ s.size ≤ 9223372036854775807 then some (.string ⟨(Lib.trimRightS s.data.toList c.data.toList).toArray⟩, H) else none
  | _, _ => none
def primTrim : List Value → AH → Option (Value × AH)
  | [.string s, .string c], H => if asciiB c = true ∧ s.size ≤ 9223372036854775807 then some (.string ⟨(Lib.trimS s.data.toList c.data.toList).toArray⟩, H) else none
  | _, _ => none
def primIndexByte : List Value → AH → Option (Value × AH)
  | [.string s, .int .u8 c], H => some (.int .i64 (Lib.indexByte s.data.toList c.toNat.toUInt8), H)
  | _, _ => none
def primRepeat : List Value → AH → Option (Value × AH)
  | [.string s, .int .i64 c], H => if 0 ≤ c ∧ c ≤ 1000000 ∧ s.size ≤ 1000000 then some (.string ⟨(Lib.repeatL s.data.toList c.toNat).toArray⟩, H) else none
  | _, _ => none
def bt : BT := [(89, 2, 0)]
def ffl : FuncId → Bool := fun f => false
theorem ite_cases {α : Type} {p : Prop} [Decidable p] {a b x : α} (h : (if p then a else b) = x) : (p ∧ a = x) ∨ (¬ p ∧ b = x) := by
  by_cases hp : p
  · rw [if_pos hp] at h; exact .inl ⟨hp, h⟩
  · rw [if_neg hp] at h; exact .inr ⟨hp, h⟩
noncomputable def run0 : FuncId → Option PrimF := fun f =>
  if f = 82 then some (fun _ => primTrimR) else if f = 60 then some (fun _ => primTrim) else if f = 81 then some (fun _ => primIndexByte) else if f = 52 then some (fun _ => primRepeat) else if f = 61 then some (fun _ => primCC bt) else if f = 38 then some (fun _ => primStr 5) else if f = 39 then some (fun _ => primJoin) else none
noncomputable def prims0 : Prims := ⟨run0, ffl⟩
end Go.Proofs.YtbcenbhdmpljhaaGreatDoor.Ev
