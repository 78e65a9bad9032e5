/-
  Functions of Go's library that are taken by their contracts: what they compute.
-/
import Derived.Test.YtenolmhnmcjndaaGreatDoorEvLaw
import Derived.Test.YtenolmhnmcjndaaGreatDoorEvProg
import Derived.Test.YtenolmhnmcjndaaGreatDoorEvGhost
import Derived.Test.YtenolmhnmcjndaaGreatDoorEvName
import Derived.Test.YtenolmhnmcjndaaGreatDoorEvBld
import Derived.Lib.LastIndexLaws
import Derived.Lib.IndexAny
import Derived.Lib.AtoiAll
import Derived.Lib.ItoaNum
import Derived.Lib.Repeat
import Derived.Lib.CountLaws
namespace Go.Proofs.YtenolmhnmcjndaaGreatDoor.Ev
set_option linter.unusedVariables false
set_option linter.unusedSimpArgs false
open Go Go.RowKit

def asciiB (c : ByteArray) : Bool := c.data.toList.all (fun b => decide (b.toNat < 128)) && decide (c.size < 4294967281)
def primTrimL : List Value → AH → Option (Value × AH)
  | [.string s, .string c], H => if asciiB c = true then some (.string ⟨(Lib.trimLeftS s.data.toList c.data.toList).toArray⟩, H) else none
  | _, _ => none
def primTrim : List Value → AH → Option (Value × AH)
  | [.string s, .string c], H => if asciiB c = true ∧ s.size ≤ 9223372036854775807 then some (.string ⟨(Lib.trimS s.data.toList c.data.toList).toArray⟩, H) else none
  | _, _ => none
def primTrimR : List Value → AH → Option (Value × AH)
  | [.string s, .string c], H => if asciiB c = true ∧ s.size ≤ 9223372036854775807 then some (.string ⟨(Lib.trimRightS s.data.toList c.data.toList).toArray⟩, H) else none
  | _, _ => none
def primValid : List Value → AH → Option (Value × AH)
  | [.string s], H => if s.size ≤ 9223372036854775807 then some (.bool (Lib.validD s.data.toList), H) else none
  | _, _ => none
def primIndexByte : List Value → AH → Option (Value × AH)
  | [.string s, .int .u8 c], H => some (.int .i64 (Lib.indexByte s.data.toList c.toNat.toUInt8), H)
  | _, _ => none
def primLast : List Value → AH → Option (Value × AH)
  | [.string s], H => if s.size ≤ 9223372036854775807 then some (.tuple #[.int .i32 (Lib.decodeLastL s.data.toList).1, .int .i64 (Lib.decodeLastL s.data.toList).2], H) else none
  | _, _ => none
def primIndex1 : List Value → AH → Option (Value × AH)
  | [.string s, .string p], H => if p.size = 1 then some (.int .i64 (Lib.indexByte s.data.toList (p.data.getD 0 0)), H) else none
  | _, _ => none
def primCount : List Value → AH → Option (Value × AH)
  | [.string s, .string p], H => if p.size = 1 then some (.int .i64 (Lib.countByte s.data.toList (p.data.getD 0 0)), H) else none
  | _, _ => none
def primIndexAny : List Value → AH → Option (Value × AH)
  | [.string s, .string c], H => if (asciiB s || (Nat.blt 8 s.size && Nat.blt 1 c.size && decide (s.size < 4294967281))) = true ∧ asciiB c = true then some (.int .i64 (Lib.indexAny s.data.toList c.data.toList), H) else none
  | _, _ => none
def primRepeat : List Value → AH → Option (Value × AH)
  | [.string s, .int .i64 c], H => if 0 ≤ c ∧ c ≤ 1000000 ∧ s.size ≤ 1000000 then some (.string ⟨(Lib.repeatL s.data.toList c.toNat).toArray⟩, H) else none
  | _, _ => none
def primItoa : List Value → AH → Option (Value × AH)
  | [.int .i64 n], H => if -9223372036854775808 ≤ n ∧ n ≤ 9223372036854775807 then some (.string ⟨(Lib.itoa n).toArray⟩, H) else none
  | _, _ => none
def bt : BT := [(74, 2, 0), (186, 7, 3)]
def ffl : FuncId → Bool := fun f => Nat.beq f 329 || Nat.beq f 330
theorem ite_cases {α : Type} {p : Prop} [Decidable p] {a b x : α} (h : (if p then a else b) = x) : (p ∧ a = x) ∨ (¬ p ∧ b = x) := by
  by_cases hp : p
  · rw [if_pos hp] at h; exact .inl ⟨hp, h⟩
  · rw [if_neg hp] at h; exact .inr ⟨hp, h⟩
noncomputable def run0 : FuncId → Option PrimF := fun f =>
  if f = 269 then some (fun _ => primTrimL) else if f = 114 then some (fun _ => primTrim) else if f = 288 then some (fun _ => primTrimR) else if f = 134 then some (fun _ => primValid) else if f = 93 then some (fun _ => primIndexByte) else if f = 198 then some (fun _ => primLast) else if f = 249 then some (fun _ => primIndex1) else if f = 175 then some (fun _ => primCount) else if f = 328 then some (fun _ => primIndexAny) else if f = 205 then some (fun _ => primRepeat) else if f = 52 then some (fun _ => primItoa) else if f = 104 then some (fun _ => primCC bt) else if f = 61 then some (fun _ => primStr 5) else if f = 148 then some (fun _ => primJoin) else if f = 329 then some (fun _ => primFlat Tryz.prog 329) else if f = 330 then some (fun _ => primFlat Tryz.prog 330) else none
noncomputable def prims0 : Prims := ⟨run0, ffl⟩
end Go.Proofs.YtenolmhnmcjndaaGreatDoor.Ev
