/-
  Functions of Go's library that are taken by their contracts: what they compute.
-/
import Derived.Test.YtfmnhifcjccjoaaGreatDoorEvLaw
import Derived.Test.YtfmnhifcjccjoaaGreatDoorEvProg
import Derived.Test.YtfmnhifcjccjoaaGreatDoorEvGhost
import Derived.Test.YtfmnhifcjccjoaaGreatDoorEvName
namespace Go.Proofs.YtfmnhifcjccjoaaGreatDoor.Ev
set_option linter.unusedVariables false
set_option linter.unusedSimpArgs false
open Go Go.RowKit

def asciiB (c : ByteArray) : Bool := c.data.toList.all (fun b => decide (b.toNat < 128)) && decide (c.size < 4294967281)
def primTrimL : List Value → AH → Option (Value × AH)
  | [.string s, .string c], H => if asciiB c = true then some (.string ⟨(Lib.trimLeftS s.data.toList c.data.toList).toArray⟩, H) else none
  | _, _ => none
def primTrim : List Value → AH → Option (Value × AH)
  | [.string s, .string c], H => if asciiB c = true ∧ s.size ≤ 9223372036854775807 then some (.string ⟨(Lib.trimS s.data.toList c.data.toList).toArray⟩, H) else none
  | _, _ => none
def primValid : List Value → AH → Option (Value × AH)
  | [.string s], H => if s.size ≤ 9223372036854775807 then some (.bool (Lib.validD s.data.toList), H) else none
  | _, _ => none
def primIndexByte : List Value → AH → Option (Value × AH)
  | [.string s, .int .u8 c], H => some (.int .i64 (Lib.indexByte s.data.toList c.toNat.toUInt8), H)
  | _, _ => none
def primLast : List Value → AH → Option (Value × AH)
  | [.string s], H => if s.size ≤ 9223372036854775807 then some (.tuple #[.int .i32 (Lib.decodeLastL s.data.toList).1, .int .i64 (Lib.decodeLastL s.data.toList).2], H) else none
  | _, _ => none
def primItoa : List Value → AH → Option (Value × AH)
  | [.int .i64 n], H => if -9223372036854775808 ≤ n ∧ n ≤ 9223372036854775807 then some (.string ⟨(Lib.itoa n).toArray⟩, H) else none
  | _, _ => none
def run0 : FuncId → Option PrimF := fun f =>
  if f = 98 then some (fun _ => primTrimL) else if f = 128 then some (fun _ => primTrim) else if f = 134 then some (fun _ => primValid) else if f = 130 then some (fun _ => primIndexByte) else if f = 149 then some (fun _ => primLast) else if f = 116 then some (fun _ => primItoa) else none
def prims0 : Prims := ⟨run0, fun _ => false⟩
end Go.Proofs.YtfmnhifcjccjoaaGreatDoor.Ev
