/-
  The functions of Go's library that chapter 17 takes by their contracts: what they compute.
-/
import Derived.Test.YtofigleaealbjaaGreatDoorEvLaw
import Derived.Test.YtofigleaealbjaaGreatDoorEvProg
import Derived.Test.YtofigleaealbjaaGreatDoorEvGhost
import Derived.Test.YtofigleaealbjaaGreatDoorEvMarkP
namespace Go.Proofs.YtofigleaealbjaaGreatDoor.Ev
open Go Go.RowKit

def asciiB (c : ByteArray) : Bool := c.data.toList.all (fun b => decide (b.toNat < 128)) && decide (c.size < 4294967281)
def primTrimL : List Value → AH → Option (Value × AH)
  | [.string s, .string c], H => if asciiB c = true then some (.string ⟨(Lib.trimLeftS s.data.toList c.data.toList).toArray⟩, H) else none
  | _, _ => none
def primTrim : List Value → AH → Option (Value × AH)
  | [.string s, .string c], H => if asciiB c = true ∧ s.size ≤ 9223372036854775807 then some (.string ⟨(Lib.trimS s.data.toList c.data.toList).toArray⟩, H) else none
  | _, _ => none
def primValid : List Value → AH → Option (Value × AH)
  | [.string s], H => if s.size ≤ 9223372036854775807 then some (.bool (Lib.validD s.data.toList), H) else none
  | _, _ => none
def primIndexByte : List Value → AH → Option (Value × AH)
  | [.string s, .int .u8 c], H => some (.int .i64 (Lib.indexByte s.data.toList c.toNat.toUInt8), H)
  | _, _ => none
def primLast : List Value → AH → Option (Value × AH)
  | [.string s], H => if s.size ≤ 9223372036854775807 then some (.tuple #[.int .i32 (Lib.decodeLastL s.data.toList).1, .int .i64 (Lib.decodeLastL s.data.toList).2], H) else none
  | _, _ => none

def primLastIndex : List Value → AH → Option (Value × AH)
  | [.string s, .string c], H => if s.size < 4611686018427387904 then some (.int .i64 (Lib.lastIndex s.data.toList c.data.toList), H) else none
  | _, _ => none
def primItoa : List Value → AH → Option (Value × AH)
  | [.int .i64 n], H => if -9223372036854775808 ≤ n ∧ n ≤ 9223372036854775807 then some (.string ⟨(Lib.itoa n).toArray⟩, H) else none
  | _, _ => none
/-- stringslite.Index, of one byte. -/
def primIndex1 : List Value → AH → Option (Value × AH)
  | [.string s, .string p], H => if p.size = 1 then some (.int .i64 (Lib.indexByte s.data.toList (p.data.getD 0 0)), H) else none
  | _, _ => none
def primAtoi : List Value → AH → Option (Value × AH)
  | [.string s], H => if s.size ≤ 281474976710656 then
      Lib.NumEnd.casesOn (motive := fun _ => Option (Value × AH)) (Lib.atoiAll s.data.toList) (fun v => some (.tuple #[.int .i64 v, .nilIface], H))
        (some (.tuple #[.int .i64 0, errVal 127 H], H.ghost)) (some (.tuple #[.int .i64 (Lib.atoiSat s.data.toList), errVal 127 H], H.ghost))
    else none
  | _, _ => none
def prims0 : Prims := fun f =>
  if f = 26 then some primTrimL else if f = 68 then some primTrim else if f = 55 then some primValid else if f = 56 then some primIndexByte else if f = 76 then some primLast else if f = 45 then some primLastIndex else if f = 79 then some primIndex1 else if f = 70 then some primItoa else if f = 46 then some primAtoi else none
def prims : Prims := fun f => if f = 7 then some (primClosed (.bool true)) else prims0 f
end Go.Proofs.YtofigleaealbjaaGreatDoor.Ev
