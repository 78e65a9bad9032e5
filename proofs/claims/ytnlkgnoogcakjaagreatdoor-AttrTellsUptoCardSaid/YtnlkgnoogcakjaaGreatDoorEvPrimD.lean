/-
  The functions of Go's library that chapter 5 takes by their contracts: what they compute.
-/
import Derived.Test.YtnlkgnoogcakjaaGreatDoorEvLaw
import Derived.Test.YtnlkgnoogcakjaaGreatDoorEvProg
import Derived.Test.YtnlkgnoogcakjaaGreatDoorEvGhost
import Derived.Test.YtnlkgnoogcakjaaGreatDoorEvOnceP
import Derived.Test.YtnlkgnoogcakjaaGreatDoorEvName
import Derived.Test.YtnlkgnoogcakjaaGreatDoorEvAttrE
import Derived.Lib.IndexAny
namespace Go.Proofs.YtnlkgnoogcakjaaGreatDoor.Ev
set_option linter.unusedVariables false
set_option linter.unusedSimpArgs false
open Go Go.RowKit

def asciiB (c : ByteArray) : Bool := c.data.toList.all (fun b => decide (b.toNat < 128)) && decide (c.size < 4294967281)
def primTrimL : List Value → AH → Option (Value × AH)
  | [.string s, .string c], H => if asciiB c = true then some (.string ⟨(Lib.trimLeftS s.data.toList c.data.toList).toArray⟩, H) else none
  | _, _ => none
def primValid : List Value → AH → Option (Value × AH)
  | [.string s], H => if s.size ≤ 9223372036854775807 then some (.bool (Lib.validD s.data.toList), H) else none
  | _, _ => none
def primIndexByte : List Value → AH → Option (Value × AH)
  | [.string s, .int .u8 c], H => some (.int .i64 (Lib.indexByte s.data.toList c.toNat.toUInt8), H)
  | _, _ => none
def primLast : List Value → AH → Option (Value × AH)
  | [.string s], H => if s.size ≤ 9223372036854775807 then some (.tuple #[.int .i32 (Lib.decodeLastL s.data.toList).1, .int .i64 (Lib.decodeLastL s.data.toList).2], H) else none
  | _, _ => none
/-- strings.Count, of one byte. -/
def primCount : List Value → AH → Option (Value × AH)
  | [.string s, .string p], H => if p.size = 1 then some (.int .i64 (Lib.countByte s.data.toList (p.data.getD 0 0)), H) else none
  | _, _ => none
/-- strings.IndexAny, of a blank and a tab. -/
def primIndexAny : List Value → AH → Option (Value × AH)
  | [.string s, .string c], H => if eqBytes c.data.toList [32, 9] = true ∧ s.size < 4294967281 then some (.int .i64 (Lib.indexAny s.data.toList [32, 9]), H) else none
  | _, _ => none
/-- A key: small letters, one at least. -/
def keyB (s : ByteArray) : Bool := s.data.toList.all (fun b => Nat.ble 97 b.toNat && Nat.ble b.toNat 122) && Nat.blt 0 s.data.toList.length
def primKey : List Value → AH → Option (Value × AH)
  | [.string s], H => if s.size ≤ 9000000 then some (.bool (keyB s), H) else none
  | _, _ => none
/-- A rune that needs quotes. -/
def quoteR (r : Nat) : Bool := Nat.beq r 9 || Nat.beq r 10 || Nat.beq r 11 || Nat.beq r 12 || Nat.beq r 13 || Nat.beq r 32 || Nat.beq r 160 || Nat.beq r 8195 || Nat.beq r 12288 || Nat.beq r 34 || Nat.beq r 61 || Nat.beq r 92
def bareB (s : ByteArray) : Bool := (runes s).all (fun r => !quoteR r) && Nat.blt 0 s.data.toList.length
def primBare : List Value → AH → Option (Value × AH)
  | [.string s], H => if s.size ≤ 9000000 then some (.bool (bareB s), H) else none
  | _, _ => none
def run00 : FuncId → Option PrimF := fun f =>
  if f = 21 then some (fun _ => primTrimL) else if f = 25 then some (fun _ => primValid) else if f = 26 then some (fun _ => primIndexByte) else if f = 54 then some (fun _ => primLast) else if f = 139 then some (fun _ => primCount) else none
def prims00 : Prims := ⟨run00, fun _ => false⟩
def run0 : FuncId → Option PrimF := fun f =>
  if f = 55 then some (fun _ => primIndexAny) else if f = 44 then some primReplace else if f = 56 then some (fun _ => primKey) else if f = 42 then some (fun _ => primBare) else run00 f
def flat0 : FuncId → Bool := fun f => Nat.beq f 56 || Nat.beq f 42
def prims0 : Prims := ⟨run0, flat0⟩
/-- A pair as it is written. -/
def textS (k s : ByteArray) : ByteArray := if s.size = 0 then ⟨#[]⟩ else if bareB s = true then ⟨#[32]⟩ ++ k ++ ⟨#[61]⟩ ++ s else ⟨#[32]⟩ ++ k ++ ⟨#[61]⟩ ++ ⟨#[34]⟩ ++ bl (escL s.data.toList) ++ ⟨#[34]⟩
def primText : List Value → AH → Option (Value × AH)
  | [.string k, .string s], H => if k.size ≤ 9000000 ∧ s.size ≤ 9000000 then some (.string (textS k s), H) else none
  | _, _ => none
def runs : FuncId → Option PrimF := fun f => if f = 9 then some (fun _ => primClosed (.bool true)) else if f = 20 then some (fun _ => primText) else run0 f
def prims : Prims := ⟨runs, flat0⟩
end Go.Proofs.YtnlkgnoogcakjaaGreatDoor.Ev
