/-
  HtmlNumbers, in pieces: the parts of its body, and what a piece is.
-/
import Derived.Test.YtenolmhnmcjndaaGreatDoorEvVmQ
import Derived.Test.YtenolmhnmcjndaaGreatDoorEvTab
import Derived.Test.YtenolmhnmcjndaaGreatDoorEvVmM
namespace Go.Proofs.YtenolmhnmcjndaaGreatDoor.Ev
set_option linter.unusedVariables false
set_option linter.unusedSimpArgs false
set_option maxRecDepth 100000
open Go
noncomputable def sL : Code → Code
  | .seq a _ => a
  | _ => .skip
noncomputable def sR : Code → Code
  | .seq _ b => b
  | _ => .skip
noncomputable def sB : Code → Code
  | .block _ (.loop c) => c
  | _ => .skip
noncomputable def lawC : Code := ((Tryz.prog.funcs[4]?).bind (·.body)).getD .skip
noncomputable def lawT : RT := (ftOf tab 4).getD []
noncomputable def cA : Code := sL lawC
noncomputable def c1 : Code := sL (sL (sR lawC))
noncomputable def b1 : Code := sB (sR (sL (sR lawC)))
noncomputable def c2 : Code := sL (sL (sR (sR lawC)))
noncomputable def b2 : Code := sB (sR (sL (sR (sR lawC))))
noncomputable def cE : Code := sR (sR (sR lawC))
noncomputable def jk : NX (NX FV) := ini1 (ini1 (.oo junk))
theorem jk_ok : ∀ m, m < env2.size → env2.at_ jk m = .oo junk := fun m _ => by
  show ((ini1 (ini1 (FV.oo junk))).get (m / 8)).get (m % 8) = _
  rw [ini1_get, ini1_get]
theorem shape : lawC = .seq cA (.seq (.seq c1 (.block 0 (.loop b1))) (.seq (.seq c2 (.block 2 (.loop b2))) cE)) := by kernel_rfl
noncomputable def vp (c : Code) (l : List (Nat × FV)) (st : St) (l' : List (Nat × FV)) : Bool := vmPiece env2 55 Tryz.prog ffl lawT (vmFn Tryz.prog prims0 fp0 tab 5000) 5000 jk c l st l'
noncomputable def vp1 (k : Nat) : Bool := natK (fun k => vp b1 [(1, .nn k)] .nx [(1, .nn (Nat.succ k))]) k
/-- -2, -1, 0, .. -/
def kindF : Nat → FV
  | 0 => .ii .i64 (-2)
  | 1 => .ii .i64 (-1)
  | k + 2 => .nn k
noncomputable def vp2 (k : Nat) : Bool := vp b2 [(4, kindF k)] .nx [(4, kindF (k + 1))]
end Go.Proofs.YtenolmhnmcjndaaGreatDoor.Ev
