/-
  ExpandNumbers, in pieces: the parts of its body, and what a piece is.
-/
import Derived.Test.YtfmnhifcjccjoaaGreatDoorEvVmQ
import Derived.Test.YtfmnhifcjccjoaaGreatDoorEvTab
import Derived.Test.YtfmnhifcjccjoaaGreatDoorEvVmR
namespace Go.Proofs.YtfmnhifcjccjoaaGreatDoor.Ev
set_option linter.unusedVariables false
set_option linter.unusedSimpArgs false
set_option maxRecDepth 100000
open Go
noncomputable def sL : Code → Code
  | .seq a _ => a
  | _ => .skip
noncomputable def sR : Code → Code
  | .seq _ b => b
  | _ => .skip
noncomputable def sB : Code → Code
  | .block _ (.loop c) => c
  | _ => .skip
noncomputable def lawC : Code := ((Tryz.prog.funcs[3]?).bind (·.body)).getD .skip
noncomputable def lawT : RT := (ftOf tab 3).getD []
noncomputable def cA : Code := sL lawC
noncomputable def cC : Code := sL (sL (sR lawC))
noncomputable def cB : Code := sB (sR (sL (sR lawC)))
noncomputable def cD : Code := sR (sR lawC)
noncomputable def jk : NX (NX (NX FV)) := ini1 (ini1 (ini1 (.oo junk)))
theorem jk_ok : ∀ m, m < env3.size → env3.at_ jk m = .oo junk := fun m _ => by
  show (((ini1 (ini1 (ini1 (FV.oo junk)))).get (m / 64)).get (m / 8 % 8)).get (m % 8) = _
  rw [ini1_get, ini1_get, ini1_get]
theorem shape : lawC = .seq cA (.seq (.seq cC (.block 0 (.loop cB))) cD) := by kernel_rfl
noncomputable def vp (c : Code) (l : List (Nat × FV)) (st : St) (l' : List (Nat × FV)) : Bool := vmPiece env3 91 Tryz.prog (fun _ => false) lawT (vmFn Tryz.prog prims0 fp0 tab 5000) 5000 jk c l st l'
noncomputable def vpR (k : Nat) : Bool := natK (fun k => vp cB [(1, .nn k)] .nx [(1, .nn (Nat.succ k))]) k
end Go.Proofs.YtfmnhifcjccjoaaGreatDoor.Ev
