/-
  TopStructure, in pieces: the parts of its body, and what a run is.
-/
import Derived.Test.YtaadahhjdkkkaaaGreatDoorEvVmQ
import Derived.Test.YtaadahhjdkkkaaaGreatDoorEvTab
import Derived.Test.YtaadahhjdkkkaaaGreatDoorEvVmR
namespace Go.Proofs.YtaadahhjdkkkaaaGreatDoor.Ev
set_option linter.unusedVariables false
set_option linter.unusedSimpArgs false
set_option maxRecDepth 100000
open Go
noncomputable def sL : Code → Code
  | .seq a _ => a
  | _ => .skip
noncomputable def sR : Code → Code
  | .seq _ b => b
  | _ => .skip
noncomputable def lawC : Code := ((Tryz.prog.funcs[3]?).bind (·.body)).getD .skip
noncomputable def lawT : RT := (ftOf tab 3).getD []
noncomputable def cA : Code := sL lawC
noncomputable def cB : Code := sL (sR lawC)
noncomputable def cR : Code := sR (sR lawC)
noncomputable def jk : NX (NX (NX FV)) := ini1 (ini1 (ini1 (.oo junk)))
theorem jk_ok : ∀ m, m < env3.size → env3.at_ jk m = .oo junk := fun m _ => by
  show (((ini1 (ini1 (ini1 (FV.oo junk)))).get (m / 64)).get (m / 8 % 8)).get (m % 8) = _
  rw [ini1_get, ini1_get, ini1_get]
theorem shape : lawC = .seq cA (.seq cB cR) := by kernel_rfl
noncomputable def vpS (k m : Nat) : Bool := vmPiece env3 81 Tryz.prog ffl lawT (vmFn Tryz.prog prims0 fp0 tab 5000) 5000 jk cR [(5, .nn k), (6, .ss m 0x2020202020202020)] .rt [(4, .bb true)]
end Go.Proofs.YtaadahhjdkkkaaaGreatDoor.Ev
