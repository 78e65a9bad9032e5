/-
  ExpandNumbers: its ends, reckoned by the machine.
-/
import Derived.Test.YtfmnhifcjccjoaaGreatDoorEvEN
namespace Go.Proofs.YtfmnhifcjccjoaaGreatDoor.Ev
set_option linter.unusedVariables false
set_option linter.unusedSimpArgs false
set_option maxRecDepth 100000
open Go
theorem gA : vp cA [] .nx [] = true := by kernel_rfl
theorem gC : vp cC [] .nx [(1, .nn 0)] = true := by kernel_rfl
theorem gE : vp cB [(1, .nn 60)] (.ex 0) [] = true := by kernel_rfl
theorem gD : vp cD [] .rt [(0, .bb true)] = true := by kernel_rfl
theorem tA : chkCode Tryz.prog (fun _ => false) lawT cA = true := by kernel_rfl
theorem tB : chkCode Tryz.prog (fun _ => false) lawT cB = true := by kernel_rfl
theorem tC : chkCode Tryz.prog (fun _ => false) lawT cC = true := by kernel_rfl
theorem tD : chkCode Tryz.prog (fun _ => false) lawT cD = true := by kernel_rfl
end Go.Proofs.YtfmnhifcjccjoaaGreatDoor.Ev
