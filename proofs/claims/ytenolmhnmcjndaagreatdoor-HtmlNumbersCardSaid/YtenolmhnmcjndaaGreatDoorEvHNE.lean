/-
  HtmlNumbers: the second loop, the ends.
-/
import Derived.Test.YtenolmhnmcjndaaGreatDoorEvHN
namespace Go.Proofs.YtenolmhnmcjndaaGreatDoor.Ev
set_option linter.unusedVariables false
set_option linter.unusedSimpArgs false
set_option maxRecDepth 100000
open Go
theorem gA : vp cA [] .nx [] = true := by kernel_rfl
theorem gC1 : vp c1 [] .nx [(1, .nn 0)] = true := by kernel_rfl
theorem gE1 : vp b1 [(1, .nn 60)] (.ex 0) [] = true := by kernel_rfl
noncomputable def cL2 : Code := .seq c2 (.block 2 (.loop b2))
theorem gL2 : vp cL2 [] .nx [] = true := by kernel_rfl
theorem gE : vp cE [] .rt [(0, .bb true)] = true := by kernel_rfl
theorem tcA : chkCode Tryz.prog ffl lawT cA = true := by kernel_rfl
theorem tc1 : chkCode Tryz.prog ffl lawT c1 = true := by kernel_rfl
theorem tb1 : chkCode Tryz.prog ffl lawT b1 = true := by kernel_rfl
theorem tcL2 : chkCode Tryz.prog ffl lawT cL2 = true := by kernel_rfl
theorem tcE : chkCode Tryz.prog ffl lawT cE = true := by kernel_rfl
end Go.Proofs.YtenolmhnmcjndaaGreatDoor.Ev
