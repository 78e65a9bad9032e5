/-
  The program's tables are as the evaluator asks.
-/
import Derived.Test.YtenolmhnmcjndaaGreatDoorEvBack
import Derived.Test.YtenolmhnmcjndaaGreatDoorProg
import Derived.KernelRfl
namespace Go.Proofs.YtenolmhnmcjndaaGreatDoor.Ev
set_option linter.unusedVariables false
set_option linter.unusedSimpArgs false
open Go
theorem mixed : Tryz.prog.follows .mixedOrders = true := by kernel_rfl
theorem names_ok : Tryz.prog.funcs.toList.all (fun fn => !(fn.name == "runtime.NumGoroutine")) = true := by kernel_rfl
theorem progOk : ProgOk Tryz.prog where
  back := backOk
  name := fun f fn hf _ => by
    have := List.all_eq_true.1 names_ok fn (by rw [Array.mem_toList_iff]; exact Array.mem_of_getElem? hf)
    simpa using this
end Go.Proofs.YtenolmhnmcjndaaGreatDoor.Ev
