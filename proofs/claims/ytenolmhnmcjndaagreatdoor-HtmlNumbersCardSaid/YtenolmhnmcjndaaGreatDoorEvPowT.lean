/-
  The powers of ten, as the rows lay them.
-/
import Derived.Test.YtenolmhnmcjndaaGreatDoorEvPost
import Derived.Test.YtenolmhnmcjndaaGreatDoorEvProg
import Derived.Lib.LaidTab
import Derived.Lib.LaidU8T
import Derived.Lib.SmallJoins
namespace Go.Proofs.YtenolmhnmcjndaaGreatDoor.Ev
set_option linter.unusedVariables false
set_option linter.unusedSimpArgs false
open Go Go.RowKit Go.ChangeShapes Go.WideShapes Go.Lib
section
variable {W : World}
theorem heap_of_var {P : Program} {n : String} {g : Nat} {cs : Array Value} (hg : P.globalNamed n = some g) (h : W.var? P n = some cs) : ∃ e fr, W.heap[(g : Nat)]? = some (.cells cs e fr) := by
  unfold World.var? at h
  rw [hg] at h
  have h : (match W.heap[(g : Nat)]? with | some (.cells cs _ _) => some cs | _ => none) = some cs := h
  split at h
  · rename_i c e fr hh; cases h; exact ⟨e, fr, hh⟩
  · cases h
theorem pow_of_reads {te t : TypeId} (hn : Tryz.prog.globalNamed "internal/strconv.uint64pow10" = some 3) (ht : (Tryz.prog.globals[(3 : Nat)]?).map (·.type) = some t) (h1 : Tryz.prog.underlying t = some (.array 20 te)) (h2 : Tryz.prog.underlying te = some (.int .u64)) (h3 : Tryz.prog.cellsOf te = 1) (h4 : Tryz.prog.cellsOf t = 20)
    (h : VarReads Tryz.prog W "internal/strconv.uint64pow10" (tabData .u64 Lib.pow10Tab)) : Pow10 W := by
  obtain ⟨g', t', cs, fuel, p, hg, hty, hvar, hd⟩ := h
  obtain rfl := Option.some.inj (ht.symm.trans (by rw [Option.some.inj (hn.symm.trans hg)]; exact hty))
  have hcs := cells_of_tab h1 h2 h3 h4 hd
  obtain ⟨e, fr, hh⟩ := heap_of_var hn hvar
  exact ⟨e, fr, by rw [hh, show cs = (Lib.pow10Tab.map fun z => Value.int .u64 z).toArray from by rw [← hcs]]⟩
end
end Go.Proofs.YtenolmhnmcjndaaGreatDoor.Ev
