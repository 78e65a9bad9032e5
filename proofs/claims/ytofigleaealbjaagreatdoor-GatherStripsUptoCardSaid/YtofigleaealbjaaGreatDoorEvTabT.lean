/-
  What a card whose row has sentinel variables needs: that the rows' laid variables are what the evaluator takes for granted.
-/
import Derived.Test.YtofigleaealbjaaGreatDoorEvPost
import Derived.Test.YtofigleaealbjaaGreatDoorEvProg
import Derived.Lib.SmallJoins
import Derived.Lib.LaidU8T
namespace Go.Proofs.YtofigleaealbjaaGreatDoor.Ev
open Go Go.RowKit Go.ChangeShapes Go.WideShapes Go.Lib
set_option maxRecDepth 100000
section
variable {W : World}

/-! ### The laid variables -/
theorem heap_of_var {P : Program} {n : String} {g : Nat} {cs : Array Value} (hg : P.globalNamed n = some g) (h : W.var? P n = some cs) : ∃ e fr, W.heap[(g : Nat)]? = some (.cells cs e fr) := by
  unfold World.var? at h
  rw [hg] at h
  have h : (match W.heap[(g : Nat)]? with | some (.cells cs _ _) => some cs | _ => none) = some cs := h
  split at h
  · rename_i c e fr hh; cases h; exact ⟨e, fr, hh⟩
  · cases h
theorem err_of_reads {name : String} {g : Nat} {d : DataW Unit} {te : TypeId} {ms : Array (String × TypeId)} (hn : Tryz.prog.globalNamed name = some g) (ht : (Tryz.prog.globals[g]?).map (·.type) = some te) (hte : Tryz.prog.underlying te = some (.interface ms)) (h : VarReads Tryz.prog W name d) : ErrIs g W := by
  obtain ⟨g', t, cs, fuel, p, hg, hty, hvar, hd⟩ := h
  obtain rfl := Option.some.inj (hn.symm.trans hg)
  obtain rfl := Option.some.inj (ht.symm.trans hty)
  have key : cs.toList = [.nilIface] ∨ ∃ u v, cs.toList = [.iface u v] := by
    cases fuel with
    | zero => simp [DataW.trod] at hd
    | succ fuel =>
      unfold DataW.trod at hd
      rw [hte] at hd
      split at hd <;> first
        | (rename_i h1 _; cases h1; done)
        | (rename_i h1 h2; exact .inl h2)
        | (rename_i h1 h2; exact .inr ⟨_, _, h2⟩)
        | skip
      all_goals first | (cases hd; done) | (exfalso; simp_all; done)
  have hc := World.var?_cell hn hvar 0
  rcases key with h1 | ⟨u, v, h1⟩
  · exact ⟨.nilIface, by rw [hc, ← Array.getElem?_toList, h1]; rfl, .inl rfl⟩
  · exact ⟨.iface u v, by rw [hc, ← Array.getElem?_toList, h1]; rfl, .inr ⟨u, v, rfl⟩⟩
theorem pow_of_reads {te t : TypeId} (hn : Tryz.prog.globalNamed "internal/strconv.uint64pow10" = some 5) (ht : (Tryz.prog.globals[(5 : Nat)]?).map (·.type) = some t) (h1 : Tryz.prog.underlying t = some (.array 20 te)) (h2 : Tryz.prog.underlying te = some (.int .u64)) (h3 : Tryz.prog.cellsOf te = 1) (h4 : Tryz.prog.cellsOf t = 20)
    (h : VarReads Tryz.prog W "internal/strconv.uint64pow10" (tabData .u64 Lib.pow10Tab)) : Pow10 W := by
  obtain ⟨g', t', cs, fuel, p, hg, hty, hvar, hd⟩ := h
  obtain rfl := Option.some.inj (ht.symm.trans (by rw [Option.some.inj (hn.symm.trans hg)]; exact hty))
  have hcs := cells_of_tab h1 h2 h3 h4 hd
  obtain ⟨e, fr, hh⟩ := heap_of_var hn hvar
  exact ⟨e, fr, by rw [hh, show cs = (Lib.pow10Tab.map fun z => Value.int .u64 z).toArray from by rw [← hcs]]⟩
end
end Go.Proofs.YtofigleaealbjaaGreatDoor.Ev
