/-
  Rules that chapter 5 asks for: runes as texts; functions whose answers are reckoned from texts alone.
-/
import Derived.Test.YtnlkgnoogcakjaaGreatDoorEvAttrP
import Derived.Test.YtnlkgnoogcakjaaGreatDoorEvSymX
namespace Go.Proofs.YtnlkgnoogcakjaaGreatDoor.Ev
open Go Go.RowKit
set_option linter.unusedVariables false
set_option linter.unusedSimpArgs false
section
variable {P : Program} {prims : Prims} {ops : Array Oper} {o : Oper} {r : List Oper} {e e' : List Value} {H H1 : AH} {Q : List Value → AH → Prop}
theorem OWp.convIS {src dst : TypeId} {x : Operand} {k k2 : IntKind} {n : Int} (hg : guardA ops o e = some true) (ho : o.op = .convert src dst x) (hs : P.underlying src = some (.int k)) (hd : P.underlying dst = some .string) (hx : rho e x = .int k2 n)
    (hk : OWp P prims ops r e' H Q) (he : putE e o.dst (.string (Utf8.encode n)) = e' := by simp only [putE, rho, List.set_cons_zero, List.set_cons_succ, List.getD_cons_zero, List.getD_cons_succ]; exact rfl) : OWp P prims ops (o :: r) e H Q := by
  refine OWp.step hg (fun call => ?_) he hk
  have hf : flatOp P o (rho e) = some (.string (Utf8.encode n)) := by
    refine flat_op (by rw [ho]; simp [Op.operands, hx, flatB, flat2, flat1, atomB]) ?_ rfl
    unfold execOp
    rw [ho]
    simp only [hx, convert, pr_bind, pr_pure, Option.bind_some, pr_underlying hs, pr_underlying hd, Conv.intToString]
  unfold evOp
  simp only [ho, hx, convertA_int hs, hf, Option.map_some]
end
theorem flat_ok {P : Program} (hp : ProgOk P) (hd : P.follows .mixedOrders = true) {prims : Prims} (hpr : PrimsOk P prims) {f : FuncId} {g : List Value → AH → Option (Value × AH)} (hf : ∃ fn, P.funcs[f]? = some fn ∧ fn.body.isSome = true)
    (h : ∀ args H v H', g args H = some (v, H') → H' = H ∧ args.all flatB = true ∧ flatB v = true ∧ FWp P prims f args AH.empty fun u _ => u = v) : CallOk P (fun f' args H => if f' = f then g args H else none) := by
  refine prim_ok hf fun args H v H' hg => ?_
  obtain ⟨h1, h2, h3, h4⟩ := h args H v H' hg
  refine ⟨h1, h2, h3, fun w hT => ?_⟩
  exact law_calls hp hd hpr h3 h4 (sim_empty hT) (fun c r δ b h => by cases h) (by simp) (fun i x y hx hy => by
    rw [List.getElem?_toArray, hx] at hy
    cases hy
    exact val_refl (List.all_eq_true.1 h2 x (List.mem_of_getElem? hx)))
end Go.Proofs.YtnlkgnoogcakjaaGreatDoor.Ev
