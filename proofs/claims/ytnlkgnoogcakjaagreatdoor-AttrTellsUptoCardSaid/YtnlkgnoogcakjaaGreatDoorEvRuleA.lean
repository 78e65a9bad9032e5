/-
  Rules for values behind interfaces.
-/
import Derived.Test.YtnlkgnoogcakjaaGreatDoorEvStrA
import Derived.Test.YtnlkgnoogcakjaaGreatDoorEvAttrP
namespace Go.Proofs.YtnlkgnoogcakjaaGreatDoor.Ev
open Go
set_option linter.unusedVariables false
set_option linter.unusedSimpArgs false
section
variable {prims : Prims} {ops : Array Oper} {o : Oper} {r : List Oper} {e e' : List Value} {H H0 H1 H2 : AH} {Q : List Value → AH → Prop} {l : List (Nat × Obj)}
def AnyV.text : AnyV → ByteArray
  | .str s => s
  | _ => ⟨#[]⟩
def AnyV.isS : AnyV → Bool
  | .str _ => true
  | _ => false
def AnyV.isT : AnyV → Bool
  | .tt => true
  | _ => false
theorem AnyV.fl (a : AnyV) : flatB a.v = true := by cases a <;> rfl
theorem OWp.assertS {x : Operand} (a : AnyV) (hg : guardA ops o e = some true) (ho : o.op = .typeAssert x 20 9 true) (hx : rho e x = a.v)
    (hk : OWp Tryz.prog prims ops r e' H Q) (he : putE e o.dst (.tuple #[.string a.text, .bool a.isS]) = e' := by simp only [putE, rho, List.set_cons_zero, List.set_cons_succ, List.getD_cons_zero, List.getD_cons_succ]; exact rfl) : OWp Tryz.prog prims ops (o :: r) e H Q := by
  refine OWp.step hg (fun call => ?_) he hk
  have hf : flatOp Tryz.prog o (rho e) = some (.tuple #[.string a.text, .bool a.isS]) := by
    refine flat_op (by rw [ho]; simp [Op.operands, hx, a.fl]) ?_ rfl
    unfold execOp
    rw [ho]
    simp only [hx]
    cases a with
    | nil => kernel_rfl
    | str s => kernel_rfl
    | tt => kernel_rfl
  unfold evOp
  simp only [ho, hf, Option.map_some]
theorem OWp.assertB {x : Operand} (a : AnyV) (hg : guardA ops o e = some true) (ho : o.op = .typeAssert x 20 4 true) (hx : rho e x = a.v)
    (hk : OWp Tryz.prog prims ops r e' H Q) (he : putE e o.dst (.tuple #[.bool a.isT, .bool a.isT]) = e' := by simp only [putE, rho, List.set_cons_zero, List.set_cons_succ, List.getD_cons_zero, List.getD_cons_succ]; exact rfl) : OWp Tryz.prog prims ops (o :: r) e H Q := by
  refine OWp.step hg (fun call => ?_) he hk
  have hf : flatOp Tryz.prog o (rho e) = some (.tuple #[.bool a.isT, .bool a.isT]) := by
    refine flat_op (by rw [ho]; simp [Op.operands, hx, a.fl]) ?_ rfl
    unfold execOp
    rw [ho]
    simp only [hx]
    cases a with
    | nil => kernel_rfl
    | str s => kernel_rfl
    | tt => kernel_rfl
  unfold evOp
  simp only [ho, hf, Option.map_some]
theorem OWp.assertM {x : Operand} (a : AnyV) (ha : a.isS = true) (hg : guardA ops o e = some true) (ho : o.op = .typeAssert x 20 9 false) (hx : rho e x = a.v)
    (hk : OWp Tryz.prog prims ops r e' H Q) (he : putE e o.dst (.string a.text) = e' := by simp only [putE, rho, List.set_cons_zero, List.set_cons_succ, List.getD_cons_zero, List.getD_cons_succ]; exact rfl) : OWp Tryz.prog prims ops (o :: r) e H Q := by
  refine OWp.step hg (fun call => ?_) he hk
  have hf : flatOp Tryz.prog o (rho e) = some (.string a.text) := by
    refine flat_op (by rw [ho]; simp [Op.operands, hx, a.fl]) ?_ rfl
    unfold execOp
    rw [ho]
    simp only [hx]
    cases a with
    | nil => cases ha
    | str s => kernel_rfl
    | tt => cases ha
  unfold evOp
  simp only [ho, hf, Option.map_some]
end
end Go.Proofs.YtnlkgnoogcakjaaGreatDoor.Ev
