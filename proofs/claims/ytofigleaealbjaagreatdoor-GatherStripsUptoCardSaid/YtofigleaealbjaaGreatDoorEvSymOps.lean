/-
  The evaluator at values that stand for any: operations on numbers, truths and strings.
-/
import Derived.Test.YtofigleaealbjaaGreatDoorEvSym
import Derived.Laws.BitsLemmas

namespace Go.Proofs.YtofigleaealbjaaGreatDoor.Ev
set_option linter.unusedVariables false
set_option linter.unusedSimpArgs false
open Go
section
variable {P : Program} {prims : Prims} {ops : Array Oper} {o : Oper} {r : List Oper} {e e' : List Value} {H H1 : AH} {Q : List Value → AH → Prop}

theorem pr_bind {α β : Type} (x : Sem α) (f : α → Sem β) : pureRun P (x >>= f) = (pureRun P x).bind fun a => pureRun P (f a) := by
  show pureRun P (x.bind f) = _
  induction x with
  | pure a => rfl
  | program k ih => simp only [Sem.bind, pureRun]; exact ih P
  | mark m k ih => simp only [Sem.bind, pureRun]; exact ih
  | _ => rfl
theorem pr_pure {α : Type} (a : α) : pureRun P (pure a : Sem α) = some a := rfl
theorem pr_underlying {t : TypeId} {d : TypeDesc} (h : P.underlying t = some d) : pureRun P (underlying t) = some d := by
  simp only [underlying, program, pr_bind, pureRun, Option.bind_some, h]
  rfl

theorem eqA_int {t : TypeId} {k : IntKind} {a : Int} {y : Value} : eqA P H t (.int k a) y = none := by unfold eqA; split <;> simp_all
theorem eqA_bool {t : TypeId} {a : Bool} {y : Value} : eqA P H t (.bool a) y = none := by unfold eqA; split <;> simp_all
theorem eqA_string {t : TypeId} {a : ByteArray} {y : Value} : eqA P H t (.string a) y = none := by unfold eqA; split <;> simp_all

theorem dec_eq (a b : Int) : (a == b) = decide (a = b) := rfl
theorem dec_ne (a b : Int) : (a != b) = decide (¬ a = b) := by simp [bne, dec_eq]
theorem dec_str (a b : ByteArray) : (a.toList == b.toList) = decide (a = b) := by
  have h : a.toList = b.toList ↔ a = b := by
    constructor
    · intro h
      have h1 : ∀ x : ByteArray, x.toList = x.data.toList := fun x => ByteArray.toList_eq x
      rw [h1, h1] at h
      cases a; cases b
      simp only at h
      congr 1
      exact Array.toList_inj.1 h
    · rintro rfl; rfl
  rw [Bool.eq_iff_iff]
  simp [h]
/-- What an operation on two numbers gives. -/
def binI (op : BinOp) (k : IntKind) (a b : Int) : Option Value :=
  match op with
  | .add => some (.int k (k.wrap (a + b)))
  | .sub => some (.int k (k.wrap (a - b)))
  | .mul => some (.int k (k.wrap (a * b)))
  | .eql => some (.bool (decide (a = b)))
  | .neq => some (.bool (decide (¬ a = b)))
  | .lss => some (.bool (decide (a < b)))
  | .leq => some (.bool (decide (a ≤ b)))
  | .gtr => some (.bool (decide (a > b)))
  | .geq => some (.bool (decide (a ≥ b)))
  | _ => none

theorem OWp.binI {op : BinOp} {t t' : TypeId} {x y : Operand} {k : IntKind} {a b : Int} {v : Value} (hg : guardA ops o e = some true) (ho : o.op = .binOp op t x y t') (hx : rho e x = .int k a) (hy : rho e y = .int k b)
    (hv : Ev.binI op k a b = some v) (hk : OWp P prims ops r e' H Q) (he : putE e o.dst v = e' := by simp only [putE, rho, List.set_cons_zero, List.set_cons_succ, List.getD_cons_zero, List.getD_cons_succ, flatB, flat2, flat1, atomB, cond_true, List.all_nil, List.all_toArray]; exact rfl) : OWp P prims ops (o :: r) e H Q := by
  refine OWp.step hg (fun call => ?_) he hk
  have hf : flatOp P o (rho e) = some v := by
    refine flat_op (by rw [ho]; simp [Op.operands, hx, hy, flatB, flat2, flat1, atomB]) ?_ ?_
    · unfold execOp
      rw [ho]
      simp only [hx, hy]
      cases op <;> simp only [Ev.binI] at hv <;> first | (cases hv; done) | (cases hv; simp [eqGuard, Go.binOp, Op.intArith, Op.intCmp, dec_eq, dec_ne]; rfl)
    · cases op <;> simp only [Ev.binI] at hv <;> cases hv <;> rfl
  unfold evOp
  simp only [ho, hx, hy, eqA_int, hf, Option.map_some]


/-- What an operation on two strings gives. -/
def binS (op : BinOp) (a b : ByteArray) : Option Value :=
  match op with
  | .eql => some (.bool (decide (a = b)))
  | .neq => some (.bool (decide (¬ a = b)))
  | _ => none

theorem OWp.binS {op : BinOp} {t t' : TypeId} {x y : Operand} {a b : ByteArray} {v : Value} (hg : guardA ops o e = some true) (ho : o.op = .binOp op t x y t') (hx : rho e x = .string a) (hy : rho e y = .string b)
    (hv : Ev.binS op a b = some v) (hk : OWp P prims ops r e' H Q) (he : putE e o.dst v = e' := by simp only [putE, rho, List.set_cons_zero, List.set_cons_succ, List.getD_cons_zero, List.getD_cons_succ, flatB, flat2, flat1, atomB, cond_true, List.all_nil, List.all_toArray]; exact rfl) : OWp P prims ops (o :: r) e H Q := by
  refine OWp.step hg (fun call => ?_) he hk
  have hf : flatOp P o (rho e) = some v := by
    refine flat_op (by rw [ho]; simp [Op.operands, hx, hy, flatB, flat2, flat1, atomB]) ?_ ?_
    · unfold execOp
      rw [ho]
      simp only [hx, hy]
      cases op <;> simp only [Ev.binS] at hv <;> first | (cases hv; done) | (cases hv; simp [eqGuard, Go.binOp, Op.stringOp, dec_str]; rfl)
    · cases op <;> simp only [Ev.binS] at hv <;> cases hv <;> rfl
  unfold evOp
  simp only [ho, hx, eqA_string, hf, Option.map_some]

theorem OWp.catS {t t' : TypeId} {x y : Operand} {a b : ByteArray} (hg : guardA ops o e = some true) (ho : o.op = .binOp .add t x y t') (hx : rho e x = .string a) (hy : rho e y = .string b)
    (hs : a.size + b.size ≤ 9223372036854775807) (hk : OWp P prims ops r e' H Q) (he : putE e o.dst (.string (a ++ b)) = e' := by simp only [putE, rho, List.set_cons_zero, List.set_cons_succ, List.getD_cons_zero, List.getD_cons_succ, flatB, flat2, flat1, atomB, cond_true, List.all_nil, List.all_toArray]; exact rfl) : OWp P prims ops (o :: r) e H Q := by
  refine OWp.step hg (fun call => ?_) he hk
  have hf : flatOp P o (rho e) = some (.string (a ++ b)) := by
    refine flat_op (by rw [ho]; simp [Op.operands, hx, hy, flatB, flat2, flat1, atomB]) ?_ rfl
    unfold execOp
    rw [ho]
    simp only [hx, hy]
    have : ¬ (((a.size + b.size : Nat) : Int) > IntKind.i64.max) := by
      have : IntKind.i64.max = 9223372036854775807 := by decide
      rw [this]; omega
    simp only [eqGuard, Go.binOp, Op.stringOp, if_neg this]
    rfl
  unfold evOp
  simp only [ho, hx, hy, eqA_string, hf, Option.map_some]

theorem OWp.notB {t : TypeId} {x : Operand} {b : Bool} (hg : guardA ops o e = some true) (ho : o.op = .unOp .not t x) (hx : rho e x = .bool b) (hk : OWp P prims ops r e' H Q) (he : putE e o.dst (.bool (!b)) = e' := by simp only [putE, rho, List.set_cons_zero, List.set_cons_succ, List.getD_cons_zero, List.getD_cons_succ, flatB, flat2, flat1, atomB, cond_true, List.all_nil, List.all_toArray]; exact rfl) : OWp P prims ops (o :: r) e H Q := by
  refine OWp.step hg (fun call => ?_) he hk
  have hf : flatOp P o (rho e) = some (.bool (!b)) := by
    refine flat_op (by rw [ho]; simp [Op.operands, hx, flatB, flat2, flat1, atomB]) ?_ rfl
    unfold execOp
    rw [ho]
    simp only [hx, Op.unary]
    rfl
  unfold evOp
  simp only [ho, hf, Option.map_some]

theorem OWp.notD {t : TypeId} {x : Operand} {p : Prop} [Decidable p] (hg : guardA ops o e = some true) (ho : o.op = .unOp .not t x) (hx : rho e x = .bool (decide p)) (hk : OWp P prims ops r e' H Q) (he : putE e o.dst (.bool (decide (¬ p))) = e' := by simp only [putE, rho, List.set_cons_zero, List.set_cons_succ, List.getD_cons_zero, List.getD_cons_succ, flatB, flat2, flat1, atomB, cond_true, List.all_nil, List.all_toArray]; exact rfl) : OWp P prims ops (o :: r) e H Q :=
  OWp.notB hg ho hx hk (by rw [← he]; congr 2; simp)

theorem wrap_id {a : Int} (h : -9223372036854775808 ≤ a ∧ a ≤ 9223372036854775807) : IntKind.i64.wrap a = a := by rw [IntKind.wrap_i64]; omega

theorem OWp.addI {t t' : TypeId} {x y : Operand} {a b : Int} (hg : guardA ops o e = some true) (ho : o.op = .binOp .add t x y t') (hx : rho e x = .int .i64 a) (hy : rho e y = .int .i64 b)
    (hr : -9223372036854775808 ≤ a + b ∧ a + b ≤ 9223372036854775807) (hk : OWp P prims ops r e' H Q) (he : putE e o.dst (.int .i64 (a + b)) = e' := by simp only [putE, rho, List.set_cons_zero, List.set_cons_succ, List.getD_cons_zero, List.getD_cons_succ, flatB, flat2, flat1, atomB, cond_true, List.all_nil, List.all_toArray]; exact rfl) : OWp P prims ops (o :: r) e H Q :=
  OWp.binI hg ho hx hy rfl hk (by rw [wrap_id hr]; exact he)
theorem OWp.subI {t t' : TypeId} {x y : Operand} {a b : Int} (hg : guardA ops o e = some true) (ho : o.op = .binOp .sub t x y t') (hx : rho e x = .int .i64 a) (hy : rho e y = .int .i64 b)
    (hr : -9223372036854775808 ≤ a - b ∧ a - b ≤ 9223372036854775807) (hk : OWp P prims ops r e' H Q) (he : putE e o.dst (.int .i64 (a - b)) = e' := by simp only [putE, rho, List.set_cons_zero, List.set_cons_succ, List.getD_cons_zero, List.getD_cons_succ, flatB, flat2, flat1, atomB, cond_true, List.all_nil, List.all_toArray]; exact rfl) : OWp P prims ops (o :: r) e H Q :=
  OWp.binI hg ho hx hy rfl hk (by rw [wrap_id hr]; exact he)

theorem OWp.remI {t t' : TypeId} {x y : Operand} {a b : Int} (hg : guardA ops o e = some true) (ho : o.op = .binOp .rem t x y t') (hx : rho e x = .int .i64 a) (hy : rho e y = .int .i64 b)
    (hr : 0 ≤ a ∧ a ≤ 9223372036854775807 ∧ 0 < b) (hk : OWp P prims ops r e' H Q) (he : putE e o.dst (.int .i64 (a % b)) = e' := by simp only [putE, rho, List.set_cons_zero, List.set_cons_succ, List.getD_cons_zero, List.getD_cons_succ]; exact rfl) : OWp P prims ops (o :: r) e H Q := by
  refine OWp.step hg (fun call => ?_) he hk
  have hm : a.tmod b = a % b := Int.tmod_eq_emod_of_nonneg hr.1
  have hf : flatOp P o (rho e) = some (.int .i64 (a % b)) := by
    refine flat_op (by rw [ho]; simp [Op.operands, hx, hy, flatB, flat2, flat1, atomB]) ?_ rfl
    unfold execOp
    rw [ho]
    have hb : ¬ b = 0 := by omega
    simp [hx, hy, eqGuard, Go.binOp, Op.intDiv, hb, hm]; rfl
  unfold evOp
  simp only [ho, hx, hy, eqA_int, hf, Option.map_some]

/-- An operation that is done, or not: as a truth says. -/
theorem OWp.byG {b : Bool} (hg : guardA ops o e = some b) (h1 : b = true → OWp P prims ops (o :: r) e H Q) (h2 : b = false → OWp P prims ops (o :: r) e H Q) : OWp P prims ops (o :: r) e H Q := by
  cases b with
  | true => exact h1 rfl
  | false => exact h2 rfl

theorem OWp.byT {p : Prop} [Decidable p] (hg : guardA ops o e = some (decide p == true)) (h1 : p → OWp P prims ops (o :: r) e H Q) (h2 : ¬ p → OWp P prims ops (o :: r) e H Q) : OWp P prims ops (o :: r) e H Q :=
  if h : p then h1 h else h2 h
theorem OWp.byF {p : Prop} [Decidable p] (hg : guardA ops o e = some (decide p == false)) (h1 : ¬ p → OWp P prims ops (o :: r) e H Q) (h2 : p → OWp P prims ops (o :: r) e H Q) : OWp P prims ops (o :: r) e H Q :=
  if h : p then h2 h else h1 h
theorem OWp.byBT {b : Bool} (hg : guardA ops o e = some (b == true)) (h1 : b = true → OWp P prims ops (o :: r) e H Q) (h2 : b = false → OWp P prims ops (o :: r) e H Q) : OWp P prims ops (o :: r) e H Q := by
  cases b with
  | true => exact h1 rfl
  | false => exact h2 rfl
theorem OWp.byBF {b : Bool} (hg : guardA ops o e = some (b == false)) (h1 : b = false → OWp P prims ops (o :: r) e H Q) (h2 : b = true → OWp P prims ops (o :: r) e H Q) : OWp P prims ops (o :: r) e H Q := by
  cases b with
  | true => exact h2 rfl
  | false => exact h1 rfl

theorem OWp.lenS {c : Call} {x : Operand} {t : TypeId} {s : ByteArray} (hg : guardA ops o e = some true) (ho : o.op = .call c) (hc : c.callee = .builtin .len) (hcs : c.args = #[x]) (hct : c.argTypes = #[t]) (ht : P.underlying t = some .string) (hx : rho e x = .string s)
    (hk : OWp P prims ops r e' H Q) (he : putE e o.dst (.int .i64 s.size) = e' := by simp only [putE, rho, List.set_cons_zero, List.set_cons_succ, List.getD_cons_zero, List.getD_cons_succ, flatB, flat2, flat1, atomB, cond_true, List.all_nil, List.all_toArray]; exact rfl) : OWp P prims ops (o :: r) e H Q := by
  refine OWp.step hg (fun call => ?_) he hk
  have hf : flatOp P o (rho e) = some (.int .i64 s.size) := by
    refine flat_op (by rw [ho]; simp [Op.operands, Call.operands, hc, hcs, hx, flatB, flat2, flat1, atomB]) ?_ rfl
    unfold execOp
    rw [ho]
    simp only [resolve, hc, hcs, List.map_toArray, List.map_cons, List.map_nil, hx, pr_bind, pr_pure, Option.bind_some, invoke, builtin, Builtin.len_, hct, List.getElem?_toArray, List.getElem?_cons_zero, pr_underlying ht]
    rfl
  unfold evOp
  simp only [ho, callA, hc, hcs, hct, List.map_cons, List.map_nil, hx, hf, Option.map_some]

/-- A byte of a string. -/
def byteAt (s : ByteArray) (i : Int) : Int := ((s.data[i.toNat]?).getD 0).toNat

theorem OWp.indexS {t : TypeId} {x y : Operand} {s : ByteArray} {k : IntKind} {i : Int} (hg : guardA ops o e = some true) (ho : o.op = .index t x y) (ht : P.underlying t = some .string) (hx : rho e x = .string s) (hy : rho e y = .int k i)
    (h0 : 0 ≤ i) (h1 : i < s.size) (hk : OWp P prims ops r e' H Q) (he : putE e o.dst (.int .u8 (byteAt s i)) = e' := by simp only [putE, rho, List.set_cons_zero, List.set_cons_succ, List.getD_cons_zero, List.getD_cons_succ, flatB, flat2, flat1, atomB, cond_true, List.all_nil, List.all_toArray]; exact rfl) : OWp P prims ops (o :: r) e H Q := by
  refine OWp.step hg (fun call => ?_) he hk
  have hi : i.toNat < s.data.size := by have : s.data.size = s.size := rfl; omega
  have hf : flatOp P o (rho e) = some (.int .u8 (byteAt s i)) := by
    refine flat_op (by rw [ho]; simp [Op.operands, hx, hy, flatB, flat2, flat1, atomB]) ?_ rfl
    unfold execOp
    rw [ho]
    have hs : s[i.toNat]? = some (s.data[i.toNat]) := by
      have h2 : i.toNat < s.size := hi
      rw [getElem?_pos s i.toNat h2]
      rfl
    have hb : byteAt s i = (s.data[i.toNat]).toNat := by simp only [byteAt, Array.getElem?_eq_getElem hi, Option.getD_some]
    simp only [hx, hy, Instr.index, asIntOf, hb, pr_bind, pr_pure, Option.bind_some, pr_underlying ht, if_pos h0, hs]
  unfold evOp
  simp only [ho, hf, Option.map_some]

/-- A bound of a slice expression: none is what it is by default. -/
def boundI (ρ : Operand → Value) (x : Option Operand) (d : Int) : Option Int :=
  match x with
  | none => some d
  | some x => match ρ x with
    | .int _ i => some i
    | _ => none

theorem pr_bound {x : Value} {k : IntKind} {i : Int} {n : Nat} {c : BoundsCode} (hx : x = .int k i) (h0 : 0 ≤ i) (h1 : i ≤ n) : pureRun P (Instr.sliceBound x n c) = some i.toNat := by
  subst hx
  simp only [Instr.sliceBound, asIntOf, pr_bind, pr_pure, Option.bind_some, if_pos (And.intro h0 h1)]

theorem OWp.sliceS {t : TypeId} {x : Operand} {lo hi : Option Operand} {s : ByteArray} {l h : Int} (hg : guardA ops o e = some true) (ho : o.op = .slice t x lo hi none) (ht : P.underlying t = some .string) (hx : rho e x = .string s)
    (hl : boundI (rho e) lo 0 = some l) (hh : boundI (rho e) hi s.size = some h) (h0 : 0 ≤ l) (h1 : l ≤ h) (h2 : h ≤ s.size)
    (hk : OWp P prims ops r e' H Q) (he : putE e o.dst (.string (s.extract l.toNat h.toNat)) = e' := by simp only [putE, rho, List.set_cons_zero, List.set_cons_succ, List.getD_cons_zero, List.getD_cons_succ, flatB, flat2, flat1, atomB, cond_true, List.all_nil, List.all_toArray]; exact rfl) : OWp P prims ops (o :: r) e H Q := by
  refine OWp.step hg (fun call => ?_) he hk
  have hf : flatOp P o (rho e) = some (.string (s.extract l.toNat h.toNat)) := by
    have hlh : l ≤ (h.toNat : Int) := by omega
    cases lo with
    | none =>
      cases hl
      cases hi with
      | none =>
        cases hh
        refine flat_op (by rw [ho]; simp [Op.operands, hx, flatB, flat2, flat1, atomB]) ?_ rfl
        unfold execOp
        rw [ho]
        simp only [Instr.sliceAt, hx, Instr.slice, Instr.sliceBounds, Option.map_none, pr_bind, pr_pure, Option.bind_some, pr_underlying ht, Option.isSome_none, Bool.false_eq_true, if_false]
        rfl
      | some y =>
        simp only [boundI] at hh
        split at hh
        case h_2 => cases hh
        rename_i k i hy
        cases hh
        refine flat_op (by rw [ho]; simp [Op.operands, hx, hy, flatB, flat2, flat1, atomB]) ?_ rfl
        unfold execOp
        rw [ho]
        simp only [Instr.sliceAt, hx, Instr.slice, Instr.sliceBounds, Option.map_none, Option.map_some, pr_bind, pr_pure, Option.bind_some, pr_underlying ht, Option.isSome_none, Bool.false_eq_true, if_false, pr_bound hy h1 h2]
        rfl
    | some y =>
      simp only [boundI] at hl
      split at hl
      case h_2 => cases hl
      rename_i k i hy
      cases hl
      cases hi with
      | none =>
        cases hh
        refine flat_op (by rw [ho]; simp [Op.operands, hx, hy, flatB, flat2, flat1, atomB]) ?_ rfl
        unfold execOp
        rw [ho]
        simp only [Instr.sliceAt, hx, Instr.slice, Instr.sliceBounds, Option.map_none, Option.map_some, pr_bind, pr_pure, Option.bind_some, pr_underlying ht, Option.isSome_none, Bool.false_eq_true, if_false, pr_bound hy h0 h1]
        rfl
      | some z =>
        simp only [boundI] at hh
        split at hh
        case h_2 => cases hh
        rename_i k' i' hz
        cases hh
        refine flat_op (by rw [ho]; simp [Op.operands, hx, hy, hz, flatB, flat2, flat1, atomB]) ?_ rfl
        unfold execOp
        rw [ho]
        simp only [Instr.sliceAt, hx, Instr.slice, Instr.sliceBounds, Option.map_none, Option.map_some, pr_bind, pr_pure, Option.bind_some, pr_underlying ht, Option.isSome_none, Bool.false_eq_true, if_false, pr_bound hz (Int.le_trans h0 h1) h2, pr_bound hy h0 hlh]
  unfold evOp
  simp only [ho, ht, hf, Option.map_some]

theorem CWp.condT {Q : St → List Value → AH → Prop} {c : Operand} {x y : Code} (hc : rho e c = .bool true) (h : CWp P prims x e H Q) : CWp P prims (.cond c x y) e H Q := CWp.cond hc (fun _ => h) (fun h => by cases h)
theorem CWp.condF {Q : St → List Value → AH → Prop} {c : Operand} {x y : Code} (hc : rho e c = .bool false) (h : CWp P prims y e H Q) : CWp P prims (.cond c x y) e H Q := CWp.cond hc (fun h => by cases h) (fun _ => h)
theorem CWp.condP {Q : St → List Value → AH → Prop} {c : Operand} {x y : Code} {p : Prop} [Decidable p] (hc : rho e c = .bool (decide p)) (h1 : p → CWp P prims x e H Q) (h2 : ¬ p → CWp P prims y e H Q) : CWp P prims (.cond c x y) e H Q :=
  CWp.cond hc (fun h => h1 (of_decide_eq_true h)) (fun h => h2 (of_decide_eq_false h))

theorem FWp.enter {f : FuncId} {fn : Func} {c : Code} {args : List Value} {Q : Value → AH → Prop} (hg : prims f = none) (hf : P.funcs[f]? = some fn) (hb : fn.body = some c) (he : args ++ List.replicate (fn.ntmps - args.length) undef = e)
    (h : CWp P prims c e H (RetQ P fn Q)) : FWp P prims f args H Q := FWp.body hg hf hb (he ▸ h)

theorem RetQ.one {fn : Func} {Q : Value → AH → Prop} {st : St} {a : Tmp} {x : Value} (hst : st = .nx ∨ st = .rt) (hr : fn.results = #[.tmp a]) (hx : e.getD a undef = x) (h : Q x H) : RetQ P fn Q st e H := by
  refine ⟨hst, x, ?_, h⟩
  subst hx
  simp [resultsA, hr, resA]
theorem RetQ.two {fn : Func} {Q : Value → AH → Prop} {st : St} {a b : Tmp} {x y : Value} (hst : st = .nx ∨ st = .rt) (hr : fn.results = #[.tmp a, .tmp b]) (hx : e.getD a undef = x) (hy : e.getD b undef = y) (nx : noTuple x = true) (ny : noTuple y = true)
    (h : Q (.tuple #[x, y]) H) : RetQ P fn Q st e H := by
  refine ⟨hst, _, ?_, h⟩
  subst hx hy
  simp only [List.getD_eq_getElem?_getD] at nx ny
  simp [resultsA, hr, resA, nx, ny]
theorem RetQ.three {fn : Func} {Q : Value → AH → Prop} {st : St} {a b c : Tmp} {x y z : Value} (hst : st = .nx ∨ st = .rt) (hr : fn.results = #[.tmp a, .tmp b, .tmp c]) (hx : e.getD a undef = x) (hy : e.getD b undef = y) (hz : e.getD c undef = z) (nx : noTuple x = true) (ny : noTuple y = true) (nz : noTuple z = true)
    (h : Q (.tuple #[x, y, z]) H) : RetQ P fn Q st e H := by
  refine ⟨hst, _, ?_, h⟩
  subst hx hy hz
  simp only [List.getD_eq_getElem?_getD] at nx ny nz
  simp [resultsA, hr, resA, nx, ny, nz]

end
end Go.Proofs.YtofigleaealbjaaGreatDoor.Ev
