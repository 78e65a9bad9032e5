/-
  The evaluator at values that stand for any: rules to step through code, whatever the fuel, if there is enough.
-/
import Derived.Test.YtofigleaealbjaaGreatDoorEvFn
namespace Go.Proofs.YtofigleaealbjaaGreatDoor.Ev
open Go
section
variable {P : Program} {prims : Prims} {ops : Array Oper} {o : Oper} {r : List Oper} {e e' : List Value} {H H1 : AH}

def FWp (P : Program) (prims : Prims) (f : FuncId) (args : List Value) (H : AH) (Q : Value → AH → Prop) : Prop :=
  ∃ n v H', (∀ m, n ≤ m → evFn P prims m f args H = some (v, H')) ∧ Q v H'

def CWp (P : Program) (prims : Prims) (c : Code) (e : List Value) (H : AH) (Q : St → List Value → AH → Prop) : Prop :=
  ∃ n st e' H', (∀ m, n ≤ m → evCode P (evRegion P (evFn P prims m)) m c e H = some (st, e', H')) ∧ Q st e' H'

def OWp (P : Program) (prims : Prims) (ops : Array Oper) (l : List Oper) (e : List Value) (H : AH) (Q : List Value → AH → Prop) : Prop :=
  ∃ n e' H', (∀ m, n ≤ m → evOps P (evFn P prims m) ops l e H = some (e', H')) ∧ Q e' H'

theorem FWp.mono {f : FuncId} {args : List Value} {Q Q' : Value → AH → Prop} (h : FWp P prims f args H Q) (k : ∀ v H', Q v H' → Q' v H') : FWp P prims f args H Q' := by
  obtain ⟨n, v, H', h1, h2⟩ := h
  exact ⟨n, v, H', h1, k _ _ h2⟩

theorem CWp.mono {c : Code} {Q Q' : St → List Value → AH → Prop} (h : CWp P prims c e H Q) (k : ∀ st e' H', Q st e' H' → Q' st e' H') : CWp P prims c e H Q' := by
  obtain ⟨n, st, e', H', h1, h2⟩ := h
  exact ⟨n, st, e', H', h1, k _ _ _ h2⟩

/-- A function told of by hand. -/
theorem FWp.prim {f : FuncId} {args : List Value} {g : List Value → AH → Option (Value × AH)} {v : Value} {Q : Value → AH → Prop} (hg : prims f = some g) (h : g args H = some (v, H1)) (k : Q v H1) : FWp P prims f args H Q := by
  refine ⟨1, v, H1, fun m hm => ?_, k⟩
  obtain ⟨m, rfl⟩ : ∃ m', m = m' + 1 := ⟨m - 1, by omega⟩
  simp only [evFn, hg, h]

/-- What a function returns. -/
def RetQ (P : Program) (fn : Func) (Q : Value → AH → Prop) (st : St) (e : List Value) (H : AH) : Prop :=
  (st = .nx ∨ st = .rt) ∧ ∃ v, resultsA P e H fn.results.toList = some v ∧ Q v H

theorem FWp.body {f : FuncId} {fn : Func} {c : Code} {args : List Value} {Q : Value → AH → Prop} (hg : prims f = none) (hf : P.funcs[f]? = some fn) (hb : fn.body = some c)
    (h : CWp P prims c (args ++ List.replicate (fn.ntmps - args.length) undef) H (RetQ P fn Q)) : FWp P prims f args H Q := by
  obtain ⟨n, st, e', H', h1, h2, v, h3, h4⟩ := h
  refine ⟨n + 1, v, H', fun m hm => ?_, h4⟩
  obtain ⟨m, rfl⟩ : ∃ m', m = m' + 1 := ⟨m - 1, by omega⟩
  have hh := h1 m (by omega)
  unfold evFn
  simp only [hg, hf, hb, hh]
  rcases h2 with rfl | rfl <;> simp only [h3, Option.map_some]

/-! ### Code -/
section
variable {Q : St → List Value → AH → Prop}
theorem CWp.skip (h : Q .nx e H) : CWp P prims .skip e H Q := ⟨0, _, _, _, fun _ _ => rfl, h⟩
theorem CWp.exit {id : Nat} (h : Q (.ex id) e H) : CWp P prims (.exit id) e H Q := ⟨0, _, _, _, fun _ _ => rfl, h⟩
theorem CWp.ret (h : Q .rt e H) : CWp P prims .ret e H Q := ⟨0, _, _, _, fun _ _ => rfl, h⟩

/-- What stands behind a piece of code. -/
def SeqQ (P : Program) (prims : Prims) (b : Code) (Q : St → List Value → AH → Prop) : St → List Value → AH → Prop
  | .nx, e, H => CWp P prims b e H Q
  | st, e, H => Q st e H

theorem CWp.seq {a b : Code} (h : CWp P prims a e H (SeqQ P prims b Q)) : CWp P prims (.seq a b) e H Q := by
  obtain ⟨n, st, e1, H1, h1, h2⟩ := h
  cases st with
  | nx =>
    obtain ⟨n2, st, e2, H2, h3, h4⟩ := h2
    refine ⟨max n n2, st, e2, H2, fun m hm => ?_, h4⟩
    simp only [evCode, h1 m (by omega), h3 m (by omega)]
  | ex id => exact ⟨n, _, e1, H1, fun m hm => by simp only [evCode, h1 m hm], h2⟩
  | rt => exact ⟨n, _, e1, H1, fun m hm => by simp only [evCode, h1 m hm], h2⟩

theorem CWp.region {id : Nat} (h : OWp P prims ops ops.toList e H (fun e' H' => Q .nx e' H')) : CWp P prims (.region id ops false) e H Q := by
  obtain ⟨n, e', H', h1, h2⟩ := h
  refine ⟨n, .nx, e', H', fun m hm => ?_, h2⟩
  have : evRegion P (evFn P prims m) ops false e H = some (e', H') := by
    unfold evRegion
    rw [h1 m hm]
    rfl
  simp only [evCode, this]

/-- A region that draws its order, and leaves the heap alone. -/
theorem CWp.drawn {id : Nat} (hu : calmReg ops = true) (h : OWp P prims ops ops.toList e H (fun e' H' => Q .nx e' H')) : CWp P prims (.region id ops true) e H Q := by
  obtain ⟨n, e', H', h1, h2⟩ := h
  refine ⟨n, .nx, e', H', fun m hm => ?_, h2⟩
  have : evRegion P (evFn P prims m) ops true e H = some (e', H') := by
    unfold evRegion
    rw [h1 m hm, hu]
    rfl
  simp only [evCode, this]

/-- A region that draws its order, of which at most one operation minds the heap. -/
theorem CWp.drawn1 {id : Nat} (hu : oneReg P ops = true) (h : OWp P prims ops ops.toList e H (fun e' H' => Q .nx e' H')) : CWp P prims (.region id ops true) e H Q := by
  obtain ⟨n, e', H', h1, h2⟩ := h
  refine ⟨n, .nx, e', H', fun m hm => ?_, h2⟩
  have : evRegion P (evFn P prims m) ops true e H = some (e', H') := by
    unfold evRegion
    rw [h1 m hm, hu]
    simp only [Bool.or_true, Bool.true_or, cond_true]
  simp only [evCode, this]

/-- A region that draws its order: what minds the heap is a chain; what looks at it looks at what stays as it is. -/
theorem CWp.drawnN {id : Nat} (hu : manyReg P ops = true) (h : OWp P prims ops ops.toList e H (fun e' H' => stillAll ops e' H H' = true ∧ Q .nx e' H')) : CWp P prims (.region id ops true) e H Q := by
  obtain ⟨n, e', H', h1, h2, h3⟩ := h
  refine ⟨n, .nx, e', H', fun m hm => ?_, h3⟩
  have : evRegion P (evFn P prims m) ops true e H = some (e', H') := by
    unfold evRegion
    rw [h1 m hm]
    simp only [hu, h2, Bool.and_self, Bool.or_true, Bool.true_or, cond_true]
  simp only [evCode, this]

/-- A region that draws its order: a chain but for one new variable. -/
theorem CWp.drawnL {id : Nat} (hu : lateReg P ops false = true) (h : OWp P prims ops ops.toList e H (fun e' H' => Q .nx e' H')) : CWp P prims (.region id ops true) e H Q := by
  obtain ⟨n, e', H', h1, h2⟩ := h
  refine ⟨n, .nx, e', H', fun m hm => ?_, h2⟩
  have : evRegion P (evFn P prims m) ops true e H = some (e', H') := by
    unfold evRegion
    rw [h1 m hm]
    simp only [hu, Bool.or_true, Bool.true_or, cond_true]
  simp only [evCode, this]
/-- The same; what looks at the heap looks at what stays as it is. -/
theorem CWp.drawnM {id : Nat} (hu : lateReg P ops true = true) (h : OWp P prims ops ops.toList e H (fun e' H' => stillAll ops e' H H' = true ∧ Q .nx e' H')) : CWp P prims (.region id ops true) e H Q := by
  obtain ⟨n, e', H', h1, h2, h3⟩ := h
  refine ⟨n, .nx, e', H', fun m hm => ?_, h3⟩
  have : evRegion P (evFn P prims m) ops true e H = some (e', H') := by
    unfold evRegion
    rw [h1 m hm]
    simp only [hu, h2, Bool.and_self, Bool.or_true, Bool.true_or, cond_true]
  simp only [evCode, this]

theorem CWp.cond {c : Operand} {x y : Code} {b : Bool} (hc : rho e c = .bool b) (h1 : b = true → CWp P prims x e H Q) (h2 : b = false → CWp P prims y e H Q) : CWp P prims (.cond c x y) e H Q := by
  cases b with
  | true =>
    obtain ⟨n, st, e', H', h3, h4⟩ := h1 rfl
    exact ⟨n, st, e', H', fun m hm => by simp only [evCode, hc, h3 m hm], h4⟩
  | false =>
    obtain ⟨n, st, e', H', h3, h4⟩ := h2 rfl
    exact ⟨n, st, e', H', fun m hm => by simp only [evCode, hc, h3 m hm], h4⟩

def BlockQ (id : Nat) (Q : St → List Value → AH → Prop) : St → List Value → AH → Prop
  | .ex i, e, H => bif Nat.beq i id then Q .nx e H else Q (.ex i) e H
  | st, e, H => Q st e H

theorem CWp.block {id : Nat} {c : Code} (h : CWp P prims c e H (BlockQ id Q)) : CWp P prims (.block id c) e H Q := by
  obtain ⟨n, st, e1, H1, h1, h2⟩ := h
  cases st with
  | nx => exact ⟨n, _, e1, H1, fun m hm => by simp only [evCode, h1 m hm], h2⟩
  | rt => exact ⟨n, _, e1, H1, fun m hm => by simp only [evCode, h1 m hm], h2⟩
  | ex i =>
    by_cases hi : i = id
    · refine ⟨n, .nx, e1, H1, fun m hm => by simp only [evCode, h1 m hm, if_pos hi], ?_⟩
      have : (bif Nat.beq i id then Q .nx e1 H1 else Q (.ex i) e1 H1) := h2
      rwa [show Nat.beq i id = true from Nat.beq_eq.symm ▸ hi, cond_true] at this
    · refine ⟨n, .ex i, e1, H1, fun m hm => by simp only [evCode, h1 m hm, if_neg hi], ?_⟩
      have : (bif Nat.beq i id then Q .nx e1 H1 else Q (.ex i) e1 H1) := h2
      rwa [show Nat.beq i id = false from Bool.eq_false_iff.2 fun h => hi (Nat.eq_of_beq_eq_true h), cond_false] at this

/-- A loop's round: it goes on with less to do, or it ends. -/
def RoundQ (I : Nat → List Value → AH → Prop) (k : Nat) (Q : St → List Value → AH → Prop) : St → List Value → AH → Prop
  | .nx, e, H => ∃ k', k' < k ∧ I k' e H
  | st, e, H => Q st e H

theorem CWp.loop {c : Code} (I : Nat → List Value → AH → Prop) (h0 : ∃ k, I k e H) (hr : ∀ k e H, I k e H → CWp P prims c e H (RoundQ I k Q)) : CWp P prims (.loop c) e H Q := by
  have key : ∀ k e H, I k e H → ∃ n st e' H', (∀ m, n ≤ m → ∀ j, n ≤ j → loopA (evCode P (evRegion P (evFn P prims m)) m c) j e H = some (st, e', H')) ∧ Q st e' H' := by
    intro k
    induction k using Nat.strongRecOn with
    | _ k ih =>
      intro e H hi
      obtain ⟨n, st, e1, H1, h1, h2⟩ := hr k e H hi
      cases st with
      | nx =>
        obtain ⟨k', hk, hi'⟩ := h2
        obtain ⟨n2, st, e2, H2, h3, h4⟩ := ih k' hk e1 H1 hi'
        refine ⟨max n n2 + 1, st, e2, H2, fun m hm j hj => ?_, h4⟩
        obtain ⟨j, rfl⟩ : ∃ j', j = j' + 1 := ⟨j - 1, by omega⟩
        simp only [loopA, h1 m (by omega)]
        exact h3 m (by omega) j (by omega)
      | ex id =>
        refine ⟨n + 1, _, e1, H1, fun m hm j hj => ?_, h2⟩
        obtain ⟨j, rfl⟩ : ∃ j', j = j' + 1 := ⟨j - 1, by omega⟩
        simp only [loopA, h1 m (by omega)]
      | rt =>
        refine ⟨n + 1, _, e1, H1, fun m hm j hj => ?_, h2⟩
        obtain ⟨j, rfl⟩ : ∃ j', j = j' + 1 := ⟨j - 1, by omega⟩
        simp only [loopA, h1 m (by omega)]
  obtain ⟨k, h0⟩ := h0
  obtain ⟨n, st, e', H', h1, h2⟩ := key k e H h0
  exact ⟨n, st, e', H', fun m hm => by simp only [evCode]; exact h1 m hm m hm, h2⟩
end

/-! ### Operations -/
section
variable {Q : List Value → AH → Prop}
theorem OWp.nil (h : Q e H) : OWp P prims ops [] e H Q := ⟨0, _, _, fun _ _ => rfl, h⟩

theorem OWp.norm {l : List Oper} (k : OWp P prims ops l e' H Q) (he : e = e' := by simp only [putE, rho, List.set_cons_zero, List.set_cons_succ, List.getD_cons_zero, List.getD_cons_succ]; exact rfl) : OWp P prims ops l e H Q := he ▸ k

theorem OWp.step {v : Value} (hg : guardA ops o e = some true) (h : ∀ call, evOp P call o (rho e) H = some (v, H1)) (he : putE e o.dst v = e') (k : OWp P prims ops r e' H1 Q) : OWp P prims ops (o :: r) e H Q := by
  obtain ⟨n, e2, H2, h1, h2⟩ := k
  subst he
  exact ⟨n, e2, H2, fun m hm => by simp only [evOps, hg, h, h1 m hm], h2⟩

theorem OWp.leave (hg : guardA ops o e = some false) (k : OWp P prims ops r e' H Q) (he : putE e o.dst undef = e' := by simp only [putE, rho, List.set_cons_zero, List.set_cons_succ, List.getD_cons_zero, List.getD_cons_succ, flatB, flat2, flat1, atomB, cond_true, List.all_nil, List.all_toArray]; exact rfl) : OWp P prims ops (o :: r) e H Q := by
  obtain ⟨n, e2, H2, h1, h2⟩ := k
  subst he
  exact ⟨n, e2, H2, fun m hm => by simp only [evOps, hg, h1 m hm], h2⟩

theorem OWp.call {c : Call} {f : FuncId} {args : List Value} (hg : guardA ops o e = some true) (ho : o.op = .call c) (hc : c.callee = .value (.func f)) (ha : c.args.toList.map (rho e) = args)
    (h : FWp P prims f args H fun v H1 => OWp P prims ops r (putE e o.dst v) H1 Q) : OWp P prims ops (o :: r) e H Q := by
  obtain ⟨n, v, H1, h1, n2, e2, H2, h2, h3⟩ := h
  subst ha
  refine ⟨max n n2, e2, H2, fun m hm => ?_, h3⟩
  have : evOp P (evFn P prims m) o (rho e) H = some (v, H1) := by
    unfold evOp
    simp only [ho, callA, hc, rho]
    have := h1 m (by omega)
    simpa using this
  simp only [evOps, hg, this, h2 m (by omega)]

theorem OWp.assign {x : Operand} (hg : guardA ops o e = some true) (ho : o.op = .assign x) (k : OWp P prims ops r e' H Q) (he : putE e o.dst (rho e x) = e' := by simp only [putE, rho, List.set_cons_zero, List.set_cons_succ, List.getD_cons_zero, List.getD_cons_succ, flatB, flat2, flat1, atomB, cond_true, List.all_nil, List.all_toArray]; exact rfl) : OWp P prims ops (o :: r) e H Q :=
  OWp.step hg (fun call => by unfold evOp; simp only [ho]) he k
theorem OWp.move {x : Operand} (hg : guardA ops o e = some true) (ho : o.op = .move x) (k : OWp P prims ops r e' H Q) (he : putE e o.dst (rho e x) = e' := by simp only [putE, rho, List.set_cons_zero, List.set_cons_succ, List.getD_cons_zero, List.getD_cons_succ, flatB, flat2, flat1, atomB, cond_true, List.all_nil, List.all_toArray]; exact rfl) : OWp P prims ops (o :: r) e H Q :=
  OWp.step hg (fun call => by unfold evOp; simp only [ho]) he k
theorem OWp.pickT {c a b : Operand} (hg : guardA ops o e = some true) (ho : o.op = .pick c a b) (hc : rho e c = .bool true) (k : OWp P prims ops r e' H Q) (he : putE e o.dst (rho e a) = e' := by simp only [putE, rho, List.set_cons_zero, List.set_cons_succ, List.getD_cons_zero, List.getD_cons_succ, flatB, flat2, flat1, atomB, cond_true, List.all_nil, List.all_toArray]; exact rfl) : OWp P prims ops (o :: r) e H Q :=
  OWp.step hg (fun call => by unfold evOp; simp only [ho, hc]) he k
theorem OWp.pickF {c a b : Operand} (hg : guardA ops o e = some true) (ho : o.op = .pick c a b) (hc : rho e c = .bool false) (k : OWp P prims ops r e' H Q) (he : putE e o.dst (rho e b) = e' := by simp only [putE, rho, List.set_cons_zero, List.set_cons_succ, List.getD_cons_zero, List.getD_cons_succ, flatB, flat2, flat1, atomB, cond_true, List.all_nil, List.all_toArray]; exact rfl) : OWp P prims ops (o :: r) e H Q :=
  OWp.step hg (fun call => by unfold evOp; simp only [ho, hc]) he k
theorem OWp.extract {t : Operand} {ix : Nat} {vs : Array Value} {v : Value} (hg : guardA ops o e = some true) (ho : o.op = .extract t ix) (ht : rho e t = .tuple vs) (hv : vs[ix]? = some v) (k : OWp P prims ops r e' H Q) (he : putE e o.dst v = e' := by simp only [putE, rho, List.set_cons_zero, List.set_cons_succ, List.getD_cons_zero, List.getD_cons_succ, List.getElem_toArray, List.getElem_cons_zero, List.getElem_cons_succ, flatB, flat2, flat1, atomB, cond_true, List.all_nil, List.all_toArray]; exact rfl) : OWp P prims ops (o :: r) e H Q :=
  OWp.step hg (fun call => by unfold evOp; simp only [ho, ht, hv, Option.map_some]) he k

theorem flat_op {v : Value} {ρ : Operand → Value} (hf : o.op.operands.toList.all (fun x => flatB (ρ x)) = true) (h : pureRun P (execOp ρ o) = some (.value v)) (hv : flatB v = true) : flatOp P o ρ = some v := by
  unfold flatOp
  rw [if_pos hf, h]
  simp only [hv, cond_true]

end
end
end Go.Proofs.YtofigleaealbjaaGreatDoor.Ev
