/-
  The evaluator at values that stand for any: rules to step through code, whatever the fuel, if there is enough.
  The evaluator at values that stand for any: operations on numbers, truths and strings.
  The evaluator at values that stand for any: blocks of one's own; a range over a string.
  The evaluator at values that stand for any: rows, slices that grow.
  The evaluator at values that stand for any: masks, quotients, rows that are only looked at, one more cell.
-/
import Derived.KernelRfl
import Derived.Test.YtenolmhnmcjndaaGreatDoorEvFn
import Derived.Laws.BitsLemmas
import Derived.Test.YtenolmhnmcjndaaGreatDoorEvRel
namespace Go.Proofs.YtenolmhnmcjndaaGreatDoor.Ev
set_option linter.unusedVariables false
set_option linter.unusedSimpArgs false
open Go
section
variable {P : Program} {prims : Prims} {ops : Array Oper} {o : Oper} {r : List Oper} {e e' : List Value} {H H1 : AH}

def FWp (P : Program) (prims : Prims) (f : FuncId) (args : List Value) (H : AH) (Q : Value → AH → Prop) : Prop :=
  ∃ n v H', (∀ m, n ≤ m → evFn P prims m f args H = some (v, H')) ∧ Q v H'

def CWp (P : Program) (prims : Prims) (c : Code) (e : List Value) (H : AH) (Q : St → List Value → AH → Prop) : Prop :=
  ∃ n st e' H', (∀ m, n ≤ m → evCode P (evRegion P prims.flat (evFn P prims m)) m c e H = some (st, e', H')) ∧ Q st e' H'

def OWp (P : Program) (prims : Prims) (ops : Array Oper) (l : List Oper) (e : List Value) (H : AH) (Q : List Value → AH → Prop) : Prop :=
  ∃ n e' H', (∀ m, n ≤ m → evOps P (evFn P prims m) ops l e H = some (e', H')) ∧ Q e' H'

theorem FWp.mono {f : FuncId} {args : List Value} {Q Q' : Value → AH → Prop} (h : FWp P prims f args H Q) (k : ∀ v H', Q v H' → Q' v H') : FWp P prims f args H Q' := by
  obtain ⟨n, v, H', h1, h2⟩ := h
  exact ⟨n, v, H', h1, k _ _ h2⟩

theorem CWp.mono {c : Code} {Q Q' : St → List Value → AH → Prop} (h : CWp P prims c e H Q) (k : ∀ st e' H', Q st e' H' → Q' st e' H') : CWp P prims c e H Q' := by
  obtain ⟨n, st, e', H', h1, h2⟩ := h
  exact ⟨n, st, e', H', h1, k _ _ _ h2⟩

/-- A function told of by hand. -/
theorem FWp.prim {f : FuncId} {args : List Value} {g : List Value → AH → Option (Value × AH)} {v : Value} {Q : Value → AH → Prop} (hg : prims f = some (fun _ => g)) (h : g args H = some (v, H1)) (k : Q v H1) : FWp P prims f args H Q := by
  refine ⟨1, v, H1, fun m hm => ?_, k⟩
  obtain ⟨m, rfl⟩ : ∃ m', m = m' + 1 := ⟨m - 1, by omega⟩
  simp only [evFn, hg, h]

/-- A function told of by hand that calls others. -/
theorem FWp.primC {f : FuncId} {args : List Value} {g : PrimF} {Q : Value → AH → Prop} (hg : prims f = some g) (h : ∃ n v H1, (∀ m, n ≤ m → g (evFn P prims m) args H = some (v, H1)) ∧ Q v H1) : FWp P prims f args H Q := by
  obtain ⟨n, v, H1, h, k⟩ := h
  refine ⟨n + 1, v, H1, fun m hm => ?_, k⟩
  obtain ⟨m, rfl⟩ : ∃ m', m = m' + 1 := ⟨m - 1, by omega⟩
  simp only [evFn, hg, h m (by omega)]

/-- What a function returns. -/
def RetQ (P : Program) (fn : Func) (Q : Value → AH → Prop) (st : St) (e : List Value) (H : AH) : Prop :=
  (st = .nx ∨ st = .rt) ∧ ∃ v, resultsA P e H fn.results.toList = some v ∧ Q v H

theorem FWp.body {f : FuncId} {fn : Func} {c : Code} {args : List Value} {Q : Value → AH → Prop} (hg : prims f = none) (hf : P.funcs[f]? = some fn) (hb : fn.body = some c)
    (h : CWp P prims c (args ++ List.replicate (fn.ntmps - args.length) undef) H (RetQ P fn Q)) : FWp P prims f args H Q := by
  obtain ⟨n, st, e', H', h1, h2, v, h3, h4⟩ := h
  refine ⟨n + 1, v, H', fun m hm => ?_, h4⟩
  obtain ⟨m, rfl⟩ : ∃ m', m = m' + 1 := ⟨m - 1, by omega⟩
  have hh := h1 m (by omega)
  unfold evFn
  simp only [hg, hf, hb, hh]
  rcases h2 with rfl | rfl <;> simp only [h3, Option.map_some]

/-! ### Code -/
section
variable {Q : St → List Value → AH → Prop}
theorem CWp.skip (h : Q .nx e H) : CWp P prims .skip e H Q := ⟨0, _, _, _, fun _ _ => rfl, h⟩
theorem CWp.exit {id : Nat} (h : Q (.ex id) e H) : CWp P prims (.exit id) e H Q := ⟨0, _, _, _, fun _ _ => rfl, h⟩
theorem CWp.ret (h : Q .rt e H) : CWp P prims .ret e H Q := ⟨0, _, _, _, fun _ _ => rfl, h⟩

/-- What stands behind a piece of code. -/
def SeqQ (P : Program) (prims : Prims) (b : Code) (Q : St → List Value → AH → Prop) : St → List Value → AH → Prop
  | .nx, e, H => CWp P prims b e H Q
  | st, e, H => Q st e H

theorem CWp.seq {a b : Code} (h : CWp P prims a e H (SeqQ P prims b Q)) : CWp P prims (.seq a b) e H Q := by
  obtain ⟨n, st, e1, H1, h1, h2⟩ := h
  cases st with
  | nx =>
    obtain ⟨n2, st, e2, H2, h3, h4⟩ := h2
    refine ⟨max n n2, st, e2, H2, fun m hm => ?_, h4⟩
    simp only [evCode, h1 m (by omega), h3 m (by omega)]
  | ex id => exact ⟨n, _, e1, H1, fun m hm => by simp only [evCode, h1 m hm], h2⟩
  | rt => exact ⟨n, _, e1, H1, fun m hm => by simp only [evCode, h1 m hm], h2⟩

theorem CWp.region {id : Nat} (h : OWp P prims ops ops.toList e H (fun e' H' => Q .nx e' H')) : CWp P prims (.region id ops false) e H Q := by
  obtain ⟨n, e', H', h1, h2⟩ := h
  refine ⟨n, .nx, e', H', fun m hm => ?_, h2⟩
  have : evRegion P prims.flat (evFn P prims m) ops false e H = some (e', H') := by
    unfold evRegion
    simp only [Bool.false_and, cond_false]
    unfold evRegionT
    rw [h1 m hm]
    rfl
  simp only [evCode, this]

/-- A region that draws its order, and leaves the heap alone. -/
theorem CWp.drawn {id : Nat} (hu : calmReg ops = true) (h : OWp P prims ops ops.toList e H (fun e' H' => Q .nx e' H')) : CWp P prims (.region id ops true) e H Q := by
  obtain ⟨n, e', H', h1, h2⟩ := h
  refine ⟨n, .nx, e', H', fun m hm => ?_, h2⟩
  have : evRegion P prims.flat (evFn P prims m) ops true e H = some (e', H') := by
    rw [evRegion_old (by unfold usePerm; simp [hu])]
    unfold evRegionT
    rw [h1 m hm, hu]
    rfl
  simp only [evCode, this]

/-- A region that draws its order, of which at most one operation minds the heap. -/
theorem CWp.drawn1 {id : Nat} (hu : oneReg P ops = true) (h : OWp P prims ops ops.toList e H (fun e' H' => Q .nx e' H')) : CWp P prims (.region id ops true) e H Q := by
  obtain ⟨n, e', H', h1, h2⟩ := h
  refine ⟨n, .nx, e', H', fun m hm => ?_, h2⟩
  have : evRegion P prims.flat (evFn P prims m) ops true e H = some (e', H') := by
    rw [evRegion_old (by unfold usePerm; simp [hu])]
    unfold evRegionT
    rw [h1 m hm, hu]
    simp only [Bool.or_true, Bool.true_or, cond_true]
  simp only [evCode, this]

/-- A region that draws its order: what minds the heap is a chain; what looks at it looks at what stays as it is. -/
theorem CWp.drawnN {id : Nat} (hu : manyReg P ops = true) (h : OWp P prims ops ops.toList e H (fun e' H' => stillAll ops e' H H' = true ∧ Q .nx e' H')) (hp : usePerm P prims.flat ops = false := by kernel_rfl) : CWp P prims (.region id ops true) e H Q := by
  obtain ⟨n, e', H', h1, h2, h3⟩ := h
  refine ⟨n, .nx, e', H', fun m hm => ?_, h3⟩
  have : evRegion P prims.flat (evFn P prims m) ops true e H = some (e', H') := by
    rw [evRegion_old hp]
    unfold evRegionT
    rw [h1 m hm]
    simp only [hu, h2, Bool.and_self, Bool.or_true, Bool.true_or, cond_true]
  simp only [evCode, this]

/-- A region that draws its order: a chain but for one new variable. -/
theorem CWp.drawnL {id : Nat} (hu : lateReg P ops false = true) (h : OWp P prims ops ops.toList e H (fun e' H' => Q .nx e' H')) : CWp P prims (.region id ops true) e H Q := by
  obtain ⟨n, e', H', h1, h2⟩ := h
  refine ⟨n, .nx, e', H', fun m hm => ?_, h2⟩
  have : evRegion P prims.flat (evFn P prims m) ops true e H = some (e', H') := by
    rw [evRegion_old (by unfold usePerm; simp [hu])]
    unfold evRegionT
    rw [h1 m hm]
    simp only [hu, Bool.or_true, Bool.true_or, cond_true]
  simp only [evCode, this]
/-- The same; what looks at the heap looks at what stays as it is. -/
theorem CWp.drawnM {id : Nat} (hu : lateReg P ops true = true) (h : OWp P prims ops ops.toList e H (fun e' H' => stillAll ops e' H H' = true ∧ Q .nx e' H')) (hp : usePerm P prims.flat ops = false := by kernel_rfl) : CWp P prims (.region id ops true) e H Q := by
  obtain ⟨n, e', H', h1, h2, h3⟩ := h
  refine ⟨n, .nx, e', H', fun m hm => ?_, h3⟩
  have : evRegion P prims.flat (evFn P prims m) ops true e H = some (e', H') := by
    rw [evRegion_old hp]
    unfold evRegionT
    rw [h1 m hm]
    simp only [hu, h2, Bool.and_self, Bool.or_true, Bool.true_or, cond_true]
  simp only [evCode, this]

/-- A region that draws its order: what minds the heap is a chain, but for calls that leave it alone; nothing is looked at. -/
theorem CWp.drawnF {id : Nat} (hu : manyF P prims.flat ops = true) (hn : noLoads ops = true) (h : OWp P prims ops ops.toList e H (fun e' H' => Q .nx e' H')) : CWp P prims (.region id ops true) e H Q := by
  obtain ⟨n, e', H', h1, h2⟩ := h
  refine ⟨n, .nx, e', H', fun m hm => ?_, h2⟩
  have : evRegion P prims.flat (evFn P prims m) ops true e H = some (e', H') := by
    rw [evRegion_old (by unfold usePerm; simp [hu, hn])]
    unfold evRegionT
    rw [h1 m hm]
    simp only [hu, hn, Bool.and_self, Bool.or_true, Bool.true_or, cond_true]
  simp only [evCode, this]
theorem CWp.scope {c : Code} (h : CWp P prims c e H Q) : CWp P prims (.scope c) e H Q := by
  obtain ⟨n, st, e', H', h1, h2⟩ := h
  exact ⟨n, st, e', H', fun m hm => by simp only [evCode, h1 m hm], h2⟩
theorem CWp.cond {c : Operand} {x y : Code} {b : Bool} (hc : rho e c = .bool b) (h1 : b = true → CWp P prims x e H Q) (h2 : b = false → CWp P prims y e H Q) : CWp P prims (.cond c x y) e H Q := by
  cases b with
  | true =>
    obtain ⟨n, st, e', H', h3, h4⟩ := h1 rfl
    exact ⟨n, st, e', H', fun m hm => by simp only [evCode, hc, h3 m hm], h4⟩
  | false =>
    obtain ⟨n, st, e', H', h3, h4⟩ := h2 rfl
    exact ⟨n, st, e', H', fun m hm => by simp only [evCode, hc, h3 m hm], h4⟩

def BlockQ (id : Nat) (Q : St → List Value → AH → Prop) : St → List Value → AH → Prop
  | .ex i, e, H => bif Nat.beq i id then Q .nx e H else Q (.ex i) e H
  | st, e, H => Q st e H

theorem CWp.block {id : Nat} {c : Code} (h : CWp P prims c e H (BlockQ id Q)) : CWp P prims (.block id c) e H Q := by
  obtain ⟨n, st, e1, H1, h1, h2⟩ := h
  cases st with
  | nx => exact ⟨n, _, e1, H1, fun m hm => by simp only [evCode, h1 m hm], h2⟩
  | rt => exact ⟨n, _, e1, H1, fun m hm => by simp only [evCode, h1 m hm], h2⟩
  | ex i =>
    by_cases hi : i = id
    · refine ⟨n, .nx, e1, H1, fun m hm => by simp only [evCode, h1 m hm, if_pos hi], ?_⟩
      have : (bif Nat.beq i id then Q .nx e1 H1 else Q (.ex i) e1 H1) := h2
      rwa [show Nat.beq i id = true from Nat.beq_eq.symm ▸ hi, cond_true] at this
    · refine ⟨n, .ex i, e1, H1, fun m hm => by simp only [evCode, h1 m hm, if_neg hi], ?_⟩
      have : (bif Nat.beq i id then Q .nx e1 H1 else Q (.ex i) e1 H1) := h2
      rwa [show Nat.beq i id = false from Bool.eq_false_iff.2 fun h => hi (Nat.eq_of_beq_eq_true h), cond_false] at this

/-- A loop's round: it goes on with less to do, or it ends. -/
def RoundQ (I : Nat → List Value → AH → Prop) (k : Nat) (Q : St → List Value → AH → Prop) : St → List Value → AH → Prop
  | .nx, e, H => ∃ k', k' < k ∧ I k' e H
  | st, e, H => Q st e H

theorem CWp.loop {c : Code} (I : Nat → List Value → AH → Prop) (h0 : ∃ k, I k e H) (hr : ∀ k e H, I k e H → CWp P prims c e H (RoundQ I k Q)) : CWp P prims (.loop c) e H Q := by
  have key : ∀ k e H, I k e H → ∃ n st e' H', (∀ m, n ≤ m → ∀ j, n ≤ j → loopA (evCode P (evRegion P prims.flat (evFn P prims m)) m c) j e H = some (st, e', H')) ∧ Q st e' H' := by
    intro k
    induction k using Nat.strongRecOn with
    | _ k ih =>
      intro e H hi
      obtain ⟨n, st, e1, H1, h1, h2⟩ := hr k e H hi
      cases st with
      | nx =>
        obtain ⟨k', hk, hi'⟩ := h2
        obtain ⟨n2, st, e2, H2, h3, h4⟩ := ih k' hk e1 H1 hi'
        refine ⟨max n n2 + 1, st, e2, H2, fun m hm j hj => ?_, h4⟩
        obtain ⟨j, rfl⟩ : ∃ j', j = j' + 1 := ⟨j - 1, by omega⟩
        simp only [loopA, h1 m (by omega)]
        exact h3 m (by omega) j (by omega)
      | ex id =>
        refine ⟨n + 1, _, e1, H1, fun m hm j hj => ?_, h2⟩
        obtain ⟨j, rfl⟩ : ∃ j', j = j' + 1 := ⟨j - 1, by omega⟩
        simp only [loopA, h1 m (by omega)]
      | rt =>
        refine ⟨n + 1, _, e1, H1, fun m hm j hj => ?_, h2⟩
        obtain ⟨j, rfl⟩ : ∃ j', j = j' + 1 := ⟨j - 1, by omega⟩
        simp only [loopA, h1 m (by omega)]
  obtain ⟨k, h0⟩ := h0
  obtain ⟨n, st, e', H', h1, h2⟩ := key k e H h0
  exact ⟨n, st, e', H', fun m hm => by simp only [evCode]; exact h1 m hm m hm, h2⟩
end

/-! ### Operations -/
section
variable {Q : List Value → AH → Prop}
theorem OWp.nil (h : Q e H) : OWp P prims ops [] e H Q := ⟨0, _, _, fun _ _ => rfl, h⟩

theorem OWp.norm {l : List Oper} (k : OWp P prims ops l e' H Q) (he : e = e' := by simp only [putE, rho, List.set_cons_zero, List.set_cons_succ, List.getD_cons_zero, List.getD_cons_succ]; exact rfl) : OWp P prims ops l e H Q := he ▸ k

theorem OWp.step {v : Value} (hg : guardA ops o e = some true) (h : ∀ call, evOp P call o (rho e) H = some (v, H1)) (he : putE e o.dst v = e') (k : OWp P prims ops r e' H1 Q) : OWp P prims ops (o :: r) e H Q := by
  obtain ⟨n, e2, H2, h1, h2⟩ := k
  subst he
  exact ⟨n, e2, H2, fun m hm => by simp only [evOps, hg, h, h1 m hm], h2⟩

theorem OWp.leave (hg : guardA ops o e = some false) (k : OWp P prims ops r e' H Q) (he : putE e o.dst undef = e' := by simp only [putE, rho, List.set_cons_zero, List.set_cons_succ, List.getD_cons_zero, List.getD_cons_succ, flatB, flat2, flat1, atomB, cond_true, List.all_nil, List.all_toArray]; exact rfl) : OWp P prims ops (o :: r) e H Q := by
  obtain ⟨n, e2, H2, h1, h2⟩ := k
  subst he
  exact ⟨n, e2, H2, fun m hm => by simp only [evOps, hg, h1 m hm], h2⟩

theorem OWp.call {c : Call} {f : FuncId} {args : List Value} (hg : guardA ops o e = some true) (ho : o.op = .call c) (hc : c.callee = .value (.func f)) (ha : c.args.toList.map (rho e) = args)
    (h : FWp P prims f args H fun v H1 => OWp P prims ops r (putE e o.dst v) H1 Q) : OWp P prims ops (o :: r) e H Q := by
  obtain ⟨n, v, H1, h1, n2, e2, H2, h2, h3⟩ := h
  subst ha
  refine ⟨max n n2, e2, H2, fun m hm => ?_, h3⟩
  have : evOp P (evFn P prims m) o (rho e) H = some (v, H1) := by
    unfold evOp
    simp only [ho, callA, hc, rho]
    have := h1 m (by omega)
    simpa using this
  simp only [evOps, hg, this, h2 m (by omega)]

theorem OWp.assign {x : Operand} (hg : guardA ops o e = some true) (ho : o.op = .assign x) (k : OWp P prims ops r e' H Q) (he : putE e o.dst (rho e x) = e' := by simp only [putE, rho, List.set_cons_zero, List.set_cons_succ, List.getD_cons_zero, List.getD_cons_succ, flatB, flat2, flat1, atomB, cond_true, List.all_nil, List.all_toArray]; exact rfl) : OWp P prims ops (o :: r) e H Q :=
  OWp.step hg (fun call => by unfold evOp; simp only [ho]) he k
theorem OWp.move {x : Operand} (hg : guardA ops o e = some true) (ho : o.op = .move x) (k : OWp P prims ops r e' H Q) (he : putE e o.dst (rho e x) = e' := by simp only [putE, rho, List.set_cons_zero, List.set_cons_succ, List.getD_cons_zero, List.getD_cons_succ, flatB, flat2, flat1, atomB, cond_true, List.all_nil, List.all_toArray]; exact rfl) : OWp P prims ops (o :: r) e H Q :=
  OWp.step hg (fun call => by unfold evOp; simp only [ho]) he k
theorem OWp.pickT {c a b : Operand} (hg : guardA ops o e = some true) (ho : o.op = .pick c a b) (hc : rho e c = .bool true) (k : OWp P prims ops r e' H Q) (he : putE e o.dst (rho e a) = e' := by simp only [putE, rho, List.set_cons_zero, List.set_cons_succ, List.getD_cons_zero, List.getD_cons_succ, flatB, flat2, flat1, atomB, cond_true, List.all_nil, List.all_toArray]; exact rfl) : OWp P prims ops (o :: r) e H Q :=
  OWp.step hg (fun call => by unfold evOp; simp only [ho, hc]) he k
theorem OWp.pickF {c a b : Operand} (hg : guardA ops o e = some true) (ho : o.op = .pick c a b) (hc : rho e c = .bool false) (k : OWp P prims ops r e' H Q) (he : putE e o.dst (rho e b) = e' := by simp only [putE, rho, List.set_cons_zero, List.set_cons_succ, List.getD_cons_zero, List.getD_cons_succ, flatB, flat2, flat1, atomB, cond_true, List.all_nil, List.all_toArray]; exact rfl) : OWp P prims ops (o :: r) e H Q :=
  OWp.step hg (fun call => by unfold evOp; simp only [ho, hc]) he k
theorem OWp.extract {t : Operand} {ix : Nat} {vs : Array Value} {v : Value} (hg : guardA ops o e = some true) (ho : o.op = .extract t ix) (ht : rho e t = .tuple vs) (hv : vs[ix]? = some v) (k : OWp P prims ops r e' H Q) (he : putE e o.dst v = e' := by simp only [putE, rho, List.set_cons_zero, List.set_cons_succ, List.getD_cons_zero, List.getD_cons_succ, List.getElem_toArray, List.getElem_cons_zero, List.getElem_cons_succ, flatB, flat2, flat1, atomB, cond_true, List.all_nil, List.all_toArray]; exact rfl) : OWp P prims ops (o :: r) e H Q :=
  OWp.step hg (fun call => by unfold evOp; simp only [ho, ht, hv, Option.map_some]) he k

theorem flat_op {v : Value} {ρ : Operand → Value} (hf : o.op.operands.toList.all (fun x => flatB (ρ x)) = true) (h : pureRun P (execOp ρ o) = some (.value v)) (hv : flatB v = true) : flatOp P o ρ = some v := by
  unfold flatOp
  rw [if_pos hf, h]
  simp only [hv, cond_true]

end
end
end Go.Proofs.YtenolmhnmcjndaaGreatDoor.Ev
namespace Go.Proofs.YtenolmhnmcjndaaGreatDoor.Ev
set_option linter.unusedVariables false
set_option linter.unusedSimpArgs false
open Go
section
variable {P : Program} {prims : Prims} {ops : Array Oper} {o : Oper} {r : List Oper} {e e' : List Value} {H H1 : AH} {Q : List Value → AH → Prop}

theorem pr_bind {α β : Type} (x : Sem α) (f : α → Sem β) : pureRun P (x >>= f) = (pureRun P x).bind fun a => pureRun P (f a) := by
  show pureRun P (x.bind f) = _
  induction x with
  | pure a => rfl
  | program k ih => simp only [Sem.bind, pureRun]; exact ih P
  | mark m k ih => simp only [Sem.bind, pureRun]; exact ih
  | _ => rfl
theorem pr_pure {α : Type} (a : α) : pureRun P (pure a : Sem α) = some a := rfl
theorem pr_underlying {t : TypeId} {d : TypeDesc} (h : P.underlying t = some d) : pureRun P (underlying t) = some d := by
  simp only [underlying, program, pr_bind, pureRun, Option.bind_some, h]
  rfl

theorem eqA_int {t : TypeId} {k : IntKind} {a : Int} {y : Value} : eqA P H t (.int k a) y = none := by unfold eqA; split <;> simp_all
theorem eqA_bool {t : TypeId} {a : Bool} {y : Value} : eqA P H t (.bool a) y = none := by unfold eqA; split <;> simp_all
theorem eqA_string {t : TypeId} {a : ByteArray} {y : Value} : eqA P H t (.string a) y = none := by unfold eqA; split <;> simp_all

theorem dec_eq (a b : Int) : (a == b) = decide (a = b) := rfl
theorem dec_ne (a b : Int) : (a != b) = decide (¬ a = b) := by simp [bne, dec_eq]
theorem dec_str (a b : ByteArray) : (a.toList == b.toList) = decide (a = b) := by
  have h : a.toList = b.toList ↔ a = b := by
    constructor
    · intro h
      have h1 : ∀ x : ByteArray, x.toList = x.data.toList := fun x => ByteArray.toList_eq x
      rw [h1, h1] at h
      cases a; cases b
      simp only at h
      congr 1
      exact Array.toList_inj.1 h
    · rintro rfl; rfl
  rw [Bool.eq_iff_iff]
  simp [h]
/-- What an operation on two numbers gives. -/
def binI (op : BinOp) (k : IntKind) (a b : Int) : Option Value :=
  match op with
  | .add => some (.int k (k.wrap (a + b)))
  | .sub => some (.int k (k.wrap (a - b)))
  | .mul => some (.int k (k.wrap (a * b)))
  | .eql => some (.bool (decide (a = b)))
  | .neq => some (.bool (decide (¬ a = b)))
  | .lss => some (.bool (decide (a < b)))
  | .leq => some (.bool (decide (a ≤ b)))
  | .gtr => some (.bool (decide (a > b)))
  | .geq => some (.bool (decide (a ≥ b)))
  | _ => none

theorem OWp.binI {op : BinOp} {t t' : TypeId} {x y : Operand} {k : IntKind} {a b : Int} {v : Value} (hg : guardA ops o e = some true) (ho : o.op = .binOp op t x y t') (hx : rho e x = .int k a) (hy : rho e y = .int k b)
    (hv : Ev.binI op k a b = some v) (hk : OWp P prims ops r e' H Q) (he : putE e o.dst v = e' := by simp only [putE, rho, List.set_cons_zero, List.set_cons_succ, List.getD_cons_zero, List.getD_cons_succ, flatB, flat2, flat1, atomB, cond_true, List.all_nil, List.all_toArray]; exact rfl) : OWp P prims ops (o :: r) e H Q := by
  refine OWp.step hg (fun call => ?_) he hk
  have hf : flatOp P o (rho e) = some v := by
    refine flat_op (by rw [ho]; simp [Op.operands, hx, hy, flatB, flat2, flat1, atomB]) ?_ ?_
    · unfold execOp
      rw [ho]
      simp only [hx, hy]
      cases op <;> simp only [Ev.binI] at hv <;> first | (cases hv; done) | (cases hv; simp [eqGuard, Go.binOp, Op.intArith, Op.intCmp, dec_eq, dec_ne]; rfl)
    · cases op <;> simp only [Ev.binI] at hv <;> cases hv <;> rfl
  unfold evOp
  simp only [ho, hx, hy, eqA_int, hf, Option.map_some]


/-- What an operation on two strings gives. -/
def binS (op : BinOp) (a b : ByteArray) : Option Value :=
  match op with
  | .eql => some (.bool (decide (a = b)))
  | .neq => some (.bool (decide (¬ a = b)))
  | _ => none

theorem OWp.binS {op : BinOp} {t t' : TypeId} {x y : Operand} {a b : ByteArray} {v : Value} (hg : guardA ops o e = some true) (ho : o.op = .binOp op t x y t') (hx : rho e x = .string a) (hy : rho e y = .string b)
    (hv : Ev.binS op a b = some v) (hk : OWp P prims ops r e' H Q) (he : putE e o.dst v = e' := by simp only [putE, rho, List.set_cons_zero, List.set_cons_succ, List.getD_cons_zero, List.getD_cons_succ, flatB, flat2, flat1, atomB, cond_true, List.all_nil, List.all_toArray]; exact rfl) : OWp P prims ops (o :: r) e H Q := by
  refine OWp.step hg (fun call => ?_) he hk
  have hf : flatOp P o (rho e) = some v := by
    refine flat_op (by rw [ho]; simp [Op.operands, hx, hy, flatB, flat2, flat1, atomB]) ?_ ?_
    · unfold execOp
      rw [ho]
      simp only [hx, hy]
      cases op <;> simp only [Ev.binS] at hv <;> first | (cases hv; done) | (cases hv; simp [eqGuard, Go.binOp, Op.stringOp, dec_str]; rfl)
    · cases op <;> simp only [Ev.binS] at hv <;> cases hv <;> rfl
  unfold evOp
  simp only [ho, hx, eqA_string, hf, Option.map_some]

theorem OWp.catS {t t' : TypeId} {x y : Operand} {a b : ByteArray} (hg : guardA ops o e = some true) (ho : o.op = .binOp .add t x y t') (hx : rho e x = .string a) (hy : rho e y = .string b)
    (hs : a.size + b.size ≤ 9223372036854775807) (hk : OWp P prims ops r e' H Q) (he : putE e o.dst (.string (a ++ b)) = e' := by simp only [putE, rho, List.set_cons_zero, List.set_cons_succ, List.getD_cons_zero, List.getD_cons_succ, flatB, flat2, flat1, atomB, cond_true, List.all_nil, List.all_toArray]; exact rfl) : OWp P prims ops (o :: r) e H Q := by
  refine OWp.step hg (fun call => ?_) he hk
  have hf : flatOp P o (rho e) = some (.string (a ++ b)) := by
    refine flat_op (by rw [ho]; simp [Op.operands, hx, hy, flatB, flat2, flat1, atomB]) ?_ rfl
    unfold execOp
    rw [ho]
    simp only [hx, hy]
    have : ¬ (((a.size + b.size : Nat) : Int) > IntKind.i64.max) := by
      have : IntKind.i64.max = 9223372036854775807 := by decide
      rw [this]; omega
    simp only [eqGuard, Go.binOp, Op.stringOp, if_neg this]
    rfl
  unfold evOp
  simp only [ho, hx, hy, eqA_string, hf, Option.map_some]

theorem OWp.notB {t : TypeId} {x : Operand} {b : Bool} (hg : guardA ops o e = some true) (ho : o.op = .unOp .not t x) (hx : rho e x = .bool b) (hk : OWp P prims ops r e' H Q) (he : putE e o.dst (.bool (!b)) = e' := by simp only [putE, rho, List.set_cons_zero, List.set_cons_succ, List.getD_cons_zero, List.getD_cons_succ, flatB, flat2, flat1, atomB, cond_true, List.all_nil, List.all_toArray]; exact rfl) : OWp P prims ops (o :: r) e H Q := by
  refine OWp.step hg (fun call => ?_) he hk
  have hf : flatOp P o (rho e) = some (.bool (!b)) := by
    refine flat_op (by rw [ho]; simp [Op.operands, hx, flatB, flat2, flat1, atomB]) ?_ rfl
    unfold execOp
    rw [ho]
    simp only [hx, Op.unary]
    rfl
  unfold evOp
  simp only [ho, hf, Option.map_some]

theorem OWp.notD {t : TypeId} {x : Operand} {p : Prop} [Decidable p] (hg : guardA ops o e = some true) (ho : o.op = .unOp .not t x) (hx : rho e x = .bool (decide p)) (hk : OWp P prims ops r e' H Q) (he : putE e o.dst (.bool (decide (¬ p))) = e' := by simp only [putE, rho, List.set_cons_zero, List.set_cons_succ, List.getD_cons_zero, List.getD_cons_succ, flatB, flat2, flat1, atomB, cond_true, List.all_nil, List.all_toArray]; exact rfl) : OWp P prims ops (o :: r) e H Q :=
  OWp.notB hg ho hx hk (by rw [← he]; congr 2; simp)

theorem wrap_id {a : Int} (h : -9223372036854775808 ≤ a ∧ a ≤ 9223372036854775807) : IntKind.i64.wrap a = a := by rw [IntKind.wrap_i64]; omega

theorem OWp.addI {t t' : TypeId} {x y : Operand} {a b : Int} (hg : guardA ops o e = some true) (ho : o.op = .binOp .add t x y t') (hx : rho e x = .int .i64 a) (hy : rho e y = .int .i64 b)
    (hr : -9223372036854775808 ≤ a + b ∧ a + b ≤ 9223372036854775807) (hk : OWp P prims ops r e' H Q) (he : putE e o.dst (.int .i64 (a + b)) = e' := by simp only [putE, rho, List.set_cons_zero, List.set_cons_succ, List.getD_cons_zero, List.getD_cons_succ, flatB, flat2, flat1, atomB, cond_true, List.all_nil, List.all_toArray]; exact rfl) : OWp P prims ops (o :: r) e H Q :=
  OWp.binI hg ho hx hy rfl hk (by rw [wrap_id hr]; exact he)
theorem OWp.subI {t t' : TypeId} {x y : Operand} {a b : Int} (hg : guardA ops o e = some true) (ho : o.op = .binOp .sub t x y t') (hx : rho e x = .int .i64 a) (hy : rho e y = .int .i64 b)
    (hr : -9223372036854775808 ≤ a - b ∧ a - b ≤ 9223372036854775807) (hk : OWp P prims ops r e' H Q) (he : putE e o.dst (.int .i64 (a - b)) = e' := by simp only [putE, rho, List.set_cons_zero, List.set_cons_succ, List.getD_cons_zero, List.getD_cons_succ, flatB, flat2, flat1, atomB, cond_true, List.all_nil, List.all_toArray]; exact rfl) : OWp P prims ops (o :: r) e H Q :=
  OWp.binI hg ho hx hy rfl hk (by rw [wrap_id hr]; exact he)

theorem OWp.remI {t t' : TypeId} {x y : Operand} {a b : Int} (hg : guardA ops o e = some true) (ho : o.op = .binOp .rem t x y t') (hx : rho e x = .int .i64 a) (hy : rho e y = .int .i64 b)
    (hr : 0 ≤ a ∧ a ≤ 9223372036854775807 ∧ 0 < b) (hk : OWp P prims ops r e' H Q) (he : putE e o.dst (.int .i64 (a % b)) = e' := by simp only [putE, rho, List.set_cons_zero, List.set_cons_succ, List.getD_cons_zero, List.getD_cons_succ]; exact rfl) : OWp P prims ops (o :: r) e H Q := by
  refine OWp.step hg (fun call => ?_) he hk
  have hm : a.tmod b = a % b := Int.tmod_eq_emod_of_nonneg hr.1
  have hf : flatOp P o (rho e) = some (.int .i64 (a % b)) := by
    refine flat_op (by rw [ho]; simp [Op.operands, hx, hy, flatB, flat2, flat1, atomB]) ?_ rfl
    unfold execOp
    rw [ho]
    have hb : ¬ b = 0 := by omega
    simp [hx, hy, eqGuard, Go.binOp, Op.intDiv, hb, hm]; rfl
  unfold evOp
  simp only [ho, hx, hy, eqA_int, hf, Option.map_some]

/-- An operation that is done, or not: as a truth says. -/
theorem OWp.byG {b : Bool} (hg : guardA ops o e = some b) (h1 : b = true → OWp P prims ops (o :: r) e H Q) (h2 : b = false → OWp P prims ops (o :: r) e H Q) : OWp P prims ops (o :: r) e H Q := by
  cases b with
  | true => exact h1 rfl
  | false => exact h2 rfl

theorem OWp.byT {p : Prop} [Decidable p] (hg : guardA ops o e = some (decide p == true)) (h1 : p → OWp P prims ops (o :: r) e H Q) (h2 : ¬ p → OWp P prims ops (o :: r) e H Q) : OWp P prims ops (o :: r) e H Q :=
  if h : p then h1 h else h2 h
theorem OWp.byF {p : Prop} [Decidable p] (hg : guardA ops o e = some (decide p == false)) (h1 : ¬ p → OWp P prims ops (o :: r) e H Q) (h2 : p → OWp P prims ops (o :: r) e H Q) : OWp P prims ops (o :: r) e H Q :=
  if h : p then h2 h else h1 h
theorem OWp.byBT {b : Bool} (hg : guardA ops o e = some (b == true)) (h1 : b = true → OWp P prims ops (o :: r) e H Q) (h2 : b = false → OWp P prims ops (o :: r) e H Q) : OWp P prims ops (o :: r) e H Q := by
  cases b with
  | true => exact h1 rfl
  | false => exact h2 rfl
theorem OWp.byBF {b : Bool} (hg : guardA ops o e = some (b == false)) (h1 : b = false → OWp P prims ops (o :: r) e H Q) (h2 : b = true → OWp P prims ops (o :: r) e H Q) : OWp P prims ops (o :: r) e H Q := by
  cases b with
  | true => exact h2 rfl
  | false => exact h1 rfl

theorem OWp.lenS {c : Call} {x : Operand} {t : TypeId} {s : ByteArray} (hg : guardA ops o e = some true) (ho : o.op = .call c) (hc : c.callee = .builtin .len) (hcs : c.args = #[x]) (hct : c.argTypes = #[t]) (ht : P.underlying t = some .string) (hx : rho e x = .string s)
    (hk : OWp P prims ops r e' H Q) (he : putE e o.dst (.int .i64 s.size) = e' := by simp only [putE, rho, List.set_cons_zero, List.set_cons_succ, List.getD_cons_zero, List.getD_cons_succ, flatB, flat2, flat1, atomB, cond_true, List.all_nil, List.all_toArray]; exact rfl) : OWp P prims ops (o :: r) e H Q := by
  refine OWp.step hg (fun call => ?_) he hk
  have hf : flatOp P o (rho e) = some (.int .i64 s.size) := by
    refine flat_op (by rw [ho]; simp [Op.operands, Call.operands, hc, hcs, hx, flatB, flat2, flat1, atomB]) ?_ rfl
    unfold execOp
    rw [ho]
    simp only [resolve, hc, hcs, List.map_toArray, List.map_cons, List.map_nil, hx, pr_bind, pr_pure, Option.bind_some, invoke, builtin, Builtin.len_, hct, List.getElem?_toArray, List.getElem?_cons_zero, pr_underlying ht]
    rfl
  have hty : ((#[t] : Array TypeId)[0]?).bind P.underlying = some .string := ht
  unfold evOp
  simp only [ho, callA, hc, hcs, hct, hty, List.map_cons, List.map_nil, hx, hf, Option.map_some]

/-- A byte of a string. -/
def byteAt (s : ByteArray) (i : Int) : Int := ((s.data[i.toNat]?).getD 0).toNat

theorem OWp.indexS {t : TypeId} {x y : Operand} {s : ByteArray} {k : IntKind} {i : Int} (hg : guardA ops o e = some true) (ho : o.op = .index t x y) (ht : P.underlying t = some .string) (hx : rho e x = .string s) (hy : rho e y = .int k i)
    (h0 : 0 ≤ i) (h1 : i < s.size) (hk : OWp P prims ops r e' H Q) (he : putE e o.dst (.int .u8 (byteAt s i)) = e' := by simp only [putE, rho, List.set_cons_zero, List.set_cons_succ, List.getD_cons_zero, List.getD_cons_succ, flatB, flat2, flat1, atomB, cond_true, List.all_nil, List.all_toArray]; exact rfl) : OWp P prims ops (o :: r) e H Q := by
  refine OWp.step hg (fun call => ?_) he hk
  have hi : i.toNat < s.data.size := by have : s.data.size = s.size := rfl; omega
  have hf : flatOp P o (rho e) = some (.int .u8 (byteAt s i)) := by
    refine flat_op (by rw [ho]; simp [Op.operands, hx, hy, flatB, flat2, flat1, atomB]) ?_ rfl
    unfold execOp
    rw [ho]
    have hs : s[i.toNat]? = some (s.data[i.toNat]) := by
      have h2 : i.toNat < s.size := hi
      rw [getElem?_pos s i.toNat h2]
      rfl
    have hb : byteAt s i = (s.data[i.toNat]).toNat := by simp only [byteAt, Array.getElem?_eq_getElem hi, Option.getD_some]
    simp only [hx, hy, Instr.index, asIntOf, hb, pr_bind, pr_pure, Option.bind_some, pr_underlying ht, if_pos h0, hs]
  unfold evOp
  simp only [ho, hf, Option.map_some]

/-- A bound of a slice expression: none is what it is by default. -/
def boundI (ρ : Operand → Value) (x : Option Operand) (d : Int) : Option Int :=
  match x with
  | none => some d
  | some x => match ρ x with
    | .int _ i => some i
    | _ => none

theorem pr_bound {x : Value} {k : IntKind} {i : Int} {n : Nat} {c : BoundsCode} (hx : x = .int k i) (h0 : 0 ≤ i) (h1 : i ≤ n) : pureRun P (Instr.sliceBound x n c) = some i.toNat := by
  subst hx
  simp only [Instr.sliceBound, asIntOf, pr_bind, pr_pure, Option.bind_some, if_pos (And.intro h0 h1)]

theorem OWp.sliceS {t : TypeId} {x : Operand} {lo hi : Option Operand} {s : ByteArray} {l h : Int} (hg : guardA ops o e = some true) (ho : o.op = .slice t x lo hi none) (ht : P.underlying t = some .string) (hx : rho e x = .string s)
    (hl : boundI (rho e) lo 0 = some l) (hh : boundI (rho e) hi s.size = some h) (h0 : 0 ≤ l) (h1 : l ≤ h) (h2 : h ≤ s.size)
    (hk : OWp P prims ops r e' H Q) (he : putE e o.dst (.string (s.extract l.toNat h.toNat)) = e' := by simp only [putE, rho, List.set_cons_zero, List.set_cons_succ, List.getD_cons_zero, List.getD_cons_succ, flatB, flat2, flat1, atomB, cond_true, List.all_nil, List.all_toArray]; exact rfl) : OWp P prims ops (o :: r) e H Q := by
  refine OWp.step hg (fun call => ?_) he hk
  have hf : flatOp P o (rho e) = some (.string (s.extract l.toNat h.toNat)) := by
    have hlh : l ≤ (h.toNat : Int) := by omega
    cases lo with
    | none =>
      cases hl
      cases hi with
      | none =>
        cases hh
        refine flat_op (by rw [ho]; simp [Op.operands, hx, flatB, flat2, flat1, atomB]) ?_ rfl
        unfold execOp
        rw [ho]
        simp only [Instr.sliceAt, hx, Instr.slice, Instr.sliceBounds, Option.map_none, pr_bind, pr_pure, Option.bind_some, pr_underlying ht, Option.isSome_none, Bool.false_eq_true, if_false]
        rfl
      | some y =>
        simp only [boundI] at hh
        split at hh
        case h_2 => cases hh
        rename_i k i hy
        cases hh
        refine flat_op (by rw [ho]; simp [Op.operands, hx, hy, flatB, flat2, flat1, atomB]) ?_ rfl
        unfold execOp
        rw [ho]
        simp only [Instr.sliceAt, hx, Instr.slice, Instr.sliceBounds, Option.map_none, Option.map_some, pr_bind, pr_pure, Option.bind_some, pr_underlying ht, Option.isSome_none, Bool.false_eq_true, if_false, pr_bound hy h1 h2]
        rfl
    | some y =>
      simp only [boundI] at hl
      split at hl
      case h_2 => cases hl
      rename_i k i hy
      cases hl
      cases hi with
      | none =>
        cases hh
        refine flat_op (by rw [ho]; simp [Op.operands, hx, hy, flatB, flat2, flat1, atomB]) ?_ rfl
        unfold execOp
        rw [ho]
        simp only [Instr.sliceAt, hx, Instr.slice, Instr.sliceBounds, Option.map_none, Option.map_some, pr_bind, pr_pure, Option.bind_some, pr_underlying ht, Option.isSome_none, Bool.false_eq_true, if_false, pr_bound hy h0 h1]
        rfl
      | some z =>
        simp only [boundI] at hh
        split at hh
        case h_2 => cases hh
        rename_i k' i' hz
        cases hh
        refine flat_op (by rw [ho]; simp [Op.operands, hx, hy, hz, flatB, flat2, flat1, atomB]) ?_ rfl
        unfold execOp
        rw [ho]
        simp only [Instr.sliceAt, hx, Instr.slice, Instr.sliceBounds, Option.map_none, Option.map_some, pr_bind, pr_pure, Option.bind_some, pr_underlying ht, Option.isSome_none, Bool.false_eq_true, if_false, pr_bound hz (Int.le_trans h0 h1) h2, pr_bound hy h0 hlh]
  unfold evOp
  simp only [ho, ht, hf, Option.map_some]

theorem CWp.condT {Q : St → List Value → AH → Prop} {c : Operand} {x y : Code} (hc : rho e c = .bool true) (h : CWp P prims x e H Q) : CWp P prims (.cond c x y) e H Q := CWp.cond hc (fun _ => h) (fun h => by cases h)
theorem CWp.condF {Q : St → List Value → AH → Prop} {c : Operand} {x y : Code} (hc : rho e c = .bool false) (h : CWp P prims y e H Q) : CWp P prims (.cond c x y) e H Q := CWp.cond hc (fun h => by cases h) (fun _ => h)
theorem CWp.condP {Q : St → List Value → AH → Prop} {c : Operand} {x y : Code} {p : Prop} [Decidable p] (hc : rho e c = .bool (decide p)) (h1 : p → CWp P prims x e H Q) (h2 : ¬ p → CWp P prims y e H Q) : CWp P prims (.cond c x y) e H Q :=
  CWp.cond hc (fun h => h1 (of_decide_eq_true h)) (fun h => h2 (of_decide_eq_false h))

theorem FWp.enter {f : FuncId} {fn : Func} {c : Code} {args : List Value} {Q : Value → AH → Prop} (hg : prims f = none) (hf : P.funcs[f]? = some fn) (hb : fn.body = some c) (he : args ++ List.replicate (fn.ntmps - args.length) undef = e)
    (h : CWp P prims c e H (RetQ P fn Q)) : FWp P prims f args H Q := FWp.body hg hf hb (he ▸ h)

theorem RetQ.one {fn : Func} {Q : Value → AH → Prop} {st : St} {a : Tmp} {x : Value} (hst : st = .nx ∨ st = .rt) (hr : fn.results = #[.tmp a]) (hx : e.getD a undef = x) (h : Q x H) : RetQ P fn Q st e H := by
  refine ⟨hst, x, ?_, h⟩
  subst hx
  simp [resultsA, hr, resA]
theorem RetQ.two {fn : Func} {Q : Value → AH → Prop} {st : St} {a b : Tmp} {x y : Value} (hst : st = .nx ∨ st = .rt) (hr : fn.results = #[.tmp a, .tmp b]) (hx : e.getD a undef = x) (hy : e.getD b undef = y) (nx : noTuple x = true) (ny : noTuple y = true)
    (h : Q (.tuple #[x, y]) H) : RetQ P fn Q st e H := by
  refine ⟨hst, _, ?_, h⟩
  subst hx hy
  simp only [List.getD_eq_getElem?_getD] at nx ny
  simp [resultsA, hr, resA, nx, ny]
theorem RetQ.three {fn : Func} {Q : Value → AH → Prop} {st : St} {a b c : Tmp} {x y z : Value} (hst : st = .nx ∨ st = .rt) (hr : fn.results = #[.tmp a, .tmp b, .tmp c]) (hx : e.getD a undef = x) (hy : e.getD b undef = y) (hz : e.getD c undef = z) (nx : noTuple x = true) (ny : noTuple y = true) (nz : noTuple z = true)
    (h : Q (.tuple #[x, y, z]) H) : RetQ P fn Q st e H := by
  refine ⟨hst, _, ?_, h⟩
  subst hx hy hz
  simp only [List.getD_eq_getElem?_getD] at nx ny nz
  simp [resultsA, hr, resA, nx, ny, nz]

end
end Go.Proofs.YtenolmhnmcjndaaGreatDoor.Ev
namespace Go.Proofs.YtenolmhnmcjndaaGreatDoor.Ev
set_option linter.unusedVariables false
set_option linter.unusedSimpArgs false
open Go
section
variable {P : Program} {prims : Prims} {ops : Array Oper} {o : Oper} {r : List Oper} {e e' : List Value} {H H0 H1 H2 : AH} {Q : List Value → AH → Prop} {c : Nat} {ob ob' : Obj} {ex : Bool}

/-- What was there is as it was. -/
structure Keeps (H H' : AH) : Prop where
  wf : WfH H'
  next : H.next ≤ H'.next
  blk : ∀ c, c < H.next → H'.blk c = H.blk c
  grp : ∀ c b, H.blk c = some b → H'.grp b.root = H.grp b.root

/-- A block that shares no row. -/
def Own (H : AH) (c : Nat) (o : Obj) (ex : Bool) : Prop := ∃ ver, H.blk c = some ⟨o, c, ex, ver⟩ ∧ H.grp c = (c, c)

theorem Keeps.refl (hw : WfH H) : Keeps H H := ⟨hw, Nat.le_refl _, fun _ _ => rfl, fun _ _ _ => rfl⟩
theorem Keeps.trans (h : Keeps H0 H1) (k : Keeps H1 H2) (hw : WfH H0) : Keeps H0 H2 :=
  ⟨k.wf, Nat.le_trans h.next k.next, fun c hc => (k.blk c (Nat.lt_of_lt_of_le hc h.next)).trans (h.blk c hc),
   fun c b hb => (k.grp c b ((h.blk c (hw.lt c b hb).1).trans hb)).trans (h.grp c b hb)⟩

theorem Own.lt (hw : WfH H) (h : Own H c ob ex) : c < H.next := by obtain ⟨v, h1, _⟩ := h; exact (hw.lt _ _ h1).1
theorem Own.keep (hw : WfH H) (h : Own H c ob ex) (k : Keeps H H1) : Own H1 c ob ex := by
  have hc := h.lt hw
  obtain ⟨v, h1, h2⟩ := h
  exact ⟨v, (k.blk c hc).trans h1, (k.grp c _ h1).trans h2⟩

theorem Keeps.alloc (hw : WfH H) (ho : shapeSame ob ob) : Keeps H (H.alloc ob ex) :=
  ⟨hw.alloc ho, by rw [next_alloc]; omega, fun c hc => by rw [blk_alloc, if_neg (by omega)], fun _ _ _ => grp_alloc⟩
theorem Own.alloc (hw : WfH H) : Own (H.alloc ob ex) H.next ob ex := ⟨_, blk_alloc_new, by rw [grp_alloc, hw.fresh _ (Nat.le_refl _)]⟩

theorem Own.put (h : Own H c ob ex) (v : Nat) : Own (H.put c ⟨ob, c, ex, v⟩ ob') c ob' ex := by
  obtain ⟨_, _, h2⟩ := h
  refine ⟨_, blk_put_same, ?_⟩
  rw [grp_put, if_pos rfl, h2]
theorem Own.wfPut {v : Nat} (hw : WfH H) (hb : H.blk c = some ⟨ob, c, ex, v⟩) (hg : H.grp c = (c, c)) (ho : shapeSame ob' ob') : WfH (H.put c ⟨ob, c, ex, v⟩ ob') :=
  hw.put hb (live_iff.2 (by rw [hg]; exact Nat.le_refl _)) (tip_iff.2 (by rw [hg])) ho
theorem Own.keepPut {v : Nat} (k : Keeps H0 H) (hw0 : WfH H0) (hc : H0.next ≤ c) (hb : H.blk c = some ⟨ob, c, ex, v⟩) (hg : H.grp c = (c, c)) (ho : shapeSame ob' ob') : Keeps H0 (H.put c ⟨ob, c, ex, v⟩ ob') := by
  refine ⟨Own.wfPut k.wf hb hg ho, k.next, fun d hd => ?_, fun d b hd => ?_⟩
  · rw [blk_put, if_neg (by omega)]; exact k.blk d hd
  · have hlt := hw0.lt d b hd
    rw [grp_put, if_neg (by show ¬ b.root = c; omega)]
    exact k.grp d b hd
theorem Own.other {d : Nat} {ob2 : Obj} {ex2 : Bool} {v : Nat} (h : Own H d ob2 ex2) (hd : d ≠ c) : Own (H.put c ⟨ob, c, ex, v⟩ ob') d ob2 ex2 := by
  obtain ⟨v2, h1, h2⟩ := h
  exact ⟨v2, by rw [blk_put, if_neg hd]; exact h1, by rw [grp_put, if_neg hd]; exact h2⟩

theorem OWp.rangeS {t : TypeId} {x : Operand} {s : ByteArray} (hw : WfH H) (hg : guardA ops o e = some true) (ho : o.op = .range t x) (ht : P.underlying t = some .string) (hx : rho e x = .string s)
    (hk : ∀ H1 i, WfH H1 → Keeps H H1 → H.next ≤ i → Own H1 i (.stringIter s 0) true → OWp P prims ops r (putE e o.dst (.pointer (some ⟨i, 0, none⟩))) H1 Q) : OWp P prims ops (o :: r) e H Q := by
  have sh : shapeSame (.stringIter s 0) (.stringIter s 0) := trivial
  exact OWp.step hg (fun call => by unfold evOp; simp only [ho, ht, hx]) rfl (hk _ _ (hw.alloc sh) (Keeps.alloc hw sh) (Nat.le_refl _) (Own.alloc hw))

end
end Go.Proofs.YtenolmhnmcjndaaGreatDoor.Ev
namespace Go.Proofs.YtenolmhnmcjndaaGreatDoor.Ev
set_option linter.unusedVariables false
set_option linter.unusedSimpArgs false
open Go
section
variable {P : Program} {prims : Prims} {ops : Array Oper} {o : Oper} {r : List Oper} {e e' : List Value} {H H0 H1 H2 : AH} {Q : List Value → AH → Prop} {c : Nat} {ob ob' : Obj} {ex : Bool}

/-- What a row's cells are, from a place on. -/
def Row (H : AH) (p : Option Addr) (l : List Value) : Prop :=
  match p with
  | none => l = []
  | some a => a.spot = none ∧ ∃ C e f, H.cells a.block = some (C, e, f) ∧ a.off + l.length ≤ C.size ∧ (C.extract a.off (a.off + l.length)).toList = l

theorem Row.rowA {p : Option Addr} {l : List Value} (h : Row H p l) : rowA H p l.length = some l := by
  cases p with
  | none => cases h; rfl
  | some a =>
    obtain ⟨h0, C, e, f, h1, h2, h3⟩ := h
    unfold Ev.rowA
    simp only [h0, h1, if_pos h2, h3]

/-- Blocks that may be looked at stay so, as they are. -/
def Sees (H H' : AH) : Prop := ∀ c x, H.cells c = some x → H'.cells c = some x
theorem Sees.refl : Sees H H := fun _ _ h => h
theorem Sees.trans (h : Sees H0 H1) (k : Sees H1 H2) : Sees H0 H2 := fun c x hx => k c x (h c x hx)
theorem Keeps.sees (hw : WfH H) (k : Keeps H H1) : Sees H H1 := fun c x hx => by
  unfold AH.cells at *
  split at hx
  case h_2 => cases hx
  rename_i b hb
  rw [(k.blk c (hw.lt c b hb).1).trans hb]
  simp only [AH.live, k.grp c b hb]
  exact hx
theorem Row.sees {p : Option Addr} {l : List Value} (s : Sees H H1) (h : Row H p l) : Row H1 p l := by
  cases p with
  | none => exact h
  | some a =>
    obtain ⟨h0, C, e, f, h1, h2, h3⟩ := h
    exact ⟨h0, C, e, f, s _ _ h1, h2, h3⟩

theorem Own.cells {C : Array Value} {t : TypeId} {f : Nat × Nat} (h : Own H c (.cells C t f) ex) : H.cells c = some (C, t, f) := by
  obtain ⟨v, h1, h2⟩ := h
  have hl : H.live c ⟨.cells C t f, c, ex, v⟩ = true := live_iff.2 (by rw [h2]; exact Nat.le_refl _)
  unfold AH.cells
  simp only [h1, hl]
theorem Own.row {C : Array Value} {t : TypeId} {f : Nat × Nat} (h : Own H c (.cells C t f) ex) : Row H (some ⟨c, 0, none⟩) C.toList :=
  ⟨rfl, C, t, f, h.cells, by simp, by simp⟩

/-- A slice that was made by appending alone, to what was nil: one more cell takes a new row. -/
def Grow (B : Nat) (H : AH) (v : Value) (t : TypeId) (l : List Value) : Prop :=
  (l = [] ∧ v = .slice none 0 0) ∨
  ∃ c root ver f, B ≤ root ∧ root ≤ c ∧ v = .slice (some ⟨c, 0, none⟩) l.length l.length ∧ l ≠ [] ∧ H.blk c = some ⟨.cells l.toArray t f, root, false, ver⟩ ∧ H.grp root = (c, root)

theorem Grow.row {B : Nat} {v : Value} {t : TypeId} {l : List Value} (h : Grow B H v t l) : ∃ p, v = .slice p l.length l.length ∧ Row H p l := by
  rcases h with ⟨rfl, rfl⟩ | ⟨c, root, ver, f, h0, h1, rfl, _, hb, hg⟩
  · exact ⟨none, rfl, rfl⟩
  · refine ⟨_, rfl, rfl, l.toArray, t, f, ?_, by simp, by simp⟩
    have hl : H.live c ⟨.cells l.toArray t f, root, false, ver⟩ = true := live_iff.2 (by rw [hg]; exact h1)
    unfold AH.cells
    simp only [hb, hl]
theorem Grow.keep {B : Nat} {v : Value} {t : TypeId} {l : List Value} (hw : WfH H) (k : Keeps H H1) (h : Grow B H v t l) : Grow B H1 v t l := by
  rcases h with h | ⟨c, root, ver, f, h0, h1, h2, h3, hb, hg⟩
  · exact .inl h
  · exact .inr ⟨c, root, ver, f, h0, h1, h2, h3, (k.blk c (hw.lt _ _ hb).1).trans hb, (k.grp c _ hb).trans hg⟩

theorem Own.seesPut {v : Nat} (hb : H.blk c = some ⟨ob, c, ex, v⟩) (hg : H.grp c = (c, c)) (hno : ∀ C t f, ob ≠ .cells C t f) : Sees H (H.put c ⟨ob, c, ex, v⟩ ob') := fun d x hx => by
  unfold AH.cells at *
  split at hx
  case h_2 => cases hx
  rename_i b hd
  have hne : d ≠ c := by
    rintro rfl
    rw [hb] at hd; cases hd
    simp only at hx
    split at hx
    · exact hno _ _ _ rfl
    · cases hx
  rw [blk_put, if_neg hne, hd]
  have hl : (H.put c ⟨ob, c, ex, v⟩ ob').live d b = H.live d b := by
    simp only [AH.live, grp_put]
    split
    · rename_i e1; rw [e1, hg]
    · rfl
  simp only [hl]
  exact hx
theorem Grow.put {B v : Nat} {x : Value} {t : TypeId} {l : List Value} (h : Grow B H x t l) (hb : H.blk c = some ⟨ob, c, ex, v⟩) (hg : H.grp c = (c, c)) (hno : ∀ C t f, ob ≠ .cells C t f) : Grow B (H.put c ⟨ob, c, ex, v⟩ ob') x t l := by
  rcases h with h | ⟨d, root, ver, f, h0, h1, h2, h3, hd, hr⟩
  · exact .inl h
  · have hne : d ≠ c := by
      rintro rfl
      rw [hb] at hd; cases hd
      exact hno _ _ _ rfl
    refine .inr ⟨d, root, ver, f, h0, h1, h2, h3, by rw [blk_put, if_neg hne]; exact hd, ?_⟩
    rw [grp_put]
    split
    · rename_i e1
      simp only at e1
      subst e1
      rw [hg] at hr ⊢
      exact hr
    · exact hr

theorem OWp.nextS {x : Operand} {s : ByteArray} {i pos : Nat} (hw : WfH H) (hi : Own H i (.stringIter s pos) true) (hg : guardA ops o e = some true) (ho : o.op = .next x true) (hx : rho e x = .pointer (some ⟨i, 0, none⟩))
    (h1 : pos < s.size → ∀ H1, WfH H1 → (∀ H0, WfH H0 → Keeps H0 H → H0.next ≤ i → Keeps H0 H1) → (∀ d ob ex, d ≠ i → Own H d ob ex → Own H1 d ob ex) → Own H1 i (.stringIter s (pos + (Utf8.decode s pos).2)) true → Sees H H1 → (∀ B v t l, Grow B H v t l → Grow B H1 v t l) →
      OWp P prims ops r (putE e o.dst (.tuple #[.bool true, .int .i64 pos, .int .i32 (Utf8.decode s pos).1])) H1 Q)
    (h2 : ¬ pos < s.size → OWp P prims ops r (putE e o.dst (.tuple #[.bool false])) H Q) : OWp P prims ops (o :: r) e H Q := by
  have hi' := hi
  obtain ⟨v, hb, hgr⟩ := hi
  have hl : H.live i ⟨.stringIter s pos, i, true, v⟩ = true := live_iff.2 (by rw [hgr]; exact Nat.le_refl _)
  have htp : H.tip i ⟨.stringIter s pos, i, true, v⟩ = true := tip_iff.2 (by rw [hgr])
  have sh : ∀ p, shapeSame (.stringIter s p) (.stringIter s p) := fun _ => trivial
  by_cases hp : pos < s.size
  · refine OWp.step hg (fun call => by unfold evOp; simp only [ho, hx, nextA, hb, hl, htp, Bool.and_true, if_pos hp]) rfl
      (h1 hp _ (Own.wfPut hw hb hgr (sh _)) (fun H0 w0 k hc => Own.keepPut k w0 hc hb hgr (sh _)) (fun d ob ex hd h => h.other hd) (hi'.put v) (Own.seesPut hb hgr (fun _ _ _ e => by cases e)) (fun B v t l h => h.put hb hgr (fun _ _ _ e => by cases e)))
  · exact OWp.step hg (fun call => by unfold evOp; simp only [ho, hx, nextA, hb, hl, htp, Bool.and_true, if_neg hp]) rfl (h2 hp)


/-- What a call of append may have turned. -/
structure Grown (B : Nat) (H H1 : AH) : Prop where
  wf : WfH H1
  keeps : ∀ H0, WfH H0 → Keeps H0 H → H0.next ≤ B → Keeps H0 H1
  own : ∀ d ob, Own H d ob true → Own H1 d ob true
  sees : Sees H H1
theorem Grown.refl {B : Nat} (hw : WfH H) : Grown B H H := ⟨hw, fun _ _ k _ => k, fun _ _ h => h, Sees.refl⟩
theorem Grown.of_keeps {B : Nat} (hw : WfH H) (k : Keeps H H1) : Grown B H H1 :=
  ⟨k.wf, fun _ w0 k0 _ => k0.trans k w0, fun _ _ h => h.keep hw k, k.sees hw⟩
theorem Grown.trans {B : Nat} (h : Grown B H H1) (k : Grown B H1 H2) : Grown B H H2 :=
  ⟨k.wf, fun H0 w0 k0 hb => k.keeps H0 w0 (h.keeps H0 w0 k0 hb) hb, fun d ob h1 => k.own d ob (h.own d ob h1), h.sees.trans k.sees⟩

theorem append_grow {sT xT t xe : TypeId} {v z : Value} {p : Option Addr} {m cap B : Nat} {l l2 : List Value} (hw : WfH H) (hB : B ≤ H.next) (hE : elemT P sT = some t) (hX : P.underlying xT = some (.slice xe)) (hz : zeroT P t = some z) (hz1 : z.cells.size = 1) (hs1 : szT P t = 1) (hb : 0 < bytesT P t)
    (hv : Grow B H v t l) (hr : Row H p l2) (hm : l2.length = m) (h0 : l2 ≠ []) (hlim : (l.length + m) * bytesT P t ≤ 140737488355328) :
    ∃ H1 v1, appendA P H sT (some xT) v (.slice p m cap) = some (v1, H1) ∧ Grown B H H1 ∧ Grow B H1 v1 t (l ++ l2) := by
  subst hm
  have hm0 : 0 < l2.length := List.length_pos_iff.2 h0
  have hlim2 : l.length + l2.length ≤ 140737488355328 := Nat.le_trans (Nat.le_mul_of_pos_right _ hb) hlim
  have htail : tailA P H t (.slice p l2.length cap) = some (l2.length, l2) := by simp only [tailA, hs1, Nat.mul_one, hr.rowA]
  have hcond : (l.length + l2.length) * bytesT P t ≤ 140737488355328 ∧ l.length + l2.length ≤ 140737488355328 ∧ 0 < bytesT P t ∧ 0 < szT P t ∧ z.cells.size = szT P t := ⟨hlim, hlim2, hb, by omega, by omega⟩
  have hxd : (some xT).bind P.underlying = some (.slice xe) := hX
  rcases hv with ⟨rfl, rfl⟩ | ⟨c, root, ver, f, g0, g1, rfl, g2, hblk, hgrp⟩
  · have hcond' : (0 + l2.length) * bytesT P t ≤ 140737488355328 ∧ 0 + l2.length ≤ 140737488355328 ∧ 0 < bytesT P t ∧ 0 < szT P t ∧ z.cells.size = szT P t := hcond
    have sh : shapeSame (.cells l2.toArray t (0, 0)) (.cells l2.toArray t (0, 0)) := ⟨rfl, rfl⟩
    refine ⟨H.alloc (.cells l2.toArray t) false, .slice (some ⟨H.next, 0, none⟩) (0 + l2.length) (0 + l2.length), ?_, Grown.of_keeps hw (Keeps.alloc hw sh), .inr ⟨H.next, H.next, H.clock, (0, 0), hB, Nat.le_refl _, by simp, by simpa using h0, ?_, ?_⟩⟩
    · unfold appendA
      simp only [hE, hxd, notInt, htail, hz]
      rw [if_neg (by omega), if_pos hcond']
      simp
    · rw [blk_alloc_new]; simp
    · rw [grp_alloc]; exact hw.fresh _ (Nat.le_refl _)
  · have hwb := hw.lt c _ hblk
    have hlive : H.live c ⟨.cells l.toArray t f, root, false, ver⟩ = true := live_iff.2 (by rw [hgrp]; exact g1)
    have htip : H.tip c ⟨.cells l.toArray t f, root, false, ver⟩ = true := tip_iff.2 (by rw [hgrp])
    have hcells : H.cells c = some (l.toArray, t, f) := by unfold AH.cells; simp only [hblk, hlive]
    have hrow : rowA H (some ⟨c, 0, none⟩) (l.length * szT P t) = some l := by
      rw [hs1, Nat.mul_one]
      exact Row.rowA (p := some ⟨c, 0, none⟩) ⟨rfl, l.toArray, t, f, hcells, by simp, by simp⟩
    obtain ⟨lo, hi⟩ := f
    have sh : ∀ fr, shapeSame (.cells (l ++ l2).toArray t fr) (.cells (l ++ l2).toArray t fr) := fun _ => ⟨rfl, rfl⟩
    have hwf1 : WfH (H.copyOf (.cells (l ++ l2).toArray t (lo - 0, hi - 0)) root) := hw.copyOf hblk rfl (sh _)
    refine ⟨H.copyOf (.cells (l ++ l2).toArray t (lo - 0, hi - 0)) root, .slice (some ⟨H.next, 0, none⟩) (l.length + l2.length) (l.length + l2.length), ?_, ⟨hwf1, fun H0 w0 k hb0 => ⟨hwf1, ?_, fun d hd => ?_, fun d b hd => ?_⟩, fun d ob hd => ?_, fun d x hx => ?_⟩, .inr ⟨H.next, root, H.clock, (lo - 0, hi - 0), g0, by omega, by simp, by simp [g2], blk_copyOf_new, ?_⟩⟩
    · unfold appendA
      simp only [hE, hxd, notInt, htail, hz]
      rw [if_neg (by omega), if_pos hcond]
      simp only [hblk, hrow]
      rw [if_neg (by simp), if_neg (by simp [hs1]), if_pos ⟨by simp [hs1], by first | rfl | trivial, htip⟩]
    · rw [next_copyOf]; have := k.next; omega
    · rw [blk_copyOf, if_neg (by have := k.next; omega)]; exact k.blk d hd
    · have := w0.lt d b hd
      rw [grp_copyOf, if_neg (by omega)]; exact k.grp d b hd
    · obtain ⟨v2, d1, d2⟩ := hd
      have hdr : d ≠ root := by
        rintro rfl
        rw [hgrp] at d2
        obtain rfl : c = d := congrArg Prod.fst d2
        rw [hblk] at d1
        cases d1
      have hdl := (hw.lt _ _ d1).1
      exact ⟨v2, by rw [blk_copyOf, if_neg (by omega)]; exact d1, by rw [grp_copyOf, if_neg hdr]; exact d2⟩
    · unfold AH.cells at *
      split at hx
      case h_2 => cases hx
      rename_i b hbd
      rw [blk_copyOf, if_neg (by have := (hw.lt _ _ hbd).1; omega), hbd]
      have hl : (H.copyOf (.cells (l ++ l2).toArray t (lo - 0, hi - 0)) root).live d b = H.live d b := by
        simp only [AH.live, grp_copyOf]
        split
        · rename_i e1; rw [e1]
        · rfl
      simp only [hl]
      exact hx
    · rw [grp_copyOf, if_pos rfl, hgrp]

theorem OWp.append {ca : Call} {x y : Operand} {sT xT t xe : TypeId} {v z : Value} {p : Option Addr} {m cap B : Nat} {l l2 : List Value} (hw : WfH H) (hB : B ≤ H.next) (hv : Grow B H v t l) (hr : Row H p l2) (hm : l2.length = m) (h0 : l2 ≠ [])
    (hg : guardA ops o e = some true) (ho : o.op = .call ca) (hc : ca.callee = .builtin .append) (ha : ca.args = #[x, y]) (hat : ca.argTypes = #[sT, xT])
    (hE : elemT P sT = some t) (hX : P.underlying xT = some (.slice xe)) (hz : zeroT P t = some z) (hz1 : z.cells.size = 1) (hs1 : szT P t = 1) (hb : 0 < bytesT P t)
    (hx : rho e x = v) (hy : rho e y = .slice p m cap) (hlim : (l.length + m) * bytesT P t ≤ 140737488355328)
    (hk : ∀ H1 v1, Grown B H H1 → Grow B H1 v1 t (l ++ l2) → OWp P prims ops r (putE e o.dst v1) H1 Q) : OWp P prims ops (o :: r) e H Q := by
  obtain ⟨H1, v1, h1, h2, h3⟩ := append_grow (cap := cap) hw hB hE hX hz hz1 hs1 hb hv hr hm h0 hlim
  exact OWp.step hg (fun call => by unfold evOp; simp only [ho, callA, hc, ha, hat, List.map_cons, List.map_nil, hx, hy]; exact h1) rfl (hk H1 v1 h2 h3)

/-- A slice's literal. -/
def buildCells (P : Program) (t : TypeId) (n : Nat) (parts : List (Nat × Value)) : Option (TypeId × Array Value) :=
  match elemT P t with
  | some e => match zeroT P e with
    | some z =>
      if n * szT P e = 0 then none
      else if n * szT P e ≤ 2 ^ 24 ∧ z.cells.size ≠ 0 ∧ parts.all (fun p => p.2.cells.toList.all isCell) = true then
        match Instr.fill (fun i => some (i * szT P e, szT P e)) ((Array.range (n * szT P e)).map (z.cells[· % z.cells.size]!)) parts with
        | some cells => some (e, cells)
        | none => none
      else none
    | none => none
  | none => none

theorem OWp.buildSl {t t' : TypeId} {n : Nat} {ps : Array (Nat × Operand)} {parts : List (Nat × Value)} {cells : Array Value} (hw : WfH H) (hg : guardA ops o e = some true) (ho : o.op = .buildSlice t n ps) (hp : ps.toList.map (fun p => (p.1, rho e p.2)) = parts)
    (hb : buildCells P t n parts = some (t', cells)) (hk : ∀ H1 i, WfH H1 → Keeps H H1 → H.next ≤ i → Own H1 i (.cells cells t' (0, 0)) true → OWp P prims ops r (putE e o.dst (.slice (some ⟨i, 0, none⟩) n n)) H1 Q) : OWp P prims ops (o :: r) e H Q := by
  have sh : shapeSame (.cells cells t' (0, 0)) (.cells cells t' (0, 0)) := ⟨rfl, rfl⟩
  refine OWp.step hg (fun call => ?_) rfl (hk (H.alloc (.cells cells t') true) H.next (hw.alloc sh) (Keeps.alloc hw sh) (Nat.le_refl _) (Own.alloc hw))
  have : buildSliceA P H t n parts = some (.slice (some ⟨H.next, 0, none⟩) n n, H.alloc (.cells cells t') true) := by
    unfold buildCells at hb
    unfold buildSliceA
    split at hb
    case h_2 => cases hb
    rename_i e1 he1
    split at hb
    case h_2 => cases hb
    rename_i z hz
    split at hb
    · cases hb
    rename_i hn
    split at hb
    case isFalse => cases hb
    rename_i hcond
    split at hb
    case h_2 => cases hb
    rename_i cells' hf
    cases hb
    simp only [he1, hz]
    rw [if_neg hn, if_pos hcond, hf]
  unfold evOp
  simp only [ho, hp, this]

theorem OWp.lenSl {ca : Call} {x : Operand} {t te : TypeId} {p : Option Addr} {n cap : Nat} (hg : guardA ops o e = some true) (ho : o.op = .call ca) (hc : ca.callee = .builtin .len) (hcs : ca.args = #[x]) (hct : ca.argTypes = #[t]) (ht : P.underlying t = some (.slice te)) (hx : rho e x = .slice p n cap)
    (hk : OWp P prims ops r e' H Q) (he : putE e o.dst (.int .i64 n) = e' := by simp only [putE, rho, List.set_cons_zero, List.set_cons_succ, List.getD_cons_zero, List.getD_cons_succ]; exact rfl) : OWp P prims ops (o :: r) e H Q := by
  refine OWp.step hg (fun call => ?_) he hk
  unfold evOp
  simp [ho, callA, hc, hcs, hct, hx, ht]

theorem OWp.indexAddrSl {t te : TypeId} {x y : Operand} {p : Addr} {n cap : Nat} {k : IntKind} {i : Int} (hg : guardA ops o e = some true) (ho : o.op = .indexAddr t x y) (ht : P.underlying t = some (.slice te)) (hx : rho e x = .slice (some p) n cap) (hy : rho e y = .int k i)
    (hs0 : szT P te ≠ 0) (h0 : 0 ≤ i) (h1 : i < n) (hk : OWp P prims ops r e' H Q) (he : putE e o.dst (.pointer (some (p.add (i.toNat * szT P te)))) = e' := by simp only [putE, rho, List.set_cons_zero, List.set_cons_succ, List.getD_cons_zero, List.getD_cons_succ]; exact rfl) : OWp P prims ops (o :: r) e H Q := by
  refine OWp.step hg (fun call => ?_) he hk
  unfold evOp
  simp only [ho, indexAddrA, ht, hx, hy, if_pos (And.intro h0 (And.intro h1 hs0)), Option.map_some]

def isAggD : TypeDesc → Bool
  | .struct _ | .array _ _ => true
  | _ => false
/-- A load of one cell of a row. -/
theorem OWp.loadRow {t : TypeId} {x : Operand} {p : Addr} {i : Nat} {l : List Value} {v : Value} {d : TypeDesc} (hg : guardA ops o e = some true) (ho : o.op = .load t x) (ht : P.underlying t = some d) (hd : isAggD d = false) (hx : rho e x = .pointer (some (p.add i))) (hr : Row H (some p) l) (hv : l[i]? = some v)
    (hk : OWp P prims ops r e' H Q) (he : putE e o.dst v = e' := by simp only [putE, rho, List.set_cons_zero, List.set_cons_succ, List.getD_cons_zero, List.getD_cons_succ]; exact rfl) : OWp P prims ops (o :: r) e H Q := by
  refine OWp.step hg (fun call => ?_) he hk
  obtain ⟨h0, C, e1, f, h1, h2, h3⟩ := hr
  have hlt := (List.getElem?_eq_some_iff.1 hv).1
  have hc : C[p.off + i]? = some v := by
    rw [← h3, Array.getElem?_toList, Array.getElem?_extract] at hv
    split at hv
    · exact hv
    · cases hv
  have : loadA P H t (p.add i) = some v := by
    unfold loadA
    have hp : p.add i = ⟨p.block, p.off + i, none⟩ := add_none h0 i
    have a0 : (p.add i).spot = none := by rw [hp]
    have a1 : H.cells (p.add i).block = some (C, e1, f) := by rw [hp]; exact h1
    have a2 : (p.add i).off = p.off + i := by rw [hp]
    simp only [a0, a1, ht]
    cases d <;> simp [isAggD] at hd <;> simp only [a2, hc]
  unfold evOp
  simp only [ho, hx, this, Option.map_some]

theorem convertA_int {src dst : TypeId} {k k' : IntKind} {n : Int} (hs : P.underlying src = some (.int k)) : convertA P H src dst (.int k' n) = none := by
  unfold convertA
  split <;> simp_all

theorem OWp.convI {src dst : TypeId} {x : Operand} {k k' k2 : IntKind} {n : Int} (hg : guardA ops o e = some true) (ho : o.op = .convert src dst x) (hs : P.underlying src = some (.int k)) (hd : P.underlying dst = some (.int k')) (hx : rho e x = .int k2 n)
    (hw : k'.wrap n = n) (hk : OWp P prims ops r e' H Q) (he : putE e o.dst (.int k' n) = e' := by simp only [putE, rho, List.set_cons_zero, List.set_cons_succ, List.getD_cons_zero, List.getD_cons_succ]; exact rfl) : OWp P prims ops (o :: r) e H Q := by
  refine OWp.step hg (fun call => ?_) he hk
  have hf : flatOp P o (rho e) = some (.int k' n) := by
    refine flat_op (by rw [ho]; simp [Op.operands, hx, flatB, flat2, flat1, atomB]) ?_ rfl
    unfold execOp
    rw [ho]
    simp only [hx, convert, pr_bind, pr_pure, Option.bind_some, pr_underlying hs, pr_underlying hd, Conv.intToInt, hw]
  unfold evOp
  simp only [ho, hx, convertA_int hs, hf, Option.map_some]

theorem wrap_u8 {n : Int} (h : 0 ≤ n ∧ n < 256) : IntKind.u8.wrap n = n := by
  simp only [IntKind.wrap, IntKind.bits, IntKind.signed]
  simp
  omega

theorem OWp.minI {ca : Call} {x y : Operand} {k k' : IntKind} {a b : Int} (hg : guardA ops o e = some true) (ho : o.op = .call ca) (hc : ca.callee = .builtin .min) (ha : ca.args = #[x, y]) (hx : rho e x = .int k a) (hy : rho e y = .int k' b)
    (hk : OWp P prims ops r e' H Q) (he : putE e o.dst (.int k (if b < a then b else a)) = e' := by simp only [putE, rho, List.set_cons_zero, List.set_cons_succ, List.getD_cons_zero, List.getD_cons_succ]; exact rfl) : OWp P prims ops (o :: r) e H Q := by
  refine OWp.step hg (fun call => ?_) he hk
  have hf : flatOp P o (rho e) = some (.int k (if b < a then b else a)) := by
    refine flat_op (by rw [ho]; simp [Op.operands, Call.operands, hc, ha, hx, hy, flatB, flat2, flat1, atomB]) ?_ rfl
    unfold execOp
    rw [ho]
    simp [resolve, hc, ha, hx, hy, pr_bind, pr_pure, invoke, builtin, Builtin.min_, Builtin.min2]
  unfold evOp
  simp only [ho, callA, hc, hf, Option.map_some]

/-- Runes as a text. -/
def encF : List Nat → ByteArray → ByteArray
  | [], acc => acc
  | r :: l, acc => encF l (acc ++ Utf8.encode (r : Nat))
def runeV (l : List Nat) : List Value := l.map fun r => Value.int .i32 (r : Nat)
theorem runesOfCells_enc : ∀ (l : List Nat) (acc : ByteArray), runesOfCells (runeV l) acc = some (encF l acc)
  | [], _ => rfl
  | r :: l, acc => by simp only [runeV, List.map_cons, runesOfCells, encF]; exact runesOfCells_enc l _

theorem OWp.convRunes {src dst te : TypeId} {x : Operand} {p : Option Addr} {n cap : Nat} {l : List Nat} (hg : guardA ops o e = some true) (ho : o.op = .convert src dst x) (hs : P.underlying src = some (.slice te)) (ht : P.underlying te = some (.int .i32)) (hd : P.underlying dst = some .string)
    (hx : rho e x = .slice p n cap) (hr : Row H p (runeV l)) (hn : (runeV l).length = n)
    (hk : OWp P prims ops r e' H Q) (he : putE e o.dst (.string (encF l .empty)) = e' := by simp only [putE, rho, List.set_cons_zero, List.set_cons_succ, List.getD_cons_zero, List.getD_cons_succ]; exact rfl) : OWp P prims ops (o :: r) e H Q := by
  refine OWp.step hg (fun call => ?_) he hk
  subst hn
  unfold evOp
  simp only [ho, hx, convertA, hs, hd, ht, hr.rowA, runesOfCells_enc]

theorem OWp.indexAddrSl1 {t te : TypeId} {x y : Operand} {p : Addr} {n cap : Nat} {k : IntKind} {i : Int} (hg : guardA ops o e = some true) (ho : o.op = .indexAddr t x y) (ht : P.underlying t = some (.slice te)) (hs1 : szT P te = 1) (hx : rho e x = .slice (some p) n cap) (hy : rho e y = .int k i)
    (h0 : 0 ≤ i) (h1 : i < n) (hk : OWp P prims ops r e' H Q) (he : putE e o.dst (.pointer (some (p.add i.toNat))) = e' := by simp only [putE, rho, List.set_cons_zero, List.set_cons_succ, List.getD_cons_zero, List.getD_cons_succ]; exact rfl) : OWp P prims ops (o :: r) e H Q :=
  OWp.indexAddrSl hg ho ht hx hy (by rw [hs1]; decide) h0 h1 hk (by rw [hs1, Nat.mul_one]; exact he)
theorem runeV_get (l : List Nat) (i : Nat) (h : i < l.length) : (runeV l)[i]? = some (.int .i32 (l.getD i 0 : Nat)) := by
  simp [runeV, List.getElem?_map, List.getElem?_eq_getElem h, List.getD_eq_getElem?_getD]
theorem runeV_length (l : List Nat) : (runeV l).length = l.length := by simp [runeV]

end
end Go.Proofs.YtenolmhnmcjndaaGreatDoor.Ev
namespace Go.Proofs.YtenolmhnmcjndaaGreatDoor.Ev
set_option linter.unusedVariables false
set_option linter.unusedSimpArgs false
open Go
section
variable {P : Program} {prims : Prims} {ops : Array Oper} {o : Oper} {r : List Oper} {e e' : List Value} {H H0 H1 H2 : AH} {Q : List Value → AH → Prop}

theorem and_small (k : IntKind) (hk : k = .u8 ∨ k = .i64) (a b : Int) (hb : 0 ≤ b ∧ b ≤ 127) :
    ∃ c : Nat, (c : Int) ≤ b ∧ k.wrap ((BitVec.ofInt k.bits a &&& BitVec.ofInt k.bits b).toNat : Int) = c := by
  obtain ⟨b, rfl⟩ := Int.eq_ofNat_of_zero_le hb.1
  have hb2 := hb.2
  have hle : (BitVec.ofInt k.bits a &&& BitVec.ofInt k.bits (b : Int)).toNat ≤ b := by
    rw [BitVec.toNat_and, BitVec.ofInt_natCast, BitVec.toNat_ofNat]
    exact Nat.le_trans Nat.and_le_right (Nat.mod_le _ _)
  refine ⟨_, Int.ofNat_le.2 hle, ?_⟩
  generalize (BitVec.ofInt k.bits a &&& BitVec.ofInt k.bits (b : Int)).toNat = c at hle ⊢
  rcases hk with rfl | rfl
  · rw [IntKind.wrap_u8]; omega
  · rw [IntKind.wrap_i64]; omega

/-- What is masked by a small number is small. -/
theorem OWp.andR {t t' : TypeId} {x y : Operand} {k : IntKind} {a b : Int} (hg : guardA ops o e = some true) (ho : o.op = .binOp .and t x y t') (hx : rho e x = .int k a) (hy : rho e y = .int k b) (hk : k = .u8 ∨ k = .i64) (hb : 0 ≤ b ∧ b ≤ 127)
    (h : ∀ c : Nat, (c : Int) ≤ b → OWp P prims ops r (putE e o.dst (.int k c)) H Q) : OWp P prims ops (o :: r) e H Q := by
  obtain ⟨c, hc, hw⟩ := and_small k hk a b hb
  refine OWp.step hg (fun call => ?_) rfl (h c hc)
  have hf : flatOp P o (rho e) = some (.int k c) := by
    refine flat_op (by rw [ho]; simp [Op.operands, hx, hy, flatB, flat2, flat1, atomB]) ?_ rfl
    unfold execOp
    rw [ho]
    rw [← hw]
    simp [hx, hy, eqGuard, Go.binOp, Op.intBits]
    rfl
  unfold evOp
  simp only [ho, hx, hy, eqA_int, hf, Option.map_some]

theorem OWp.quoI {t t' : TypeId} {x y : Operand} {a b : Int} (hg : guardA ops o e = some true) (ho : o.op = .binOp .quo t x y t') (hx : rho e x = .int .i64 a) (hy : rho e y = .int .i64 b)
    (hr : 0 ≤ a ∧ a ≤ 9223372036854775807 ∧ 0 < b) (hk : OWp P prims ops r e' H Q) (he : putE e o.dst (.int .i64 (a / b)) = e' := by simp only [putE, rho, List.set_cons_zero, List.set_cons_succ, List.getD_cons_zero, List.getD_cons_succ]; exact rfl) : OWp P prims ops (o :: r) e H Q := by
  refine OWp.step hg (fun call => ?_) he hk
  have hm : a.tdiv b = a / b := Int.tdiv_eq_ediv_of_nonneg hr.1
  have hw : IntKind.i64.wrap (a / b) = a / b := wrap_id (by
    have h1 : 0 ≤ a / b := Int.ediv_nonneg hr.1 (by omega)
    have h2 : a / b ≤ a := Int.ediv_le_self b hr.1
    omega)
  have hf : flatOp P o (rho e) = some (.int .i64 (a / b)) := by
    refine flat_op (by rw [ho]; simp [Op.operands, hx, hy, flatB, flat2, flat1, atomB]) ?_ rfl
    unfold execOp
    rw [ho]
    have hb : ¬ b = 0 := by omega
    simp [hx, hy, eqGuard, Go.binOp, Op.intDiv, hb, hm, hw]; rfl
  unfold evOp
  simp only [ho, hx, hy, eqA_int, hf, Option.map_some]

theorem OWp.remK {t t' : TypeId} {x y : Operand} {k : IntKind} {a b : Int} (hg : guardA ops o e = some true) (ho : o.op = .binOp .rem t x y t') (hx : rho e x = .int k a) (hy : rho e y = .int k b)
    (hb : b ≠ 0) (hk : OWp P prims ops r e' H Q) (he : putE e o.dst (.int k (a.tmod b)) = e' := by simp only [putE, rho, List.set_cons_zero, List.set_cons_succ, List.getD_cons_zero, List.getD_cons_succ]; exact rfl) : OWp P prims ops (o :: r) e H Q := by
  refine OWp.step hg (fun call => ?_) he hk
  have hf : flatOp P o (rho e) = some (.int k (a.tmod b)) := by
    refine flat_op (by rw [ho]; simp [Op.operands, hx, hy, flatB, flat2, flat1, atomB]) ?_ rfl
    unfold execOp
    rw [ho]
    simp [hx, hy, eqGuard, Go.binOp, Op.intDiv, hb]; rfl
  unfold evOp
  simp only [ho, hx, hy, eqA_int, hf, Option.map_some]

/-- A rune as a text. -/
theorem OWp.convStr {src dst : TypeId} {x : Operand} {k k2 : IntKind} {n : Int} (hg : guardA ops o e = some true) (ho : o.op = .convert src dst x) (hs : P.underlying src = some (.int k)) (hd : P.underlying dst = some .string) (hx : rho e x = .int k2 n)
    (hk : OWp P prims ops r e' H Q) (he : putE e o.dst (.string (Utf8.encode n)) = e' := by simp only [putE, rho, List.set_cons_zero, List.set_cons_succ, List.getD_cons_zero, List.getD_cons_succ]; exact rfl) : OWp P prims ops (o :: r) e H Q := by
  refine OWp.step hg (fun call => ?_) he hk
  have hf : flatOp P o (rho e) = some (.string (Utf8.encode n)) := by
    refine flat_op (by rw [ho]; simp [Op.operands, hx, flatB, flat2, flat1, atomB]) ?_ rfl
    unfold execOp
    rw [ho]
    simp only [hx, convert, pr_bind, pr_pure, Option.bind_some, pr_underlying hs, pr_underlying hd, Conv.intToString]
  unfold evOp
  simp only [ho, hx, convertA_int hs, hf, Option.map_some]

/-! ### A text as a row of bytes -/
def byteV (s : ByteArray) : List Value := (s.data.map fun b => Value.int .u8 (b.toNat : Int)).toList
theorem byteV_length (s : ByteArray) : (byteV s).length = s.size := by
  show ((s.data.map fun b => Value.int .u8 (b.toNat : Int)).toList).length = s.data.size
  simp
theorem byteV_get (s : ByteArray) (j : Nat) (h : j < s.size) : (byteV s)[j]? = some (.int .u8 (byteAt s (j : Nat))) := by
  have h2 : j < s.data.size := h
  have e : byteAt s (j : Nat) = ((s.data[j]'h2).toNat : Int) := by
    show ((s.data[j]?.getD 0).toNat : Int) = _
    rw [Array.getElem?_eq_getElem h2]; rfl
  rw [e]
  show (s.data.map fun b => Value.int .u8 (b.toNat : Int)).toList[j]? = _
  rw [Array.getElem?_toList, Array.getElem?_map, Array.getElem?_eq_getElem h2]
  rfl
theorem OWp.convBytes {src dst te : TypeId} {x : Operand} {s : ByteArray} (hw : WfH H) (hg : guardA ops o e = some true) (ho : o.op = .convert src dst x) (hs : P.underlying src = some .string) (hd : P.underlying dst = some (.slice te)) (ht : P.underlying te = some (.int .u8)) (hs1 : szT P te = 1) (hx : rho e x = .string s)
    (hk : ∀ H1 i, WfH H1 → Keeps H H1 → H.next ≤ i → Row H1 (some ⟨i, 0, none⟩) (byteV s) → OWp P prims ops r (putE e o.dst (.slice (some ⟨i, 0, none⟩) s.size s.size)) H1 Q) : OWp P prims ops (o :: r) e H Q := by
  have sh : shapeSame (.cells (s.data.map fun b => Value.int .u8 (b.toNat : Int)) te (s.size, s.size + 1)) (.cells (s.data.map fun b => Value.int .u8 (b.toNat : Int)) te (s.size, s.size + 1)) := ⟨rfl, rfl⟩
  refine OWp.step hg (fun call => ?_) rfl (hk (H.alloc (.cells (s.data.map fun b => Value.int .u8 (b.toNat : Int)) te (s.size, s.size + 1)) false) H.next (hw.alloc sh) (Keeps.alloc hw sh) (Nat.le_refl _) (Own.alloc hw).row)
  unfold evOp
  simp only [ho, hx, convertA, hs, hd, ht, hs1]

/-! ### Rows that are only looked at -/
def View (H : AH) (v : Value) (l : List Value) : Prop := ∃ p c, v = .slice p l.length c ∧ (l = [] ∨ Row H p l)

theorem View.sees {v : Value} {l : List Value} (s : Sees H H1) (h : View H v l) : View H1 v l := by
  obtain ⟨p, c, h1, h2⟩ := h
  exact ⟨p, c, h1, h2.imp id (·.sees s)⟩
theorem Row.view {p : Option Addr} {c : Nat} {l : List Value} (h : Row H p l) : View H (.slice p l.length c) l := ⟨p, c, rfl, .inr h⟩
theorem Grow.view {B : Nat} {v : Value} {t : TypeId} {l : List Value} (h : Grow B H v t l) : View H v l := by
  obtain ⟨p, h1, h2⟩ := h.row
  exact ⟨p, _, h1, .inr h2⟩
end
/-- What stands in the slots that nobody asks for. -/
theorem ex_env {e : List Value} {M : (Nat → Value) → List Value} {R : Prop} (h : e = M fun k => e.getD k undef) (r : R) : ∃ g : Nat → Value, e = M g ∧ R := ⟨_, h, r⟩
section
variable {P : Program} {prims : Prims} {e : List Value} {H : AH} {Q : St → List Value → AH → Prop}
def CutQ (M : List Value → AH → Prop) (Q : St → List Value → AH → Prop) : St → List Value → AH → Prop
  | .nx, e, H => M e H
  | st, e, H => Q st e H
/-- What is known where two ways come together again. -/
theorem CWp.cut {a b : Code} (M : List Value → AH → Prop) (h1 : CWp P prims a e H (CutQ M Q)) (h2 : ∀ e' H', M e' H' → CWp P prims b e' H' Q) : CWp P prims (.seq a b) e H Q :=
  CWp.seq (h1.mono fun st e' H' h => match st, h with
    | .nx, h => h2 _ _ h
    | .ex _, h => h
    | .rt, h => h)
end
end Go.Proofs.YtenolmhnmcjndaaGreatDoor.Ev
