/-
  Marks in blocks of one's own: rules to step through code that makes them, looks into them, compares them.
-/
import Derived.Test.YtllokljpacpafaaDoorEvBox
import Derived.Test.YtllokljpacpafaaDoorEvPrimD
namespace Go.Proofs.YtllokljpacpafaaDoor.Ev
open Go
set_option linter.unusedVariables false
set_option linter.unusedSimpArgs false

instance : DecidableEq Mk := fun a b => decidable_of_iff (a.kind = b.kind ∧ a.ind = b.ind ∧ a.sty = b.sty ∧ a.nam = b.nam ∧ a.num = b.num) ⟨fun ⟨h1, h2, h3, h4, h5⟩ => by cases a; cases b; simp_all, fun h => by subst h; simp⟩

theorem sz27 : szT Tryd.prog 27 = 5 := by kernel_rfl
theorem ze27 : zeroT Tryd.prog 27 = some zeroM.v := by kernel_rfl
theorem sz9 : szT Tryd.prog 9 = 1 := by kernel_rfl
theorem sz3 : szT Tryd.prog 3 = 1 := by kernel_rfl

theorem eqIn_int {d : Nat} {t : TypeId} {k : IntKind} (ht : Tryd.prog.underlying t = some (.int k)) (a b : Int) : pureRun Tryd.prog (Op.equalIn (d + 1) t (.int .i64 a) (.int .i64 b)) = some (decide (a = b)) := by
  rw [Op.equalIn]
  simp only [pr_bind, pr_underlying ht, Option.bind_some, if_true, pr_pure, dec_eq]
theorem eqIn_str {d : Nat} {t : TypeId} (ht : Tryd.prog.underlying t = some .string) (a b : ByteArray) : pureRun Tryd.prog (Op.equalIn (d + 1) t (.string a) (.string b)) = some (decide (a = b)) := by
  rw [Op.equalIn]
  simp only [pr_bind, pr_underlying ht, Option.bind_some, pr_pure]
  have e : (a == b) = decide (a = b) := by
    rw [show (a == b) = (a.data == b.data) from rfl, Bool.eq_iff_iff]
    simp only [beq_iff_eq, decide_eq_true_eq]
    exact ⟨fun h => ByteArray.ext h, fun h => congrArg _ h⟩
  rw [e]
theorem part_flat {t : TypeId} {d : TypeDesc} (ht : Tryd.prog.underlying t = some d) (hd : isAggD d = false) (cs : Array Value) (off : Nat) (v : Value) (hv : cs[off]? = some v) : pureRun Tryd.prog (part t cs off) = some v := by
  unfold part isAgg
  simp only [pr_bind, pr_underlying ht, Option.bind_some]
  cases d <;> simp [isAggD] at hd <;> simp [pr_pure, pr_bind, hv]
theorem eq_mk (a b : Mk) : pureRun Tryd.prog (Op.equal 27 a.v b.v) = some (decide (a = b)) := by
  show pureRun Tryd.prog (Op.equalIn (9999 + 1) 27 (.agg a.cells) (.agg b.cells)) = _
  rw [Op.equalIn]
  have i1 : ∀ x y : Int, pureRun Tryd.prog (Op.equalIn 9999 3 (.int .i64 x) (.int .i64 y)) = some (decide (x = y)) := eqIn_int (d := 9998) Tryd.underlying3
  have i2 : ∀ x y : ByteArray, pureRun Tryd.prog (Op.equalIn 9999 9 (.string x) (.string y)) = some (decide (x = y)) := eqIn_str (d := 9998) Tryd.underlying9
  have p0 : ∀ m : Mk, pureRun Tryd.prog (part 3 m.cells 0) = some (.int .i64 m.kind) := fun m => part_flat Tryd.underlying3 rfl _ _ _ rfl
  have p1 : ∀ m : Mk, pureRun Tryd.prog (part 9 m.cells 1) = some (.string m.ind) := fun m => part_flat Tryd.underlying9 rfl _ _ _ rfl
  have p2 : ∀ m : Mk, pureRun Tryd.prog (part 9 m.cells 2) = some (.string m.sty) := fun m => part_flat Tryd.underlying9 rfl _ _ _ rfl
  have p3 : ∀ m : Mk, pureRun Tryd.prog (part 9 m.cells 3) = some (.string m.nam) := fun m => part_flat Tryd.underlying9 rfl _ _ _ rfl
  have p4 : ∀ m : Mk, pureRun Tryd.prog (part 3 m.cells 4) = some (.int .i64 m.num) := fun m => part_flat Tryd.underlying3 rfl _ _ _ rfl
  have hst : Tryd.prog.stoodInHeld 27 = false := by kernel_rfl
  have n0 : ("Kind" ≠ "_") = True := by decide
  have n1 : ("Indent" ≠ "_") = True := by decide
  have n2 : ("Style" ≠ "_") = True := by decide
  have n3 : ("Name" ≠ "_") = True := by decide
  have n4 : ("N" ≠ "_") = True := by decide
  have hab : (a = b) ↔ (a.kind = b.kind ∧ a.ind = b.ind ∧ a.sty = b.sty ∧ a.nam = b.nam ∧ a.num = b.num) := ⟨fun h => by subst h; simp, fun ⟨h1, h2, h3, h4, h5⟩ => by cases a; cases b; simp_all⟩
  simp only [pr_bind, pr_underlying Tryd.underlying27, Option.bind_some, program, pureRun, hst, Bool.false_eq_true, if_false, List.forIn_toArray, List.forIn_cons, List.forIn_nil, p0, p1, p2, p3, p4, i1, i2, n0, n1, n2, n3, n4, if_true, hab]
  by_cases h0 : a.kind = b.kind
  case neg => simp [h0, pr_pure, pr_bind]
  by_cases h1 : a.ind = b.ind
  case neg => simp [h0, h1, pr_pure, pr_bind, p1, i2]
  by_cases h2 : a.sty = b.sty
  case neg => simp [h0, h1, h2, pr_pure, pr_bind, p1, p2, i2]
  by_cases h3 : a.nam = b.nam
  case neg => simp [h0, h1, h2, h3, pr_pure, pr_bind, p1, p2, p3, i2]
  by_cases h4 : a.num = b.num
  case neg => simp [h0, h1, h2, h3, h4, pr_pure, pr_bind, p1, p2, p3, p4, i2, i1]
  simp [h0, h1, h2, h3, h4, pr_pure, pr_bind, p1, p2, p3, p4, i2, i1]

section
variable {prims : Prims} {ops : Array Oper} {o : Oper} {r : List Oper} {e e' : List Value} {H H0 H1 H2 : AH} {Q : List Value → AH → Prop} {l : List (Nat × Obj)}
def mkO (m : Mk) : Obj := .cells m.cells 27 (0, 0)

theorem eqA_mk (m : Mk) (y : Value) : eqA Tryd.prog H 27 m.v y = none := by
  unfold eqA
  simp only [Tryd.underlying27]
theorem exec_eq (a b : Mk) {x y : Operand} {t' : TypeId} {op : BinOp} {v : Value} (ho : o.op = .binOp op 27 x y t') (hx : rho e x = a.v) (hy : rho e y = b.v) (hop : (op = .eql ∧ v = .bool (decide (a = b))) ∨ (op = .neq ∧ v = .bool (decide (¬ a = b)))) : flatOp Tryd.prog o (rho e) = some v := by
  have hg0 : Tryd.prog.eqGuardType Tryd.prog.depth 27 = false := by kernel_rfl
  have hv : flatB v = true := by rcases hop with ⟨_, rfl⟩ | ⟨_, rfl⟩ <;> rfl
  refine flat_op (by rw [ho]; simp only [Op.operands, List.all_toArray, List.all_cons, List.all_nil, hx, hy]; rfl) ?_ hv
  unfold execOp
  rw [ho]
  have hg : pureRun Tryd.prog (eqGuard op 27 x y a.v b.v) = some () := by
    rcases hop with ⟨rfl, _⟩ | ⟨rfl, _⟩ <;> simp [eqGuard, Mk.v, pr_bind, program, pureRun, hg0, pr_pure]
  have hq := eq_mk a b
  rcases hop with ⟨rfl, rfl⟩ | ⟨rfl, rfl⟩
  · simp only [hx, hy, pr_bind, hg, Option.bind_some]
    simp only [Go.binOp, Mk.v, pr_bind] at hq ⊢
    simp only [hq, Option.bind_some, pr_pure]
  · simp only [hx, hy, pr_bind, hg, Option.bind_some]
    simp only [Go.binOp, Mk.v, pr_bind] at hq ⊢
    simp only [hq, Option.bind_some, pr_pure]
    simp
theorem OWp.eqM {t' : TypeId} {x y : Operand} (a b : Mk) (hg : guardA ops o e = some true) (ho : o.op = .binOp .eql 27 x y t') (hx : rho e x = a.v) (hy : rho e y = b.v)
    (hk : OWp Tryd.prog prims ops r e' H Q) (he : putE e o.dst (.bool (decide (a = b))) = e' := by simp only [putE, rho, List.set_cons_zero, List.set_cons_succ, List.getD_cons_zero, List.getD_cons_succ]; exact rfl) : OWp Tryd.prog prims ops (o :: r) e H Q := by
  refine OWp.step hg (fun call => ?_) he hk
  have hf := exec_eq a b ho hx hy (.inl ⟨rfl, rfl⟩)
  unfold evOp
  simp only [ho, hx, eqA_mk, hf, Option.map_some]
theorem OWp.neM {t' : TypeId} {x y : Operand} (a b : Mk) (hg : guardA ops o e = some true) (ho : o.op = .binOp .neq 27 x y t') (hx : rho e x = a.v) (hy : rho e y = b.v)
    (hk : OWp Tryd.prog prims ops r e' H Q) (he : putE e o.dst (.bool (decide (¬ a = b))) = e' := by simp only [putE, rho, List.set_cons_zero, List.set_cons_succ, List.getD_cons_zero, List.getD_cons_succ]; exact rfl) : OWp Tryd.prog prims ops (o :: r) e H Q := by
  refine OWp.step hg (fun call => ?_) he hk
  have hf := exec_eq a b ho hx hy (.inr ⟨rfl, rfl⟩)
  unfold evOp
  simp only [ho, hx, eqA_mk, hf, Option.map_some]

theorem OWp.boxM {x : Operand} (m : Mk) (hh : Has H0 H l) (hg : guardA ops o e = some true) (ho : o.op = .box 27 x) (hx : rho e x = m.v)
    (hk : ∀ H1 i, Has H0 H1 ((i, mkO m) :: l) → OWp Tryd.prog prims ops r (putE e o.dst (.pointer (some ⟨i, 0, none⟩))) H1 Q) : OWp Tryd.prog prims ops (o :: r) e H Q :=
  OWp.box hh hg ho hx rfl hk
theorem OWp.allocM (hh : Has H0 H l) (hg : guardA ops o e = some true) (ho : o.op = .alloc 27)
    (hk : ∀ H1 i, Has H0 H1 ((i, mkO zeroM) :: l) → OWp Tryd.prog prims ops r (putE e o.dst (.pointer (some ⟨i, 0, none⟩))) H1 Q) : OWp Tryd.prog prims ops (o :: r) e H Q :=
  OWp.alloc hh hg ho ze27 hk
/-- A field's place, a field's value. -/
theorem OWp.fieldN {x : Operand} {i : Nat} (f : Nat) (hlt : f < 5) (hg : guardA ops o e = some true) (ho : o.op = .fieldAddr 27 x f)
    (hx : rho e x = .pointer (some ⟨i, 0, none⟩)) (hk : OWp Tryd.prog prims ops r e' H Q) (he : putE e o.dst (.pointer (some ⟨i, f, none⟩)) = e' := by simp only [putE, rho, List.set_cons_zero, List.set_cons_succ, List.getD_cons_zero, List.getD_cons_succ]; exact rfl) : OWp Tryd.prog prims ops (o :: r) e H Q := by
  have h3 : szT Tryd.prog 3 ≠ 0 := by rw [sz3]; decide
  have h9 : szT Tryd.prog 9 ≠ 0 := by rw [sz9]; decide
  have : f = 0 ∨ f = 1 ∨ f = 2 ∨ f = 3 ∨ f = 4 := by omega
  rcases this with rfl | rfl | rfl | rfl | rfl
  · exact OWp.fieldA (fl := { name := "Kind", type := 3, offset := 0, embedded := false, tag := "", pkgPath := "", byteOffset := 0 }) hg ho Tryd.underlying27 (by simp only [List.getElem?_toArray, List.getElem?_cons_zero, List.getElem?_cons_succ]) h3 hx hk (by rw [← he]; simp only [Nat.zero_add])
  · exact OWp.fieldA (fl := { name := "Indent", type := 9, offset := 1, embedded := false, tag := "", pkgPath := "", byteOffset := 8 }) hg ho Tryd.underlying27 (by simp only [List.getElem?_toArray, List.getElem?_cons_zero, List.getElem?_cons_succ]) h9 hx hk (by rw [← he]; simp only [Nat.zero_add])
  · exact OWp.fieldA (fl := { name := "Style", type := 9, offset := 2, embedded := false, tag := "", pkgPath := "", byteOffset := 24 }) hg ho Tryd.underlying27 (by simp only [List.getElem?_toArray, List.getElem?_cons_zero, List.getElem?_cons_succ]) h9 hx hk (by rw [← he]; simp only [Nat.zero_add])
  · exact OWp.fieldA (fl := { name := "Name", type := 9, offset := 3, embedded := false, tag := "", pkgPath := "", byteOffset := 40 }) hg ho Tryd.underlying27 (by simp only [List.getElem?_toArray, List.getElem?_cons_zero, List.getElem?_cons_succ]) h9 hx hk (by rw [← he]; simp only [Nat.zero_add])
  · exact OWp.fieldA (fl := { name := "N", type := 3, offset := 4, embedded := false, tag := "", pkgPath := "", byteOffset := 56 }) hg ho Tryd.underlying27 (by simp only [List.getElem?_toArray, List.getElem?_cons_zero, List.getElem?_cons_succ]) h3 hx hk (by rw [← he]; simp only [Nat.zero_add])
theorem OWp.loadS {x : Operand} {k i f : Nat} {m : Mk} {v : ByteArray} (hh : Has H0 H l) (hk0 : l[k]? = some (i, mkO m)) (hg : guardA ops o e = some true) (ho : o.op = .load 9 x) (hx : rho e x = .pointer (some ⟨i, f, none⟩)) (hv : m.cells[f]? = some (.string v))
    (hk : OWp Tryd.prog prims ops r e' H Q) (he : putE e o.dst (.string v) = e' := by simp only [putE, rho, List.set_cons_zero, List.set_cons_succ, List.getD_cons_zero, List.getD_cons_succ]; exact rfl) : OWp Tryd.prog prims ops (o :: r) e H Q :=
  OWp.loadB hh hk0 hg ho hx Tryd.underlying9 rfl hv hk he
theorem OWp.loadI {x : Operand} {k i f : Nat} {m : Mk} {v : Int} (hh : Has H0 H l) (hk0 : l[k]? = some (i, mkO m)) (hg : guardA ops o e = some true) (ho : o.op = .load 3 x) (hx : rho e x = .pointer (some ⟨i, f, none⟩)) (hv : m.cells[f]? = some (.int .i64 v))
    (hk : OWp Tryd.prog prims ops r e' H Q) (he : putE e o.dst (.int .i64 v) = e' := by simp only [putE, rho, List.set_cons_zero, List.set_cons_succ, List.getD_cons_zero, List.getD_cons_succ]; exact rfl) : OWp Tryd.prog prims ops (o :: r) e H Q :=
  OWp.loadB hh hk0 hg ho hx Tryd.underlying3 rfl hv hk he
theorem cells_all (m : Mk) : m.cells.extract 0 (0 + 5) = m.cells := by simp [Mk.cells]
theorem OWp.loadM {x : Operand} {k i : Nat} {m : Mk} (hh : Has H0 H l) (hk0 : l[k]? = some (i, mkO m)) (hg : guardA ops o e = some true) (ho : o.op = .load 27 x) (hx : rho e x = .pointer (some ⟨i, 0, none⟩))
    (hk : OWp Tryd.prog prims ops r e' H Q) (he : putE e o.dst m.v = e' := by simp only [putE, rho, List.set_cons_zero, List.set_cons_succ, List.getD_cons_zero, List.getD_cons_succ]; exact rfl) : OWp Tryd.prog prims ops (o :: r) e H Q :=
  OWp.loadG hh hk0 hg ho hx Tryd.underlying27 rfl sz27 (Nat.le_refl 5) (cells_all m) hk he
theorem OWp.storeM {x y : Operand} {k i : Nat} {m m' : Mk} (hh : Has H0 H l) (hk0 : l[k]? = some (i, mkO m)) (hg : guardA ops o e = some true) (ho : o.op = .store 27 x y) (hx : rho e x = .pointer (some ⟨i, 0, none⟩)) (hy : rho e y = m'.v)
    (hk : ∀ H1, Has H0 H1 (l.set k (i, mkO m')) → OWp Tryd.prog prims ops r (putE e o.dst undef) H1 Q) : OWp Tryd.prog prims ops (o :: r) e H Q :=
  OWp.storeB hh hk0 hg ho hx hy sz27 (by decide) rfl (Nat.le_refl 5) rfl (by rfl) hk
theorem OWp.storeF0 {x y : Operand} {k i : Nat} {m : Mk} {v : Int} (hh : Has H0 H l) (hk0 : l[k]? = some (i, mkO m)) (hg : guardA ops o e = some true) (ho : o.op = .store 3 x y) (hx : rho e x = .pointer (some ⟨i, 0, none⟩)) (hy : rho e y = .int .i64 v)
    (hk : ∀ H1, Has H0 H1 (l.set k (i, mkO ⟨v, m.ind, m.sty, m.nam, m.num⟩)) → OWp Tryd.prog prims ops r (putE e o.dst undef) H1 Q) : OWp Tryd.prog prims ops (o :: r) e H Q :=
  OWp.storeB hh hk0 hg ho hx hy sz3 (by decide) rfl (show 0 + 1 ≤ 5 by omega) rfl rfl hk
theorem OWp.storeF1 {x y : Operand} {k i : Nat} {m : Mk} {v : ByteArray} (hh : Has H0 H l) (hk0 : l[k]? = some (i, mkO m)) (hg : guardA ops o e = some true) (ho : o.op = .store 9 x y) (hx : rho e x = .pointer (some ⟨i, 1, none⟩)) (hy : rho e y = .string v)
    (hk : ∀ H1, Has H0 H1 (l.set k (i, mkO ⟨m.kind, v, m.sty, m.nam, m.num⟩)) → OWp Tryd.prog prims ops r (putE e o.dst undef) H1 Q) : OWp Tryd.prog prims ops (o :: r) e H Q :=
  OWp.storeB hh hk0 hg ho hx hy sz9 (by decide) rfl (show 1 + 1 ≤ 5 by omega) rfl rfl hk
theorem OWp.storeF2 {x y : Operand} {k i : Nat} {m : Mk} {v : ByteArray} (hh : Has H0 H l) (hk0 : l[k]? = some (i, mkO m)) (hg : guardA ops o e = some true) (ho : o.op = .store 9 x y) (hx : rho e x = .pointer (some ⟨i, 2, none⟩)) (hy : rho e y = .string v)
    (hk : ∀ H1, Has H0 H1 (l.set k (i, mkO ⟨m.kind, m.ind, v, m.nam, m.num⟩)) → OWp Tryd.prog prims ops r (putE e o.dst undef) H1 Q) : OWp Tryd.prog prims ops (o :: r) e H Q :=
  OWp.storeB hh hk0 hg ho hx hy sz9 (by decide) rfl (show 2 + 1 ≤ 5 by omega) rfl rfl hk
theorem OWp.storeF3 {x y : Operand} {k i : Nat} {m : Mk} {v : ByteArray} (hh : Has H0 H l) (hk0 : l[k]? = some (i, mkO m)) (hg : guardA ops o e = some true) (ho : o.op = .store 9 x y) (hx : rho e x = .pointer (some ⟨i, 3, none⟩)) (hy : rho e y = .string v)
    (hk : ∀ H1, Has H0 H1 (l.set k (i, mkO ⟨m.kind, m.ind, m.sty, v, m.num⟩)) → OWp Tryd.prog prims ops r (putE e o.dst undef) H1 Q) : OWp Tryd.prog prims ops (o :: r) e H Q :=
  OWp.storeB hh hk0 hg ho hx hy sz9 (by decide) rfl (show 3 + 1 ≤ 5 by omega) rfl rfl hk
theorem OWp.storeF4 {x y : Operand} {k i : Nat} {m : Mk} {v : Int} (hh : Has H0 H l) (hk0 : l[k]? = some (i, mkO m)) (hg : guardA ops o e = some true) (ho : o.op = .store 3 x y) (hx : rho e x = .pointer (some ⟨i, 4, none⟩)) (hy : rho e y = .int .i64 v)
    (hk : ∀ H1, Has H0 H1 (l.set k (i, mkO ⟨m.kind, m.ind, m.sty, m.nam, v⟩)) → OWp Tryd.prog prims ops r (putE e o.dst undef) H1 Q) : OWp Tryd.prog prims ops (o :: r) e H Q :=
  OWp.storeB hh hk0 hg ho hx hy sz3 (by decide) rfl (show 4 + 1 ≤ 5 by omega) rfl rfl hk
theorem OWp.buildM {ps : Array (Nat × Operand)} {parts : List (Nat × Value)} (m : Mk) (hg : guardA ops o e = some true) (ho : o.op = .build 27 ps) (hp : ps.toList.map (fun p => (p.1, rho e p.2)) = parts) (hb : buildA Tryd.prog 27 parts = some m.v)
    (hk : OWp Tryd.prog prims ops r e' H Q) (he : putE e o.dst m.v = e' := by simp only [putE, rho, List.set_cons_zero, List.set_cons_succ, List.getD_cons_zero, List.getD_cons_succ]; exact rfl) : OWp Tryd.prog prims ops (o :: r) e H Q :=
  OWp.build hg ho hp hb hk he
end
theorem RetQ.cellM {fn : Func} {Q : Value → AH → Prop} {st : St} {a b : Tmp} {k i : Nat} {e : List Value} {H H0 : AH} {l : List (Nat × Obj)} {m : Mk} {y : Value} (hst : st = .nx ∨ st = .rt) (hr : fn.results = #[.cell a 27, .tmp b]) (hx : e.getD a undef = .pointer (some ⟨i, 0, none⟩)) (hh : Has H0 H l) (hk0 : l[k]? = some (i, mkO m))
    (hy : e.getD b undef = y) (ny : noTuple y = true) (h : Q (.tuple #[m.v, y]) H) : RetQ Tryd.prog fn Q st e H :=
  RetQ.cellTwo hst hr hx hh hk0 Tryd.underlying27 rfl sz27 (Nat.le_refl 5) hy ny (by have := cells_all m; rw [Nat.zero_add] at this; rw [this]; exact h)
end Go.Proofs.YtllokljpacpafaaDoor.Ev
