/-
  Structs in blocks of one's own: rules to step through code that makes them, looks into them, compares them.
-/
import Derived.Test.YtnlkgnoogcakjaaGreatDoorEvBox
import Derived.Test.YtnlkgnoogcakjaaGreatDoorEvProg
namespace Go.Proofs.YtnlkgnoogcakjaaGreatDoor.Ev
open Go
set_option linter.unusedVariables false
set_option linter.unusedSimpArgs false
set_option maxRecDepth 20000
inductive AnyV where
  | nil
  | str (s : ByteArray)
  | tt
def AnyV.v : AnyV → Value
  | .nil => .nilIface
  | .str s => .iface 9 (.string s)
  | .tt => .iface 4 (.bool true)
theorem szK_a : szT Tryz.prog 20 = 1 := by kernel_rfl
theorem szK_b : szT Tryz.prog 4 = 1 := by kernel_rfl
theorem szK_s : szT Tryz.prog 9 = 1 := by kernel_rfl
theorem eqIn_int {d : Nat} {t : TypeId} {k k2 : IntKind} (ht : Tryz.prog.underlying t = some (.int k)) (a b : Int) : pureRun Tryz.prog (Op.equalIn (d + 1) t (.int k2 a) (.int k2 b)) = some (decide (a = b)) := by
  rw [Op.equalIn]
  simp only [pr_bind, pr_underlying ht, Option.bind_some, if_true, pr_pure, dec_eq]
theorem eqIn_bool {d : Nat} {t : TypeId} (ht : Tryz.prog.underlying t = some .bool) (a b : Bool) : pureRun Tryz.prog (Op.equalIn (d + 1) t (.bool a) (.bool b)) = some (decide (a = b)) := by
  rw [Op.equalIn]
  simp only [pr_bind, pr_underlying ht, Option.bind_some, pr_pure]
  cases a <;> cases b <;> rfl
theorem eqIn_str {d : Nat} {t : TypeId} (ht : Tryz.prog.underlying t = some .string) (a b : ByteArray) : pureRun Tryz.prog (Op.equalIn (d + 1) t (.string a) (.string b)) = some (decide (a = b)) := by
  rw [Op.equalIn]
  simp only [pr_bind, pr_underlying ht, Option.bind_some, pr_pure]
  have e : (a == b) = decide (a = b) := by
    rw [show (a == b) = (a.data == b.data) from rfl, Bool.eq_iff_iff]
    simp only [beq_iff_eq, decide_eq_true_eq]
    exact ⟨fun h => ByteArray.ext h, fun h => congrArg _ h⟩
  rw [e]
theorem part_flat {t : TypeId} {d : TypeDesc} (ht : Tryz.prog.underlying t = some d) (hd : isAggD d = false) (cs : Array Value) (off : Nat) (v : Value) (hv : cs[off]? = some v) : pureRun Tryz.prog (part t cs off) = some v := by
  unfold part isAgg
  simp only [pr_bind, pr_underlying ht, Option.bind_some]
  cases d <;> simp [isAggD] at hd <;> simp [pr_pure, pr_bind, hv]
section
variable {P : Program} {H H0 : AH} {l : List (Nat × Obj)} {e : List Value}
theorem RetQ.cellThree {fn : Func} {Q : Value → AH → Prop} {st : St} {a b c : Tmp} {t t' : TypeId} {k i n : Nat} {C : Array Value} {d : TypeDesc} {y z : Value} (hst : st = .nx ∨ st = .rt) (hr : fn.results = #[.cell a t, .tmp b, .tmp c]) (hx : e.getD a undef = .pointer (some ⟨i, 0, none⟩)) (hh : Has H0 H l) (hk0 : l[k]? = some (i, .cells C t' (0, 0)))
    (ht : P.underlying t = some d) (hd : isAggD d = true) (hn : szT P t = n) (hs : n ≤ C.size) (hy : e.getD b undef = y) (ny : noTuple y = true) (hz : e.getD c undef = z) (nz : noTuple z = true) (h : Q (.tuple #[.agg (C.extract 0 n), y, z]) H) : RetQ P fn Q st e H := by
  subst hn
  refine ⟨hst, _, ?_, h⟩
  have := load_agg (off := 0) hh hk0 ht hd (by omega)
  rw [Nat.zero_add] at this
  subst hy hz
  simp only [List.getD_eq_getElem?_getD] at hx ny nz
  simp [resultsA, hr, resA, hx, this, ny, nz, show ∀ c, noTuple (Value.agg c) = true from fun _ => rfl]
end
structure At where
  lang : ByteArray
  name : ByteArray
  file : ByteArray
  sty : ByteArray
  app : Bool
  nol : Bool
def At.cells (m : At) : Array Value := #[.string m.lang, .string m.name, .string m.file, .string m.sty, .bool m.app, .bool m.nol]
def At.v (m : At) : Value := .agg m.cells
def zeroAt : At := ⟨⟨#[]⟩, ⟨#[]⟩, ⟨#[]⟩, ⟨#[]⟩, false, false⟩
def At.O (m : At) : Obj := .cells m.cells 27 (0, 0)
theorem szAt : szT Tryz.prog 27 = 6 := by kernel_rfl
theorem zeAt : zeroT Tryz.prog 27 = some zeroAt.v := by kernel_rfl
theorem okAt (m : At) : m.v.cells.toList.all isCell = true := by
  rfl
theorem allAt (m : At) : m.cells.extract 0 (0 + 6) = m.cells := by simp [At.cells]
theorem extAt (a b : At) : (a = b) ↔ (a.lang = b.lang ∧ a.name = b.name ∧ a.file = b.file ∧ a.sty = b.sty ∧ a.app = b.app ∧ a.nol = b.nol) := ⟨fun h => by subst h; simp, fun ⟨h0, h1, h2, h3, h4, h5⟩ => by cases a; cases b; simp_all⟩
instance : DecidableEq At := fun a b => decidable_of_iff (a.lang = b.lang ∧ a.name = b.name ∧ a.file = b.file ∧ a.sty = b.sty ∧ a.app = b.app ∧ a.nol = b.nol) (extAt a b).symm
theorem eq_At (a b : At) : pureRun Tryz.prog (Op.equal 27 a.v b.v) = some (decide (a = b)) := by
  show pureRun Tryz.prog (Op.equalIn (9999 + 1) 27 (.agg a.cells) (.agg b.cells)) = _
  rw [Op.equalIn]
  have ib : ∀ x y : Bool, pureRun Tryz.prog (Op.equalIn 9999 4 (.bool x) (.bool y)) = some (decide (x = y)) := eqIn_bool (d := 9998) Tryz.underlying4
  have is : ∀ x y : ByteArray, pureRun Tryz.prog (Op.equalIn 9999 9 (.string x) (.string y)) = some (decide (x = y)) := eqIn_str (d := 9998) Tryz.underlying9
  have p0 : ∀ m : At, pureRun Tryz.prog (part 9 m.cells 0) = some (.string m.lang) := fun m => part_flat Tryz.underlying9 rfl _ _ _ rfl
  have p1 : ∀ m : At, pureRun Tryz.prog (part 9 m.cells 1) = some (.string m.name) := fun m => part_flat Tryz.underlying9 rfl _ _ _ rfl
  have p2 : ∀ m : At, pureRun Tryz.prog (part 9 m.cells 2) = some (.string m.file) := fun m => part_flat Tryz.underlying9 rfl _ _ _ rfl
  have p3 : ∀ m : At, pureRun Tryz.prog (part 9 m.cells 3) = some (.string m.sty) := fun m => part_flat Tryz.underlying9 rfl _ _ _ rfl
  have p4 : ∀ m : At, pureRun Tryz.prog (part 4 m.cells 4) = some (.bool m.app) := fun m => part_flat Tryz.underlying4 rfl _ _ _ rfl
  have p5 : ∀ m : At, pureRun Tryz.prog (part 4 m.cells 5) = some (.bool m.nol) := fun m => part_flat Tryz.underlying4 rfl _ _ _ rfl
  have hst : Tryz.prog.stoodInHeld 27 = false := by kernel_rfl
  have n0 : ("Lang" ≠ "_") = True := by decide
  have n1 : ("Name" ≠ "_") = True := by decide
  have n2 : ("File" ≠ "_") = True := by decide
  have n3 : ("Style" ≠ "_") = True := by decide
  have n4 : ("Append" ≠ "_") = True := by decide
  have n5 : ("NoLine" ≠ "_") = True := by decide
  simp only [pr_bind, pr_underlying Tryz.underlying27, Option.bind_some, program, pureRun, hst, Bool.false_eq_true, if_false, List.forIn_toArray, List.forIn_cons, List.forIn_nil, p0, p1, p2, p3, p4, p5, ib, is, n0, n1, n2, n3, n4, n5, if_true, extAt]
  by_cases h0 : a.lang = b.lang
  case neg => simp [h0, pr_pure, pr_bind, p0, p1, p2, p3, p4, p5, ib, is]
  by_cases h1 : a.name = b.name
  case neg => simp [h0, h1, pr_pure, pr_bind, p0, p1, p2, p3, p4, p5, ib, is]
  by_cases h2 : a.file = b.file
  case neg => simp [h0, h1, h2, pr_pure, pr_bind, p0, p1, p2, p3, p4, p5, ib, is]
  by_cases h3 : a.sty = b.sty
  case neg => simp [h0, h1, h2, h3, pr_pure, pr_bind, p0, p1, p2, p3, p4, p5, ib, is]
  by_cases h4 : a.app = b.app
  case neg => simp [h0, h1, h2, h3, h4, pr_pure, pr_bind, p0, p1, p2, p3, p4, p5, ib, is]
  by_cases h5 : a.nol = b.nol
  case neg => simp [h0, h1, h2, h3, h4, h5, pr_pure, pr_bind, p0, p1, p2, p3, p4, p5, ib, is]
  simp [h0, h1, h2, h3, h4, h5, pr_pure, pr_bind, p0, p1, p2, p3, p4, p5, ib, is]
section
variable {prims : Prims} {ops : Array Oper} {o : Oper} {r : List Oper} {e e' : List Value} {H H0 H1 H2 : AH} {Q : List Value → AH → Prop} {l : List (Nat × Obj)}
theorem eqA_At (m : At) (y : Value) : eqA Tryz.prog H 27 m.v y = none := by
  unfold eqA
  simp only [Tryz.underlying27]
theorem exec_eqAt (a b : At) {x y : Operand} {t' : TypeId} {op : BinOp} {v : Value} (ho : o.op = .binOp op 27 x y t') (hx : rho e x = a.v) (hy : rho e y = b.v) (hop : (op = .eql ∧ v = .bool (decide (a = b))) ∨ (op = .neq ∧ v = .bool (decide (¬ a = b)))) : flatOp Tryz.prog o (rho e) = some v := by
  have hg0 : Tryz.prog.eqGuardType Tryz.prog.depth 27 = false := by kernel_rfl
  have hv : flatB v = true := by rcases hop with ⟨_, rfl⟩ | ⟨_, rfl⟩ <;> rfl
  refine flat_op (by rw [ho]; simp only [Op.operands, List.all_toArray, List.all_cons, List.all_nil, hx, hy]; rfl) ?_ hv
  unfold execOp
  rw [ho]
  have hg : pureRun Tryz.prog (eqGuard op 27 x y a.v b.v) = some () := by
    rcases hop with ⟨rfl, _⟩ | ⟨rfl, _⟩ <;> simp [eqGuard, At.v, pr_bind, program, pureRun, hg0, pr_pure]
  have hq := eq_At a b
  rcases hop with ⟨rfl, rfl⟩ | ⟨rfl, rfl⟩
  · simp only [hx, hy, pr_bind, hg, Option.bind_some]
    simp only [Go.binOp, At.v, pr_bind] at hq ⊢
    simp only [hq, Option.bind_some, pr_pure]
  · simp only [hx, hy, pr_bind, hg, Option.bind_some]
    simp only [Go.binOp, At.v, pr_bind] at hq ⊢
    simp only [hq, Option.bind_some, pr_pure]
    simp
theorem OWp.eqAt {t' : TypeId} {x y : Operand} (a b : At) (hg : guardA ops o e = some true) (ho : o.op = .binOp .eql 27 x y t') (hx : rho e x = a.v) (hy : rho e y = b.v)
    (hk : OWp Tryz.prog prims ops r e' H Q) (he : putE e o.dst (.bool (decide (a = b))) = e' := by simp only [putE, rho, List.set_cons_zero, List.set_cons_succ, List.getD_cons_zero, List.getD_cons_succ]; exact rfl) : OWp Tryz.prog prims ops (o :: r) e H Q := by
  refine OWp.step hg (fun call => ?_) he hk
  have hf := exec_eqAt a b ho hx hy (.inl ⟨rfl, rfl⟩)
  unfold evOp
  simp only [ho, hx, eqA_At, hf, Option.map_some]
theorem OWp.neAt {t' : TypeId} {x y : Operand} (a b : At) (hg : guardA ops o e = some true) (ho : o.op = .binOp .neq 27 x y t') (hx : rho e x = a.v) (hy : rho e y = b.v)
    (hk : OWp Tryz.prog prims ops r e' H Q) (he : putE e o.dst (.bool (decide (¬ a = b))) = e' := by simp only [putE, rho, List.set_cons_zero, List.set_cons_succ, List.getD_cons_zero, List.getD_cons_succ]; exact rfl) : OWp Tryz.prog prims ops (o :: r) e H Q := by
  refine OWp.step hg (fun call => ?_) he hk
  have hf := exec_eqAt a b ho hx hy (.inr ⟨rfl, rfl⟩)
  unfold evOp
  simp only [ho, hx, eqA_At, hf, Option.map_some]
theorem OWp.boxAt {x : Operand} (m : At) (hh : Has H0 H l) (hg : guardA ops o e = some true) (ho : o.op = .box 27 x) (hx : rho e x = m.v)
    (hk : ∀ H1 i, Has H0 H1 ((i, m.O) :: l) → OWp Tryz.prog prims ops r (putE e o.dst (.pointer (some ⟨i, 0, none⟩))) H1 Q) : OWp Tryz.prog prims ops (o :: r) e H Q :=
  OWp.box hh hg ho hx (okAt m) hk
theorem OWp.allocAt (hh : Has H0 H l) (hg : guardA ops o e = some true) (ho : o.op = .alloc 27)
    (hk : ∀ H1 i, Has H0 H1 ((i, zeroAt.O) :: l) → OWp Tryz.prog prims ops r (putE e o.dst (.pointer (some ⟨i, 0, none⟩))) H1 Q) : OWp Tryz.prog prims ops (o :: r) e H Q :=
  OWp.alloc hh hg ho zeAt hk
theorem OWp.fieldAt {x : Operand} {i : Nat} (f : Nat) (hlt : f < 6) (hg : guardA ops o e = some true) (ho : o.op = .fieldAddr 27 x f)
    (hx : rho e x = .pointer (some ⟨i, 0, none⟩)) (hk : OWp Tryz.prog prims ops r e' H Q) (he : putE e o.dst (.pointer (some ⟨i, f, none⟩)) = e' := by simp only [putE, rho, List.set_cons_zero, List.set_cons_succ, List.getD_cons_zero, List.getD_cons_succ]; exact rfl) : OWp Tryz.prog prims ops (o :: r) e H Q := by
  have : f = 0 ∨ f = 1 ∨ f = 2 ∨ f = 3 ∨ f = 4 ∨ f = 5 := by omega
  rcases this with rfl | rfl | rfl | rfl | rfl | rfl
  · exact OWp.fieldA hg ho Tryz.underlying27 (by first | rfl | simp only [List.getElem?_toArray, List.getElem?_cons_zero, List.getElem?_cons_succ]) (by show szT Tryz.prog 9 ≠ 0; rw [szK_s]; decide) hx hk (by rw [← he]; rfl)
  · exact OWp.fieldA hg ho Tryz.underlying27 (by first | rfl | simp only [List.getElem?_toArray, List.getElem?_cons_zero, List.getElem?_cons_succ]) (by show szT Tryz.prog 9 ≠ 0; rw [szK_s]; decide) hx hk (by rw [← he]; rfl)
  · exact OWp.fieldA hg ho Tryz.underlying27 (by first | rfl | simp only [List.getElem?_toArray, List.getElem?_cons_zero, List.getElem?_cons_succ]) (by show szT Tryz.prog 9 ≠ 0; rw [szK_s]; decide) hx hk (by rw [← he]; rfl)
  · exact OWp.fieldA hg ho Tryz.underlying27 (by first | rfl | simp only [List.getElem?_toArray, List.getElem?_cons_zero, List.getElem?_cons_succ]) (by show szT Tryz.prog 9 ≠ 0; rw [szK_s]; decide) hx hk (by rw [← he]; rfl)
  · exact OWp.fieldA hg ho Tryz.underlying27 (by first | rfl | simp only [List.getElem?_toArray, List.getElem?_cons_zero, List.getElem?_cons_succ]) (by show szT Tryz.prog 4 ≠ 0; rw [szK_b]; decide) hx hk (by rw [← he]; rfl)
  · exact OWp.fieldA hg ho Tryz.underlying27 (by first | rfl | simp only [List.getElem?_toArray, List.getElem?_cons_zero, List.getElem?_cons_succ]) (by show szT Tryz.prog 4 ≠ 0; rw [szK_b]; decide) hx hk (by rw [← he]; rfl)
theorem OWp.loadAt {x : Operand} {k i : Nat} {m : At} (hh : Has H0 H l) (hk0 : l[k]? = some (i, m.O)) (hg : guardA ops o e = some true) (ho : o.op = .load 27 x) (hx : rho e x = .pointer (some ⟨i, 0, none⟩))
    (hk : OWp Tryz.prog prims ops r e' H Q) (he : putE e o.dst m.v = e' := by simp only [putE, rho, List.set_cons_zero, List.set_cons_succ, List.getD_cons_zero, List.getD_cons_succ]; exact rfl) : OWp Tryz.prog prims ops (o :: r) e H Q :=
  OWp.loadG hh hk0 hg ho hx Tryz.underlying27 rfl szAt (Nat.le_refl 6) (allAt m) hk he
theorem OWp.storeAt {x y : Operand} {k i : Nat} {m m' : At} (hh : Has H0 H l) (hk0 : l[k]? = some (i, m.O)) (hg : guardA ops o e = some true) (ho : o.op = .store 27 x y) (hx : rho e x = .pointer (some ⟨i, 0, none⟩)) (hy : rho e y = m'.v)
    (hk : ∀ H1, Has H0 H1 (l.set k (i, m'.O)) → OWp Tryz.prog prims ops r (putE e o.dst undef) H1 Q) : OWp Tryz.prog prims ops (o :: r) e H Q :=
  OWp.storeB hh hk0 hg ho hx hy szAt (by decide) rfl (Nat.le_refl 6) (okAt m') (by rfl) hk
theorem OWp.storeAtX {x y : Operand} {k i : Nat} {m m' : At} (hh : Has H0 H l) (hk0 : l[k]? = some (i, m.O)) (hg : guardA ops o e = some true) (ho : o.op = .store 27 x y) (hx : rho e x = .pointer (some ⟨i, 0, none⟩)) (hy : rho e y = m'.v)
    (hk : ∀ H1, Has H0 H1 (l.set k (i, m'.O)) → (∀ Hs, KX i Hs H → KX i Hs H1) → OWp Tryz.prog prims ops r (putE e o.dst undef) H1 Q) : OWp Tryz.prog prims ops (o :: r) e H Q :=
  OWp.storeBX hh hk0 hg ho hx hy szAt (by decide) rfl (Nat.le_refl 6) (okAt m') (by rfl) hk
theorem OWp.buildAt {ps : Array (Nat × Operand)} {parts : List (Nat × Value)} (m : At) (hg : guardA ops o e = some true) (ho : o.op = .build 27 ps) (hp : ps.toList.map (fun p => (p.1, rho e p.2)) = parts) (hb : buildA Tryz.prog 27 parts = some m.v)
    (hk : OWp Tryz.prog prims ops r e' H Q) (he : putE e o.dst m.v = e' := by simp only [putE, rho, List.set_cons_zero, List.set_cons_succ, List.getD_cons_zero, List.getD_cons_succ]; exact rfl) : OWp Tryz.prog prims ops (o :: r) e H Q :=
  OWp.build hg ho hp hb hk he
theorem OWp.loadAt_0 {x : Operand} {k i : Nat} {m : At} (hh : Has H0 H l) (hk0 : l[k]? = some (i, m.O)) (hg : guardA ops o e = some true) (ho : o.op = .load 9 x) (hx : rho e x = .pointer (some ⟨i, 0, none⟩))
    (hk : OWp Tryz.prog prims ops r e' H Q) (he : putE e o.dst (.string m.lang) = e' := by simp only [putE, rho, List.set_cons_zero, List.set_cons_succ, List.getD_cons_zero, List.getD_cons_succ]; exact rfl) : OWp Tryz.prog prims ops (o :: r) e H Q :=
  OWp.loadB hh hk0 hg ho hx Tryz.underlying9 rfl rfl hk he
theorem OWp.storeAt_0 {x y : Operand} {k i : Nat} {m : At} {w : ByteArray} (hh : Has H0 H l) (hk0 : l[k]? = some (i, m.O)) (hg : guardA ops o e = some true) (ho : o.op = .store 9 x y) (hx : rho e x = .pointer (some ⟨i, 0, none⟩)) (hy : rho e y = .string w)
    (hk : ∀ H1, Has H0 H1 (l.set k (i, At.O ⟨w, m.name, m.file, m.sty, m.app, m.nol⟩)) → OWp Tryz.prog prims ops r (putE e o.dst undef) H1 Q) : OWp Tryz.prog prims ops (o :: r) e H Q :=
  OWp.storeB hh hk0 hg ho hx hy szK_s (by decide) rfl (show 0 + 1 ≤ 6 by omega) rfl rfl hk
theorem OWp.loadAt_1 {x : Operand} {k i : Nat} {m : At} (hh : Has H0 H l) (hk0 : l[k]? = some (i, m.O)) (hg : guardA ops o e = some true) (ho : o.op = .load 9 x) (hx : rho e x = .pointer (some ⟨i, 1, none⟩))
    (hk : OWp Tryz.prog prims ops r e' H Q) (he : putE e o.dst (.string m.name) = e' := by simp only [putE, rho, List.set_cons_zero, List.set_cons_succ, List.getD_cons_zero, List.getD_cons_succ]; exact rfl) : OWp Tryz.prog prims ops (o :: r) e H Q :=
  OWp.loadB hh hk0 hg ho hx Tryz.underlying9 rfl rfl hk he
theorem OWp.storeAt_1 {x y : Operand} {k i : Nat} {m : At} {w : ByteArray} (hh : Has H0 H l) (hk0 : l[k]? = some (i, m.O)) (hg : guardA ops o e = some true) (ho : o.op = .store 9 x y) (hx : rho e x = .pointer (some ⟨i, 1, none⟩)) (hy : rho e y = .string w)
    (hk : ∀ H1, Has H0 H1 (l.set k (i, At.O ⟨m.lang, w, m.file, m.sty, m.app, m.nol⟩)) → OWp Tryz.prog prims ops r (putE e o.dst undef) H1 Q) : OWp Tryz.prog prims ops (o :: r) e H Q :=
  OWp.storeB hh hk0 hg ho hx hy szK_s (by decide) rfl (show 1 + 1 ≤ 6 by omega) rfl rfl hk
theorem OWp.loadAt_2 {x : Operand} {k i : Nat} {m : At} (hh : Has H0 H l) (hk0 : l[k]? = some (i, m.O)) (hg : guardA ops o e = some true) (ho : o.op = .load 9 x) (hx : rho e x = .pointer (some ⟨i, 2, none⟩))
    (hk : OWp Tryz.prog prims ops r e' H Q) (he : putE e o.dst (.string m.file) = e' := by simp only [putE, rho, List.set_cons_zero, List.set_cons_succ, List.getD_cons_zero, List.getD_cons_succ]; exact rfl) : OWp Tryz.prog prims ops (o :: r) e H Q :=
  OWp.loadB hh hk0 hg ho hx Tryz.underlying9 rfl rfl hk he
theorem OWp.storeAt_2 {x y : Operand} {k i : Nat} {m : At} {w : ByteArray} (hh : Has H0 H l) (hk0 : l[k]? = some (i, m.O)) (hg : guardA ops o e = some true) (ho : o.op = .store 9 x y) (hx : rho e x = .pointer (some ⟨i, 2, none⟩)) (hy : rho e y = .string w)
    (hk : ∀ H1, Has H0 H1 (l.set k (i, At.O ⟨m.lang, m.name, w, m.sty, m.app, m.nol⟩)) → OWp Tryz.prog prims ops r (putE e o.dst undef) H1 Q) : OWp Tryz.prog prims ops (o :: r) e H Q :=
  OWp.storeB hh hk0 hg ho hx hy szK_s (by decide) rfl (show 2 + 1 ≤ 6 by omega) rfl rfl hk
theorem OWp.loadAt_3 {x : Operand} {k i : Nat} {m : At} (hh : Has H0 H l) (hk0 : l[k]? = some (i, m.O)) (hg : guardA ops o e = some true) (ho : o.op = .load 9 x) (hx : rho e x = .pointer (some ⟨i, 3, none⟩))
    (hk : OWp Tryz.prog prims ops r e' H Q) (he : putE e o.dst (.string m.sty) = e' := by simp only [putE, rho, List.set_cons_zero, List.set_cons_succ, List.getD_cons_zero, List.getD_cons_succ]; exact rfl) : OWp Tryz.prog prims ops (o :: r) e H Q :=
  OWp.loadB hh hk0 hg ho hx Tryz.underlying9 rfl rfl hk he
theorem OWp.storeAt_3 {x y : Operand} {k i : Nat} {m : At} {w : ByteArray} (hh : Has H0 H l) (hk0 : l[k]? = some (i, m.O)) (hg : guardA ops o e = some true) (ho : o.op = .store 9 x y) (hx : rho e x = .pointer (some ⟨i, 3, none⟩)) (hy : rho e y = .string w)
    (hk : ∀ H1, Has H0 H1 (l.set k (i, At.O ⟨m.lang, m.name, m.file, w, m.app, m.nol⟩)) → OWp Tryz.prog prims ops r (putE e o.dst undef) H1 Q) : OWp Tryz.prog prims ops (o :: r) e H Q :=
  OWp.storeB hh hk0 hg ho hx hy szK_s (by decide) rfl (show 3 + 1 ≤ 6 by omega) rfl rfl hk
theorem OWp.loadAt_4 {x : Operand} {k i : Nat} {m : At} (hh : Has H0 H l) (hk0 : l[k]? = some (i, m.O)) (hg : guardA ops o e = some true) (ho : o.op = .load 4 x) (hx : rho e x = .pointer (some ⟨i, 4, none⟩))
    (hk : OWp Tryz.prog prims ops r e' H Q) (he : putE e o.dst (.bool m.app) = e' := by simp only [putE, rho, List.set_cons_zero, List.set_cons_succ, List.getD_cons_zero, List.getD_cons_succ]; exact rfl) : OWp Tryz.prog prims ops (o :: r) e H Q :=
  OWp.loadB hh hk0 hg ho hx Tryz.underlying4 rfl rfl hk he
theorem OWp.storeAt_4 {x y : Operand} {k i : Nat} {m : At} {w : Bool} (hh : Has H0 H l) (hk0 : l[k]? = some (i, m.O)) (hg : guardA ops o e = some true) (ho : o.op = .store 4 x y) (hx : rho e x = .pointer (some ⟨i, 4, none⟩)) (hy : rho e y = .bool w)
    (hk : ∀ H1, Has H0 H1 (l.set k (i, At.O ⟨m.lang, m.name, m.file, m.sty, w, m.nol⟩)) → OWp Tryz.prog prims ops r (putE e o.dst undef) H1 Q) : OWp Tryz.prog prims ops (o :: r) e H Q :=
  OWp.storeB hh hk0 hg ho hx hy szK_b (by decide) rfl (show 4 + 1 ≤ 6 by omega) rfl rfl hk
theorem OWp.loadAt_5 {x : Operand} {k i : Nat} {m : At} (hh : Has H0 H l) (hk0 : l[k]? = some (i, m.O)) (hg : guardA ops o e = some true) (ho : o.op = .load 4 x) (hx : rho e x = .pointer (some ⟨i, 5, none⟩))
    (hk : OWp Tryz.prog prims ops r e' H Q) (he : putE e o.dst (.bool m.nol) = e' := by simp only [putE, rho, List.set_cons_zero, List.set_cons_succ, List.getD_cons_zero, List.getD_cons_succ]; exact rfl) : OWp Tryz.prog prims ops (o :: r) e H Q :=
  OWp.loadB hh hk0 hg ho hx Tryz.underlying4 rfl rfl hk he
theorem OWp.storeAt_5 {x y : Operand} {k i : Nat} {m : At} {w : Bool} (hh : Has H0 H l) (hk0 : l[k]? = some (i, m.O)) (hg : guardA ops o e = some true) (ho : o.op = .store 4 x y) (hx : rho e x = .pointer (some ⟨i, 5, none⟩)) (hy : rho e y = .bool w)
    (hk : ∀ H1, Has H0 H1 (l.set k (i, At.O ⟨m.lang, m.name, m.file, m.sty, m.app, w⟩)) → OWp Tryz.prog prims ops r (putE e o.dst undef) H1 Q) : OWp Tryz.prog prims ops (o :: r) e H Q :=
  OWp.storeB hh hk0 hg ho hx hy szK_b (by decide) rfl (show 5 + 1 ≤ 6 by omega) rfl rfl hk
end
theorem RetQ.cellAt2 {fn : Func} {Q : Value → AH → Prop} {st : St} {a b : Tmp} {k i : Nat} {e : List Value} {H H0 : AH} {l : List (Nat × Obj)} {m : At} {y : Value} (hst : st = .nx ∨ st = .rt) (hr : fn.results = #[.cell a 27, .tmp b]) (hx : e.getD a undef = .pointer (some ⟨i, 0, none⟩)) (hh : Has H0 H l) (hk0 : l[k]? = some (i, m.O))
    (hy : e.getD b undef = y) (ny : noTuple y = true) (h : Q (.tuple #[m.v, y]) H) : RetQ Tryz.prog fn Q st e H :=
  RetQ.cellTwo hst hr hx hh hk0 Tryz.underlying27 rfl szAt (Nat.le_refl 6) hy ny (by have := allAt m; rw [Nat.zero_add] at this; rw [this]; exact h)
theorem RetQ.cellAt3 {fn : Func} {Q : Value → AH → Prop} {st : St} {a b c : Tmp} {k i : Nat} {e : List Value} {H H0 : AH} {l : List (Nat × Obj)} {m : At} {y z : Value} (hst : st = .nx ∨ st = .rt) (hr : fn.results = #[.cell a 27, .tmp b, .tmp c]) (hx : e.getD a undef = .pointer (some ⟨i, 0, none⟩)) (hh : Has H0 H l) (hk0 : l[k]? = some (i, m.O))
    (hy : e.getD b undef = y) (ny : noTuple y = true) (hz : e.getD c undef = z) (nz : noTuple z = true) (h : Q (.tuple #[m.v, y, z]) H) : RetQ Tryz.prog fn Q st e H :=
  RetQ.cellThree hst hr hx hh hk0 Tryz.underlying27 rfl szAt (Nat.le_refl 6) hy ny hz nz (by have := allAt m; rw [Nat.zero_add] at this; rw [this]; exact h)
structure PA where
  key : ByteArray
  val : AnyV
def PA.cells (m : PA) : Array Value := #[.string m.key, (AnyV.v m.val)]
def PA.v (m : PA) : Value := .agg m.cells
def zeroPA : PA := ⟨⟨#[]⟩, .nil⟩
def PA.O (m : PA) : Obj := .cells m.cells 44 (0, 0)
theorem szPA : szT Tryz.prog 44 = 2 := by kernel_rfl
theorem zePA : zeroT Tryz.prog 44 = some zeroPA.v := by kernel_rfl
theorem okPA (m : PA) : m.v.cells.toList.all isCell = true := by
  obtain ⟨key, val⟩ := m
  cases val <;> rfl
theorem allPA (m : PA) : m.cells.extract 0 (0 + 2) = m.cells := by simp [PA.cells]
section
variable {prims : Prims} {ops : Array Oper} {o : Oper} {r : List Oper} {e e' : List Value} {H H0 H1 H2 : AH} {Q : List Value → AH → Prop} {l : List (Nat × Obj)}
theorem OWp.boxPA {x : Operand} (m : PA) (hh : Has H0 H l) (hg : guardA ops o e = some true) (ho : o.op = .box 44 x) (hx : rho e x = m.v)
    (hk : ∀ H1 i, Has H0 H1 ((i, m.O) :: l) → OWp Tryz.prog prims ops r (putE e o.dst (.pointer (some ⟨i, 0, none⟩))) H1 Q) : OWp Tryz.prog prims ops (o :: r) e H Q :=
  OWp.box hh hg ho hx (okPA m) hk
theorem OWp.allocPA (hh : Has H0 H l) (hg : guardA ops o e = some true) (ho : o.op = .alloc 44)
    (hk : ∀ H1 i, Has H0 H1 ((i, zeroPA.O) :: l) → OWp Tryz.prog prims ops r (putE e o.dst (.pointer (some ⟨i, 0, none⟩))) H1 Q) : OWp Tryz.prog prims ops (o :: r) e H Q :=
  OWp.alloc hh hg ho zePA hk
theorem OWp.fieldPA {x : Operand} {i : Nat} (f : Nat) (hlt : f < 2) (hg : guardA ops o e = some true) (ho : o.op = .fieldAddr 44 x f)
    (hx : rho e x = .pointer (some ⟨i, 0, none⟩)) (hk : OWp Tryz.prog prims ops r e' H Q) (he : putE e o.dst (.pointer (some ⟨i, f, none⟩)) = e' := by simp only [putE, rho, List.set_cons_zero, List.set_cons_succ, List.getD_cons_zero, List.getD_cons_succ]; exact rfl) : OWp Tryz.prog prims ops (o :: r) e H Q := by
  have : f = 0 ∨ f = 1 := by omega
  rcases this with rfl | rfl
  · exact OWp.fieldA hg ho Tryz.underlying44 (by first | rfl | simp only [List.getElem?_toArray, List.getElem?_cons_zero, List.getElem?_cons_succ]) (by show szT Tryz.prog 9 ≠ 0; rw [szK_s]; decide) hx hk (by rw [← he]; rfl)
  · exact OWp.fieldA hg ho Tryz.underlying44 (by first | rfl | simp only [List.getElem?_toArray, List.getElem?_cons_zero, List.getElem?_cons_succ]) (by show szT Tryz.prog 20 ≠ 0; rw [szK_a]; decide) hx hk (by rw [← he]; rfl)
theorem OWp.loadPA {x : Operand} {k i : Nat} {m : PA} (hh : Has H0 H l) (hk0 : l[k]? = some (i, m.O)) (hg : guardA ops o e = some true) (ho : o.op = .load 44 x) (hx : rho e x = .pointer (some ⟨i, 0, none⟩))
    (hk : OWp Tryz.prog prims ops r e' H Q) (he : putE e o.dst m.v = e' := by simp only [putE, rho, List.set_cons_zero, List.set_cons_succ, List.getD_cons_zero, List.getD_cons_succ]; exact rfl) : OWp Tryz.prog prims ops (o :: r) e H Q :=
  OWp.loadG hh hk0 hg ho hx Tryz.underlying44 rfl szPA (Nat.le_refl 2) (allPA m) hk he
theorem OWp.storePA {x y : Operand} {k i : Nat} {m m' : PA} (hh : Has H0 H l) (hk0 : l[k]? = some (i, m.O)) (hg : guardA ops o e = some true) (ho : o.op = .store 44 x y) (hx : rho e x = .pointer (some ⟨i, 0, none⟩)) (hy : rho e y = m'.v)
    (hk : ∀ H1, Has H0 H1 (l.set k (i, m'.O)) → OWp Tryz.prog prims ops r (putE e o.dst undef) H1 Q) : OWp Tryz.prog prims ops (o :: r) e H Q :=
  OWp.storeB hh hk0 hg ho hx hy szPA (by decide) rfl (Nat.le_refl 2) (okPA m') (by rfl) hk
theorem OWp.storePAX {x y : Operand} {k i : Nat} {m m' : PA} (hh : Has H0 H l) (hk0 : l[k]? = some (i, m.O)) (hg : guardA ops o e = some true) (ho : o.op = .store 44 x y) (hx : rho e x = .pointer (some ⟨i, 0, none⟩)) (hy : rho e y = m'.v)
    (hk : ∀ H1, Has H0 H1 (l.set k (i, m'.O)) → (∀ Hs, KX i Hs H → KX i Hs H1) → OWp Tryz.prog prims ops r (putE e o.dst undef) H1 Q) : OWp Tryz.prog prims ops (o :: r) e H Q :=
  OWp.storeBX hh hk0 hg ho hx hy szPA (by decide) rfl (Nat.le_refl 2) (okPA m') (by rfl) hk
theorem OWp.buildPA {ps : Array (Nat × Operand)} {parts : List (Nat × Value)} (m : PA) (hg : guardA ops o e = some true) (ho : o.op = .build 44 ps) (hp : ps.toList.map (fun p => (p.1, rho e p.2)) = parts) (hb : buildA Tryz.prog 44 parts = some m.v)
    (hk : OWp Tryz.prog prims ops r e' H Q) (he : putE e o.dst m.v = e' := by simp only [putE, rho, List.set_cons_zero, List.set_cons_succ, List.getD_cons_zero, List.getD_cons_succ]; exact rfl) : OWp Tryz.prog prims ops (o :: r) e H Q :=
  OWp.build hg ho hp hb hk he
theorem bcPA (m : PA) : buildCells Tryz.prog 35 1 [(0, m.v)] = some (44, m.cells) := by
  have h1 : elemT Tryz.prog 35 = some 44 := by kernel_rfl
  have h2 : (m.v.cells.toList.all isCell) = true := okPA m
  unfold buildCells
  simp only [h1, zePA, szPA, List.all_cons, List.all_nil, h2, Bool.and_true]
  rw [if_neg (by decide), if_pos ⟨by decide, by decide, trivial⟩]
  have hf : Instr.fill (fun i => some (i * 2, 2)) (Array.map (fun x => zeroPA.v.cells[x % zeroPA.v.cells.size]!) (Array.range (1 * 2))) [(0, m.v)] = some m.cells := by kernel_rfl
  rw [hf]
theorem OWp.bslPA {ps : Array (Nat × Operand)} (m : PA) (hw : WfH H) (hg : guardA ops o e = some true) (ho : o.op = .buildSlice 35 1 ps) (hp : ps.toList.map (fun p => (p.1, rho e p.2)) = [(0, m.v)])
    (hk : ∀ H1 i, WfH H1 → Keeps H H1 → H.next ≤ i → Own H1 i m.O true → OWp Tryz.prog prims ops r (putE e o.dst (.slice (some ⟨i, 0, none⟩) 1 1)) H1 Q) : OWp Tryz.prog prims ops (o :: r) e H Q :=
  OWp.buildSl hw hg ho hp (bcPA m) hk
theorem OWp.loadPA_0 {x : Operand} {k i : Nat} {m : PA} (hh : Has H0 H l) (hk0 : l[k]? = some (i, m.O)) (hg : guardA ops o e = some true) (ho : o.op = .load 9 x) (hx : rho e x = .pointer (some ⟨i, 0, none⟩))
    (hk : OWp Tryz.prog prims ops r e' H Q) (he : putE e o.dst (.string m.key) = e' := by simp only [putE, rho, List.set_cons_zero, List.set_cons_succ, List.getD_cons_zero, List.getD_cons_succ]; exact rfl) : OWp Tryz.prog prims ops (o :: r) e H Q :=
  OWp.loadB hh hk0 hg ho hx Tryz.underlying9 rfl rfl hk he
theorem OWp.storePA_0 {x y : Operand} {k i : Nat} {m : PA} {w : ByteArray} (hh : Has H0 H l) (hk0 : l[k]? = some (i, m.O)) (hg : guardA ops o e = some true) (ho : o.op = .store 9 x y) (hx : rho e x = .pointer (some ⟨i, 0, none⟩)) (hy : rho e y = .string w)
    (hk : ∀ H1, Has H0 H1 (l.set k (i, PA.O ⟨w, m.val⟩)) → OWp Tryz.prog prims ops r (putE e o.dst undef) H1 Q) : OWp Tryz.prog prims ops (o :: r) e H Q :=
  OWp.storeB hh hk0 hg ho hx hy szK_s (by decide) rfl (show 0 + 1 ≤ 2 by omega) rfl rfl hk
theorem OWp.loadPA_1 {x : Operand} {k i : Nat} {m : PA} (hh : Has H0 H l) (hk0 : l[k]? = some (i, m.O)) (hg : guardA ops o e = some true) (ho : o.op = .load 20 x) (hx : rho e x = .pointer (some ⟨i, 1, none⟩))
    (hk : OWp Tryz.prog prims ops r e' H Q) (he : putE e o.dst ((AnyV.v m.val)) = e' := by simp only [putE, rho, List.set_cons_zero, List.set_cons_succ, List.getD_cons_zero, List.getD_cons_succ]; exact rfl) : OWp Tryz.prog prims ops (o :: r) e H Q :=
  OWp.loadB hh hk0 hg ho hx Tryz.underlying20 rfl rfl hk he
theorem OWp.storePA_1 {x y : Operand} {k i : Nat} {m : PA} {w : AnyV} (hh : Has H0 H l) (hk0 : l[k]? = some (i, m.O)) (hg : guardA ops o e = some true) (ho : o.op = .store 20 x y) (hx : rho e x = .pointer (some ⟨i, 1, none⟩)) (hy : rho e y = (AnyV.v w))
    (hk : ∀ H1, Has H0 H1 (l.set k (i, PA.O ⟨m.key, w⟩)) → OWp Tryz.prog prims ops r (putE e o.dst undef) H1 Q) : OWp Tryz.prog prims ops (o :: r) e H Q :=
  OWp.storeB hh hk0 hg ho hx hy szK_a (by decide) (by cases w <;> rfl) (show 1 + 1 ≤ 2 by omega) (by cases w <;> rfl) (by cases w <;> rfl) hk
end
theorem RetQ.cellPA2 {fn : Func} {Q : Value → AH → Prop} {st : St} {a b : Tmp} {k i : Nat} {e : List Value} {H H0 : AH} {l : List (Nat × Obj)} {m : PA} {y : Value} (hst : st = .nx ∨ st = .rt) (hr : fn.results = #[.cell a 44, .tmp b]) (hx : e.getD a undef = .pointer (some ⟨i, 0, none⟩)) (hh : Has H0 H l) (hk0 : l[k]? = some (i, m.O))
    (hy : e.getD b undef = y) (ny : noTuple y = true) (h : Q (.tuple #[m.v, y]) H) : RetQ Tryz.prog fn Q st e H :=
  RetQ.cellTwo hst hr hx hh hk0 Tryz.underlying44 rfl szPA (Nat.le_refl 2) hy ny (by have := allPA m; rw [Nat.zero_add] at this; rw [this]; exact h)
theorem RetQ.cellPA3 {fn : Func} {Q : Value → AH → Prop} {st : St} {a b c : Tmp} {k i : Nat} {e : List Value} {H H0 : AH} {l : List (Nat × Obj)} {m : PA} {y z : Value} (hst : st = .nx ∨ st = .rt) (hr : fn.results = #[.cell a 44, .tmp b, .tmp c]) (hx : e.getD a undef = .pointer (some ⟨i, 0, none⟩)) (hh : Has H0 H l) (hk0 : l[k]? = some (i, m.O))
    (hy : e.getD b undef = y) (ny : noTuple y = true) (hz : e.getD c undef = z) (nz : noTuple z = true) (h : Q (.tuple #[m.v, y, z]) H) : RetQ Tryz.prog fn Q st e H :=
  RetQ.cellThree hst hr hx hh hk0 Tryz.underlying44 rfl szPA (Nat.le_refl 2) hy ny hz nz (by have := allPA m; rw [Nat.zero_add] at this; rw [this]; exact h)
structure PR where
  key : ByteArray
  text : ByteArray
  alone : Bool
def PR.cells (m : PR) : Array Value := #[.string m.key, .string m.text, .bool m.alone]
def PR.v (m : PR) : Value := .agg m.cells
def zeroPR : PR := ⟨⟨#[]⟩, ⟨#[]⟩, false⟩
def PR.O (m : PR) : Obj := .cells m.cells 46 (0, 0)
theorem szPR : szT Tryz.prog 46 = 3 := by kernel_rfl
theorem zePR : zeroT Tryz.prog 46 = some zeroPR.v := by kernel_rfl
theorem okPR (m : PR) : m.v.cells.toList.all isCell = true := by
  rfl
theorem allPR (m : PR) : m.cells.extract 0 (0 + 3) = m.cells := by simp [PR.cells]
section
variable {prims : Prims} {ops : Array Oper} {o : Oper} {r : List Oper} {e e' : List Value} {H H0 H1 H2 : AH} {Q : List Value → AH → Prop} {l : List (Nat × Obj)}
theorem OWp.boxPR {x : Operand} (m : PR) (hh : Has H0 H l) (hg : guardA ops o e = some true) (ho : o.op = .box 46 x) (hx : rho e x = m.v)
    (hk : ∀ H1 i, Has H0 H1 ((i, m.O) :: l) → OWp Tryz.prog prims ops r (putE e o.dst (.pointer (some ⟨i, 0, none⟩))) H1 Q) : OWp Tryz.prog prims ops (o :: r) e H Q :=
  OWp.box hh hg ho hx (okPR m) hk
theorem OWp.allocPR (hh : Has H0 H l) (hg : guardA ops o e = some true) (ho : o.op = .alloc 46)
    (hk : ∀ H1 i, Has H0 H1 ((i, zeroPR.O) :: l) → OWp Tryz.prog prims ops r (putE e o.dst (.pointer (some ⟨i, 0, none⟩))) H1 Q) : OWp Tryz.prog prims ops (o :: r) e H Q :=
  OWp.alloc hh hg ho zePR hk
theorem OWp.fieldPR {x : Operand} {i : Nat} (f : Nat) (hlt : f < 3) (hg : guardA ops o e = some true) (ho : o.op = .fieldAddr 46 x f)
    (hx : rho e x = .pointer (some ⟨i, 0, none⟩)) (hk : OWp Tryz.prog prims ops r e' H Q) (he : putE e o.dst (.pointer (some ⟨i, f, none⟩)) = e' := by simp only [putE, rho, List.set_cons_zero, List.set_cons_succ, List.getD_cons_zero, List.getD_cons_succ]; exact rfl) : OWp Tryz.prog prims ops (o :: r) e H Q := by
  have : f = 0 ∨ f = 1 ∨ f = 2 := by omega
  rcases this with rfl | rfl | rfl
  · exact OWp.fieldA hg ho Tryz.underlying46 (by first | rfl | simp only [List.getElem?_toArray, List.getElem?_cons_zero, List.getElem?_cons_succ]) (by show szT Tryz.prog 9 ≠ 0; rw [szK_s]; decide) hx hk (by rw [← he]; rfl)
  · exact OWp.fieldA hg ho Tryz.underlying46 (by first | rfl | simp only [List.getElem?_toArray, List.getElem?_cons_zero, List.getElem?_cons_succ]) (by show szT Tryz.prog 9 ≠ 0; rw [szK_s]; decide) hx hk (by rw [← he]; rfl)
  · exact OWp.fieldA hg ho Tryz.underlying46 (by first | rfl | simp only [List.getElem?_toArray, List.getElem?_cons_zero, List.getElem?_cons_succ]) (by show szT Tryz.prog 4 ≠ 0; rw [szK_b]; decide) hx hk (by rw [← he]; rfl)
theorem OWp.loadPR {x : Operand} {k i : Nat} {m : PR} (hh : Has H0 H l) (hk0 : l[k]? = some (i, m.O)) (hg : guardA ops o e = some true) (ho : o.op = .load 46 x) (hx : rho e x = .pointer (some ⟨i, 0, none⟩))
    (hk : OWp Tryz.prog prims ops r e' H Q) (he : putE e o.dst m.v = e' := by simp only [putE, rho, List.set_cons_zero, List.set_cons_succ, List.getD_cons_zero, List.getD_cons_succ]; exact rfl) : OWp Tryz.prog prims ops (o :: r) e H Q :=
  OWp.loadG hh hk0 hg ho hx Tryz.underlying46 rfl szPR (Nat.le_refl 3) (allPR m) hk he
theorem OWp.storePR {x y : Operand} {k i : Nat} {m m' : PR} (hh : Has H0 H l) (hk0 : l[k]? = some (i, m.O)) (hg : guardA ops o e = some true) (ho : o.op = .store 46 x y) (hx : rho e x = .pointer (some ⟨i, 0, none⟩)) (hy : rho e y = m'.v)
    (hk : ∀ H1, Has H0 H1 (l.set k (i, m'.O)) → OWp Tryz.prog prims ops r (putE e o.dst undef) H1 Q) : OWp Tryz.prog prims ops (o :: r) e H Q :=
  OWp.storeB hh hk0 hg ho hx hy szPR (by decide) rfl (Nat.le_refl 3) (okPR m') (by rfl) hk
theorem OWp.storePRX {x y : Operand} {k i : Nat} {m m' : PR} (hh : Has H0 H l) (hk0 : l[k]? = some (i, m.O)) (hg : guardA ops o e = some true) (ho : o.op = .store 46 x y) (hx : rho e x = .pointer (some ⟨i, 0, none⟩)) (hy : rho e y = m'.v)
    (hk : ∀ H1, Has H0 H1 (l.set k (i, m'.O)) → (∀ Hs, KX i Hs H → KX i Hs H1) → OWp Tryz.prog prims ops r (putE e o.dst undef) H1 Q) : OWp Tryz.prog prims ops (o :: r) e H Q :=
  OWp.storeBX hh hk0 hg ho hx hy szPR (by decide) rfl (Nat.le_refl 3) (okPR m') (by rfl) hk
theorem OWp.buildPR {ps : Array (Nat × Operand)} {parts : List (Nat × Value)} (m : PR) (hg : guardA ops o e = some true) (ho : o.op = .build 46 ps) (hp : ps.toList.map (fun p => (p.1, rho e p.2)) = parts) (hb : buildA Tryz.prog 46 parts = some m.v)
    (hk : OWp Tryz.prog prims ops r e' H Q) (he : putE e o.dst m.v = e' := by simp only [putE, rho, List.set_cons_zero, List.set_cons_succ, List.getD_cons_zero, List.getD_cons_succ]; exact rfl) : OWp Tryz.prog prims ops (o :: r) e H Q :=
  OWp.build hg ho hp hb hk he
theorem bcPR (m : PR) : buildCells Tryz.prog 38 1 [(0, m.v)] = some (46, m.cells) := by
  have h1 : elemT Tryz.prog 38 = some 46 := by kernel_rfl
  have h2 : (m.v.cells.toList.all isCell) = true := okPR m
  unfold buildCells
  simp only [h1, zePR, szPR, List.all_cons, List.all_nil, h2, Bool.and_true]
  rw [if_neg (by decide), if_pos ⟨by decide, by decide, trivial⟩]
  have hf : Instr.fill (fun i => some (i * 3, 3)) (Array.map (fun x => zeroPR.v.cells[x % zeroPR.v.cells.size]!) (Array.range (1 * 3))) [(0, m.v)] = some m.cells := by kernel_rfl
  rw [hf]
theorem OWp.bslPR {ps : Array (Nat × Operand)} (m : PR) (hw : WfH H) (hg : guardA ops o e = some true) (ho : o.op = .buildSlice 38 1 ps) (hp : ps.toList.map (fun p => (p.1, rho e p.2)) = [(0, m.v)])
    (hk : ∀ H1 i, WfH H1 → Keeps H H1 → H.next ≤ i → Own H1 i m.O true → OWp Tryz.prog prims ops r (putE e o.dst (.slice (some ⟨i, 0, none⟩) 1 1)) H1 Q) : OWp Tryz.prog prims ops (o :: r) e H Q :=
  OWp.buildSl hw hg ho hp (bcPR m) hk
theorem OWp.loadPR_0 {x : Operand} {k i : Nat} {m : PR} (hh : Has H0 H l) (hk0 : l[k]? = some (i, m.O)) (hg : guardA ops o e = some true) (ho : o.op = .load 9 x) (hx : rho e x = .pointer (some ⟨i, 0, none⟩))
    (hk : OWp Tryz.prog prims ops r e' H Q) (he : putE e o.dst (.string m.key) = e' := by simp only [putE, rho, List.set_cons_zero, List.set_cons_succ, List.getD_cons_zero, List.getD_cons_succ]; exact rfl) : OWp Tryz.prog prims ops (o :: r) e H Q :=
  OWp.loadB hh hk0 hg ho hx Tryz.underlying9 rfl rfl hk he
theorem OWp.storePR_0 {x y : Operand} {k i : Nat} {m : PR} {w : ByteArray} (hh : Has H0 H l) (hk0 : l[k]? = some (i, m.O)) (hg : guardA ops o e = some true) (ho : o.op = .store 9 x y) (hx : rho e x = .pointer (some ⟨i, 0, none⟩)) (hy : rho e y = .string w)
    (hk : ∀ H1, Has H0 H1 (l.set k (i, PR.O ⟨w, m.text, m.alone⟩)) → OWp Tryz.prog prims ops r (putE e o.dst undef) H1 Q) : OWp Tryz.prog prims ops (o :: r) e H Q :=
  OWp.storeB hh hk0 hg ho hx hy szK_s (by decide) rfl (show 0 + 1 ≤ 3 by omega) rfl rfl hk
theorem OWp.loadPR_1 {x : Operand} {k i : Nat} {m : PR} (hh : Has H0 H l) (hk0 : l[k]? = some (i, m.O)) (hg : guardA ops o e = some true) (ho : o.op = .load 9 x) (hx : rho e x = .pointer (some ⟨i, 1, none⟩))
    (hk : OWp Tryz.prog prims ops r e' H Q) (he : putE e o.dst (.string m.text) = e' := by simp only [putE, rho, List.set_cons_zero, List.set_cons_succ, List.getD_cons_zero, List.getD_cons_succ]; exact rfl) : OWp Tryz.prog prims ops (o :: r) e H Q :=
  OWp.loadB hh hk0 hg ho hx Tryz.underlying9 rfl rfl hk he
theorem OWp.storePR_1 {x y : Operand} {k i : Nat} {m : PR} {w : ByteArray} (hh : Has H0 H l) (hk0 : l[k]? = some (i, m.O)) (hg : guardA ops o e = some true) (ho : o.op = .store 9 x y) (hx : rho e x = .pointer (some ⟨i, 1, none⟩)) (hy : rho e y = .string w)
    (hk : ∀ H1, Has H0 H1 (l.set k (i, PR.O ⟨m.key, w, m.alone⟩)) → OWp Tryz.prog prims ops r (putE e o.dst undef) H1 Q) : OWp Tryz.prog prims ops (o :: r) e H Q :=
  OWp.storeB hh hk0 hg ho hx hy szK_s (by decide) rfl (show 1 + 1 ≤ 3 by omega) rfl rfl hk
theorem OWp.loadPR_2 {x : Operand} {k i : Nat} {m : PR} (hh : Has H0 H l) (hk0 : l[k]? = some (i, m.O)) (hg : guardA ops o e = some true) (ho : o.op = .load 4 x) (hx : rho e x = .pointer (some ⟨i, 2, none⟩))
    (hk : OWp Tryz.prog prims ops r e' H Q) (he : putE e o.dst (.bool m.alone) = e' := by simp only [putE, rho, List.set_cons_zero, List.set_cons_succ, List.getD_cons_zero, List.getD_cons_succ]; exact rfl) : OWp Tryz.prog prims ops (o :: r) e H Q :=
  OWp.loadB hh hk0 hg ho hx Tryz.underlying4 rfl rfl hk he
theorem OWp.storePR_2 {x y : Operand} {k i : Nat} {m : PR} {w : Bool} (hh : Has H0 H l) (hk0 : l[k]? = some (i, m.O)) (hg : guardA ops o e = some true) (ho : o.op = .store 4 x y) (hx : rho e x = .pointer (some ⟨i, 2, none⟩)) (hy : rho e y = .bool w)
    (hk : ∀ H1, Has H0 H1 (l.set k (i, PR.O ⟨m.key, m.text, w⟩)) → OWp Tryz.prog prims ops r (putE e o.dst undef) H1 Q) : OWp Tryz.prog prims ops (o :: r) e H Q :=
  OWp.storeB hh hk0 hg ho hx hy szK_b (by decide) rfl (show 2 + 1 ≤ 3 by omega) rfl rfl hk
end
theorem RetQ.cellPR2 {fn : Func} {Q : Value → AH → Prop} {st : St} {a b : Tmp} {k i : Nat} {e : List Value} {H H0 : AH} {l : List (Nat × Obj)} {m : PR} {y : Value} (hst : st = .nx ∨ st = .rt) (hr : fn.results = #[.cell a 46, .tmp b]) (hx : e.getD a undef = .pointer (some ⟨i, 0, none⟩)) (hh : Has H0 H l) (hk0 : l[k]? = some (i, m.O))
    (hy : e.getD b undef = y) (ny : noTuple y = true) (h : Q (.tuple #[m.v, y]) H) : RetQ Tryz.prog fn Q st e H :=
  RetQ.cellTwo hst hr hx hh hk0 Tryz.underlying46 rfl szPR (Nat.le_refl 3) hy ny (by have := allPR m; rw [Nat.zero_add] at this; rw [this]; exact h)
theorem RetQ.cellPR3 {fn : Func} {Q : Value → AH → Prop} {st : St} {a b c : Tmp} {k i : Nat} {e : List Value} {H H0 : AH} {l : List (Nat × Obj)} {m : PR} {y z : Value} (hst : st = .nx ∨ st = .rt) (hr : fn.results = #[.cell a 46, .tmp b, .tmp c]) (hx : e.getD a undef = .pointer (some ⟨i, 0, none⟩)) (hh : Has H0 H l) (hk0 : l[k]? = some (i, m.O))
    (hy : e.getD b undef = y) (ny : noTuple y = true) (hz : e.getD c undef = z) (nz : noTuple z = true) (h : Q (.tuple #[m.v, y, z]) H) : RetQ Tryz.prog fn Q st e H :=
  RetQ.cellThree hst hr hx hh hk0 Tryz.underlying46 rfl szPR (Nat.le_refl 3) hy ny hz nz (by have := allPR m; rw [Nat.zero_add] at this; rw [this]; exact h)
end Go.Proofs.YtnlkgnoogcakjaaGreatDoor.Ev
