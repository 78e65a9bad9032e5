/-
  The evaluator at values that stand for any: structs in blocks of one's own.
-/
import Derived.Test.YtofigleaealbjaaGreatDoorEvSymX
namespace Go.Proofs.YtofigleaealbjaaGreatDoor.Ev
set_option linter.unusedVariables false
set_option linter.unusedSimpArgs false
open Go
section
variable {P : Program} {prims : Prims} {ops : Array Oper} {o : Oper} {r : List Oper} {e e' : List Value} {H H0 H1 H2 : AH} {Q : List Value → AH → Prop} {l : List (Nat × Obj)}

/-- Blocks of one's own above an older heap. -/
structure Has (H0 H : AH) (l : List (Nat × Obj)) : Prop where
  wf0 : WfH H0
  keep : Keeps H0 H
  own : ∀ x, x ∈ l → H0.next ≤ x.1 ∧ Own H x.1 x.2 true
  nod : (l.map Prod.fst).Nodup
theorem Has.start (hw : WfH H) : Has H H [] := ⟨hw, Keeps.refl hw, fun x hx => (by simp at hx), by simp⟩
theorem Has.wf (h : Has H0 H l) : WfH H := h.keep.wf
theorem Has.after (h : Has H0 H l) (k : Keeps H H1) : Has H0 H1 l := ⟨h.wf0, h.keep.trans k h.wf0, fun x hx => ⟨(h.own x hx).1, (h.own x hx).2.keep h.wf k⟩, h.nod⟩
theorem Has.get {k : Nat} {i : Nat} {ob : Obj} (h : Has H0 H l) (hk : l[k]? = some (i, ob)) : H0.next ≤ i ∧ Own H i ob true := h.own _ (List.mem_of_getElem? hk)
theorem Has.add {ob : Obj} (h : Has H0 H l) (ho : shapeSame ob ob) : Has H0 (H.alloc ob true) ((H.next, ob) :: l) := by
  have k := Keeps.alloc (ex := true) h.wf ho
  refine ⟨h.wf0, h.keep.trans k h.wf0, fun x hx => ?_, ?_⟩
  · rcases List.mem_cons.1 hx with rfl | hx
    · exact ⟨h.keep.next, Own.alloc h.wf⟩
    · exact ⟨(h.own x hx).1, (h.own x hx).2.keep h.wf k⟩
  · simp only [List.map_cons, List.nodup_cons]
    refine ⟨fun hm => ?_, h.nod⟩
    obtain ⟨x, hx, e⟩ := List.mem_map.1 hm
    have := (h.own x hx).2.lt h.wf
    omega
theorem map_set_fst : ∀ (l : List (Nat × Obj)) (k i : Nat) (ob ob' : Obj), l[k]? = some (i, ob) → (l.set k (i, ob')).map Prod.fst = l.map Prod.fst
  | [], k, i, ob, ob', h => by simp at h
  | x :: l, 0, i, ob, ob', h => by simp at h; subst h; rfl
  | x :: l, k + 1, i, ob, ob', h => by simp only [List.set_cons_succ, List.map_cons]; rw [map_set_fst l k i ob ob' (by simpa using h)]
theorem Has.put {k : Nat} {i v : Nat} {ob ob' : Obj} (h : Has H0 H l) (hk : l[k]? = some (i, ob)) (hb : H.blk i = some ⟨ob, i, true, v⟩) (hg : H.grp i = (i, i)) (ho : shapeSame ob' ob') : Has H0 (H.put i ⟨ob, i, true, v⟩ ob') (l.set k (i, ob')) := by
  obtain ⟨h1, h2⟩ := h.get hk
  refine ⟨h.wf0, Own.keepPut h.keep h.wf0 h1 hb hg ho, fun x hx => ?_, by rw [map_set_fst l k i ob ob' hk]; exact h.nod⟩
  obtain ⟨j, hj⟩ := List.getElem?_of_mem hx
  rw [List.getElem?_set] at hj
  split at hj
  · split at hj
    · cases hj; exact ⟨h1, h2.put v⟩
    · cases hj
  · rename_i hne
    have hm := List.mem_of_getElem? hj
    refine ⟨(h.own x hm).1, (h.own x hm).2.other ?_⟩
    intro e
    have hlt := (List.getElem?_eq_some_iff.1 hk).1
    have hlt2 := (List.getElem?_eq_some_iff.1 hj).1
    have e1 : (l.map Prod.fst)[k]? = some i := by rw [List.getElem?_map, hk]; rfl
    have e2 : (l.map Prod.fst)[j]? = some i := by rw [List.getElem?_map, hj]; simp [e]
    have hn := h.nod
    have hp := List.pairwise_iff_getElem.1 hn
    have hlk : k < (l.map Prod.fst).length := by simpa using hlt
    have hlj : j < (l.map Prod.fst).length := by simpa using hlt2
    rw [List.getElem?_eq_getElem hlk] at e1
    rw [List.getElem?_eq_getElem hlj] at e2
    have e3 := Option.some.inj (e1.trans e2.symm)
    rcases Nat.lt_or_ge k j with q | q
    · exact hp k j hlk hlj q e3
    · exact hp j k hlj hlk (by omega) e3.symm
/-- The oldest are let go. -/
theorem Has.keeps (h : Has H0 H l) : Keeps H0 H := h.keep
theorem Has.drop {x : Nat × Obj} (h : Has H0 H (x :: l)) : Has H0 H l := ⟨h.wf0, h.keep, fun y hy => h.own y (by simp [hy]), (List.nodup_cons.1 h.nod).2⟩

theorem OWp.box {t : TypeId} {x : Operand} {v : Value} (hh : Has H0 H l) (hg : guardA ops o e = some true) (ho : o.op = .box t x) (hx : rho e x = v) (hc : v.cells.toList.all isCell = true)
    (hk : ∀ H1 i, Has H0 H1 ((i, .cells v.cells t (0, 0)) :: l) → OWp P prims ops r (putE e o.dst (.pointer (some ⟨i, 0, none⟩))) H1 Q) : OWp P prims ops (o :: r) e H Q := by
  refine OWp.step hg (fun call => ?_) rfl (hk _ _ (hh.add (ob := .cells v.cells t (0, 0)) ⟨rfl, rfl⟩))
  unfold evOp
  simp only [ho, hx, hc, cond_true]

theorem OWp.alloc {t : TypeId} {v : Value} (hh : Has H0 H l) (hg : guardA ops o e = some true) (ho : o.op = .alloc t) (hz : zeroT P t = some v)
    (hk : ∀ H1 i, Has H0 H1 ((i, .cells v.cells t (0, 0)) :: l) → OWp P prims ops r (putE e o.dst (.pointer (some ⟨i, 0, none⟩))) H1 Q) : OWp P prims ops (o :: r) e H Q := by
  refine OWp.step hg (fun call => ?_) rfl (hk _ _ (hh.add (ob := .cells v.cells t (0, 0)) ⟨rfl, rfl⟩))
  unfold evOp
  simp only [ho, hz]

theorem OWp.fieldA {s : TypeId} {x : Operand} {f i off : Nat} {fields : Array Field} {fl : Field} (hg : guardA ops o e = some true) (ho : o.op = .fieldAddr s x f) (ht : P.underlying s = some (.struct fields)) (hf : fields[f]? = some fl) (hs0 : szT P fl.type ≠ 0)
    (hx : rho e x = .pointer (some ⟨i, off, none⟩)) (hk : OWp P prims ops r e' H Q) (he : putE e o.dst (.pointer (some ⟨i, off + fl.offset, none⟩)) = e' := by simp only [putE, rho, List.set_cons_zero, List.set_cons_succ, List.getD_cons_zero, List.getD_cons_succ]; exact rfl) : OWp P prims ops (o :: r) e H Q := by
  refine OWp.step hg (fun call => ?_) he hk
  have hs : Nat.beq (szT P fl.type) 0 = false := Bool.eq_false_iff.2 fun h => hs0 (Nat.eq_of_beq_eq_true h)
  have ha : (⟨i, off, none⟩ : Addr).add fl.offset = ⟨i, off + fl.offset, none⟩ := add_none rfl _
  unfold evOp
  simp only [ho, hx, fieldAddrA, ht, hf, hs, cond_false, ha, Option.map_some]

/-- A load of one cell. -/
theorem OWp.loadB {t t' : TypeId} {x : Operand} {k i off : Nat} {C : Array Value} {v : Value} {d : TypeDesc} (hh : Has H0 H l) (hk0 : l[k]? = some (i, .cells C t' (0, 0))) (hg : guardA ops o e = some true) (ho : o.op = .load t x) (hx : rho e x = .pointer (some ⟨i, off, none⟩)) (ht : P.underlying t = some d) (hd : isAggD d = false)
    (hv : C[off]? = some v) (hk : OWp P prims ops r e' H Q) (he : putE e o.dst v = e' := by simp only [putE, rho, List.set_cons_zero, List.set_cons_succ, List.getD_cons_zero, List.getD_cons_succ]; exact rfl) : OWp P prims ops (o :: r) e H Q := by
  refine OWp.step hg (fun call => ?_) he hk
  have hc := (hh.get hk0).2.cells
  have : loadA P H t ⟨i, off, none⟩ = some v := by
    unfold loadA
    simp only [hc, ht]
    cases d <;> simp [isAggD] at hd <;> simp only [hv]
  unfold evOp
  simp only [ho, hx, this, Option.map_some]
theorem load_agg {t t' : TypeId} {k i off : Nat} {C : Array Value} {d : TypeDesc} (hh : Has H0 H l) (hk0 : l[k]? = some (i, .cells C t' (0, 0))) (ht : P.underlying t = some d) (hd : isAggD d = true)
    (hs : off + szT P t ≤ C.size) : loadA P H t ⟨i, off, none⟩ = some (.agg (C.extract off (off + szT P t))) := by
  have hc := (hh.get hk0).2.cells
  unfold loadA
  simp only [hc, ht]
  cases d <;> simp [isAggD] at hd <;> simp only [if_pos hs]
/-- A load of a struct. -/
theorem OWp.loadG {t t' : TypeId} {x : Operand} {k i off n : Nat} {C D : Array Value} {d : TypeDesc} (hh : Has H0 H l) (hk0 : l[k]? = some (i, .cells C t' (0, 0))) (hg : guardA ops o e = some true) (ho : o.op = .load t x) (hx : rho e x = .pointer (some ⟨i, off, none⟩)) (ht : P.underlying t = some d) (hd : isAggD d = true)
    (hn : szT P t = n) (hs : off + n ≤ C.size) (hD : C.extract off (off + n) = D) (hk : OWp P prims ops r e' H Q) (he : putE e o.dst (.agg D) = e' := by simp only [putE, rho, List.set_cons_zero, List.set_cons_succ, List.getD_cons_zero, List.getD_cons_succ]; exact rfl) : OWp P prims ops (o :: r) e H Q := by
  subst hn hD
  refine OWp.step hg (fun call => ?_) he hk
  unfold evOp
  simp only [ho, hx, load_agg hh hk0 ht hd hs, Option.map_some]
/-- A store. -/
theorem OWp.storeB {t t' : TypeId} {x y : Operand} {k i off n : Nat} {C C' : Array Value} {v : Value} (hh : Has H0 H l) (hk0 : l[k]? = some (i, .cells C t' (0, 0))) (hg : guardA ops o e = some true) (ho : o.op = .store t x y) (hx : rho e x = .pointer (some ⟨i, off, none⟩)) (hy : rho e y = v)
    (hn : szT P t = n) (hn0 : n ≠ 0) (hvn : v.cells.size = n) (hs : off + n ≤ C.size) (hc : v.cells.toList.all isCell = true) (hC : writeCells C off v.cells.toList = C')
    (hk : ∀ H1, Has H0 H1 (l.set k (i, .cells C' t' (0, 0))) → OWp P prims ops r (putE e o.dst undef) H1 Q) : OWp P prims ops (o :: r) e H Q := by
  obtain ⟨h1, ver, h2, h3⟩ := hh.get hk0
  obtain ⟨info, hi⟩ := sz_info (P := P) (e := t) (by omega)
  have hsz : info.size = n := by unfold szT at hn; rw [hi] at hn; exact hn
  refine OWp.step hg (fun call => ?_) rfl (hk _ (hh.put (ob' := .cells C' t' (0, 0)) hk0 h2 h3 ⟨rfl, rfl⟩))
  have hl : H.live i ⟨.cells C t' (0, 0), i, true, ver⟩ = true := live_iff.2 (by rw [h3]; exact Nat.le_refl _)
  have htp : H.tip i ⟨.cells C t' (0, 0), i, true, ver⟩ = true := tip_iff.2 (by rw [h3])
  have hst : storeA P H t ⟨i, off, none⟩ v = some (H.put i ⟨.cells C t' (0, 0), i, true, ver⟩ (.cells C' t' (0, 0))) := by
    unfold storeA
    simp only [h2, hl, htp, hi, Option.map_some, hsz, hvn, hc, hC, Bool.true_and, Bool.and_true]
    rw [if_pos]
    simp
    exact hs
  unfold evOp
  simp only [ho, hx, hy, hst, Option.map_some]

theorem pr_map {α β : Type} (x : Sem α) (f : α → β) : pureRun P (f <$> x) = (pureRun P x).map f := by
  show pureRun P (x.bind fun a => Sem.pure (f a)) = _
  rw [show (x.bind fun a => Sem.pure (f a)) = (x >>= fun a => pure (f a)) from rfl, pr_bind]
  cases pureRun P x <;> rfl
theorem eq_bool {t : TypeId} {a b : Bool} (ht : P.underlying t = some .bool) : pureRun P (Op.equal t (.bool a) (.bool b)) = some (a == b) := by
  unfold Op.equal Op.maxDepth
  rw [Op.equalIn]
  simp only [pr_bind, pr_underlying ht, Option.bind_some, pr_pure]
theorem OWp.eqlB {t t' : TypeId} {x y : Operand} {a b : Bool} (hg : guardA ops o e = some true) (ho : o.op = .binOp .eql t x y t') (ht : P.underlying t = some .bool) (hx : rho e x = .bool a) (hy : rho e y = .bool b)
    (hk : OWp P prims ops r e' H Q) (he : putE e o.dst (.bool (decide (a = b))) = e' := by simp only [putE, rho, List.set_cons_zero, List.set_cons_succ, List.getD_cons_zero, List.getD_cons_succ]; exact rfl) : OWp P prims ops (o :: r) e H Q := by
  have hab : (a == b) = decide (a = b) := by cases a <;> cases b <;> rfl
  rw [← hab] at he
  refine OWp.step hg (fun call => ?_) he hk
  have hf : flatOp P o (rho e) = some (.bool (a == b)) := by
    refine flat_op (by rw [ho]; simp [Op.operands, hx, hy, flatB, flat2, flat1, atomB]) ?_ rfl
    unfold execOp
    rw [ho]
    simp only [hx, hy, eqGuard, Go.binOp]
    simp [pr_bind, pr_pure, pr_map, eq_bool ht]
  unfold evOp
  simp only [ho, hx, eqA_bool, hf, Option.map_some]
theorem OWp.neqB {t t' : TypeId} {x y : Operand} {a b : Bool} (hg : guardA ops o e = some true) (ho : o.op = .binOp .neq t x y t') (ht : P.underlying t = some .bool) (hx : rho e x = .bool a) (hy : rho e y = .bool b)
    (hk : OWp P prims ops r e' H Q) (he : putE e o.dst (.bool (decide (¬ a = b))) = e' := by simp only [putE, rho, List.set_cons_zero, List.set_cons_succ, List.getD_cons_zero, List.getD_cons_succ]; exact rfl) : OWp P prims ops (o :: r) e H Q := by
  have hab : (!(a == b)) = decide (¬ a = b) := by cases a <;> cases b <;> rfl
  rw [← hab] at he
  refine OWp.step hg (fun call => ?_) he hk
  have hf : flatOp P o (rho e) = some (.bool (!(a == b))) := by
    refine flat_op (by rw [ho]; simp [Op.operands, hx, hy, flatB, flat2, flat1, atomB]) ?_ rfl
    unfold execOp
    rw [ho]
    simp only [hx, hy, eqGuard, Go.binOp]
    simp [pr_bind, pr_pure, pr_map, eq_bool ht]
  unfold evOp
  simp only [ho, hx, eqA_bool, hf, Option.map_some]
theorem OWp.mulI {t t' : TypeId} {x y : Operand} {a b : Int} (hg : guardA ops o e = some true) (ho : o.op = .binOp .mul t x y t') (hx : rho e x = .int .i64 a) (hy : rho e y = .int .i64 b)
    (hr : -9223372036854775808 ≤ a * b ∧ a * b ≤ 9223372036854775807) (hk : OWp P prims ops r e' H Q) (he : putE e o.dst (.int .i64 (a * b)) = e' := by simp only [putE, rho, List.set_cons_zero, List.set_cons_succ, List.getD_cons_zero, List.getD_cons_succ]; exact rfl) : OWp P prims ops (o :: r) e H Q :=
  OWp.binI hg ho hx hy rfl hk (by rw [wrap_id hr]; exact he)
theorem OWp.subU {t t' : TypeId} {x y : Operand} {a b : Int} (hg : guardA ops o e = some true) (ho : o.op = .binOp .sub t x y t') (hx : rho e x = .int .u8 a) (hy : rho e y = .int .u8 b)
    (hr : 0 ≤ a - b ∧ a - b < 256) (hk : OWp P prims ops r e' H Q) (he : putE e o.dst (.int .u8 (a - b)) = e' := by simp only [putE, rho, List.set_cons_zero, List.set_cons_succ, List.getD_cons_zero, List.getD_cons_succ]; exact rfl) : OWp P prims ops (o :: r) e H Q :=
  OWp.binI hg ho hx hy rfl hk (by rw [wrap_u8 hr]; exact he)
theorem mask_small (a b : Int) (hb : 0 ≤ b ∧ b ≤ 1000000000000) : ∃ c : Nat, (c : Int) ≤ b ∧ IntKind.i64.wrap ((BitVec.ofInt IntKind.i64.bits a &&& BitVec.ofInt IntKind.i64.bits b).toNat : Int) = c := by
  obtain ⟨b, rfl⟩ := Int.eq_ofNat_of_zero_le hb.1
  have hb2 := hb.2
  have hle : (BitVec.ofInt IntKind.i64.bits a &&& BitVec.ofInt IntKind.i64.bits (b : Int)).toNat ≤ b := by
    rw [BitVec.toNat_and, BitVec.ofInt_natCast, BitVec.toNat_ofNat]
    exact Nat.le_trans Nat.and_le_right (Nat.mod_le _ _)
  refine ⟨_, Int.ofNat_le.2 hle, ?_⟩
  generalize (BitVec.ofInt IntKind.i64.bits a &&& BitVec.ofInt IntKind.i64.bits (b : Int)).toNat = c at hle ⊢
  rw [IntKind.wrap_i64]; omega
/-- What is masked is no larger than its mask. -/
theorem OWp.andM {t t' : TypeId} {x y : Operand} {a b : Int} (hg : guardA ops o e = some true) (ho : o.op = .binOp .and t x y t') (hx : rho e x = .int .i64 a) (hy : rho e y = .int .i64 b) (hb : 0 ≤ b ∧ b ≤ 1000000000000)
    (h : ∀ c : Nat, (c : Int) ≤ b → OWp P prims ops r (putE e o.dst (.int .i64 c)) H Q) : OWp P prims ops (o :: r) e H Q := by
  obtain ⟨c, hc, hw⟩ := mask_small a b hb
  refine OWp.step hg (fun call => ?_) rfl (h c hc)
  have hf : flatOp P o (rho e) = some (.int .i64 c) := by
    refine flat_op (by rw [ho]; simp [Op.operands, hx, hy, flatB, flat2, flat1, atomB]) ?_ rfl
    unfold execOp
    rw [ho]
    rw [← hw]
    simp [hx, hy, eqGuard, Go.binOp, Op.intBits]
    rfl
  unfold evOp
  simp only [ho, hx, hy, eqA_int, hf, Option.map_some]
theorem built_ok {t : TypeId} {ps : Array (Nat × Operand)} {ρ : Operand → Value} {v : Value} (hb : buildA P t (ps.toList.map fun p => (p.1, ρ p.2)) = some v) (call : CallA) (ho : o.op = .build t ps) : evOp P call o ρ H = some (v, H) := by
  unfold evOp
  simp only [ho, hb, Option.map_some]
theorem OWp.build {t : TypeId} {ps : Array (Nat × Operand)} {v : Value} {parts : List (Nat × Value)} (hg : guardA ops o e = some true) (ho : o.op = .build t ps) (hp : ps.toList.map (fun p => (p.1, rho e p.2)) = parts) (hb : buildA P t parts = some v)
    (hk : OWp P prims ops r e' H Q) (he : putE e o.dst v = e' := by simp only [putE, rho, List.set_cons_zero, List.set_cons_succ, List.getD_cons_zero, List.getD_cons_succ]; exact rfl) : OWp P prims ops (o :: r) e H Q :=
  OWp.step hg (fun call => built_ok (by rw [hp]; exact hb) call ho) he hk
end
section
variable {P : Program} {H H0 : AH} {l : List (Nat × Obj)} {e : List Value}
/-- Loads of a drawn region look at what is as it was. -/
def loadsOf (ops : Array Oper) (e : List Value) : List Value := ops.toList.filterMap fun o => match o.op with | .load _ x => some (rho e x) | _ => none
theorem still_all {ops : Array Oper} {L : List Value} {H H' : AH} (hL : loadsOf ops e = L) (h : L.all (stillB H H') = true) : stillAll ops e H H' = true := by
  subst hL
  unfold stillAll loadsOf at *
  rw [List.all_eq_true] at *
  intro o ho
  split
  · rename_i t x hop
    exact h _ (List.mem_filterMap.2 ⟨o, ho, by simp only [hop]⟩)
  · rfl
theorem still_has {H1 : AH} {k i off : Nat} {ob : Obj} (hh : Has H0 H l) (hk0 : l[k]? = some (i, ob)) (hK : Keeps H H1) : stillB H H1 (.pointer (some ⟨i, off, none⟩)) = true := by
  obtain ⟨h1, ver, h2, h3⟩ := hh.get hk0
  have h4 := hK.blk i (hh.wf.lt _ _ h2).1
  have h5 := hK.grp i _ h2
  simp only [stillB, h2, h4]
  rw [Bool.and_eq_true]
  exact ⟨by simp, live_iff.2 (by rw [h5]; show (H.grp i).2 ≤ i; rw [h3]; exact Nat.le_refl _)⟩
theorem RetQ.cellTwo {fn : Func} {Q : Value → AH → Prop} {st : St} {a b : Tmp} {t t' : TypeId} {k i n : Nat} {C : Array Value} {d : TypeDesc} {y : Value} (hst : st = .nx ∨ st = .rt) (hr : fn.results = #[.cell a t, .tmp b]) (hx : e.getD a undef = .pointer (some ⟨i, 0, none⟩)) (hh : Has H0 H l) (hk0 : l[k]? = some (i, .cells C t' (0, 0)))
    (ht : P.underlying t = some d) (hd : isAggD d = true) (hn : szT P t = n) (hs : n ≤ C.size) (hy : e.getD b undef = y) (ny : noTuple y = true) (h : Q (.tuple #[.agg (C.extract 0 n), y]) H) : RetQ P fn Q st e H := by
  subst hn
  refine ⟨hst, _, ?_, h⟩
  have := load_agg (off := 0) hh hk0 ht hd (by omega)
  rw [Nat.zero_add] at this
  subst hy
  simp only [List.getD_eq_getElem?_getD] at hx ny
  simp [resultsA, hr, resA, hx, this, ny, show ∀ c, noTuple (Value.agg c) = true from fun _ => rfl]
end
end Go.Proofs.YtofigleaealbjaaGreatDoor.Ev
