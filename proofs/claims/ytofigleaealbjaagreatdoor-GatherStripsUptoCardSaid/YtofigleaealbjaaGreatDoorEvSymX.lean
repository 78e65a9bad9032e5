/-
  The evaluator at values that stand for any: masks, quotients, rows that are only looked at, one more cell.
-/
import Derived.Test.YtofigleaealbjaaGreatDoorEvSymSl
namespace Go.Proofs.YtofigleaealbjaaGreatDoor.Ev
set_option linter.unusedVariables false
set_option linter.unusedSimpArgs false
open Go
section
variable {P : Program} {prims : Prims} {ops : Array Oper} {o : Oper} {r : List Oper} {e e' : List Value} {H H0 H1 H2 : AH} {Q : List Value → AH → Prop}

theorem and_small (k : IntKind) (hk : k = .u8 ∨ k = .i64) (a b : Int) (hb : 0 ≤ b ∧ b ≤ 127) :
    ∃ c : Nat, (c : Int) ≤ b ∧ k.wrap ((BitVec.ofInt k.bits a &&& BitVec.ofInt k.bits b).toNat : Int) = c := by
  obtain ⟨b, rfl⟩ := Int.eq_ofNat_of_zero_le hb.1
  have hb2 := hb.2
  have hle : (BitVec.ofInt k.bits a &&& BitVec.ofInt k.bits (b : Int)).toNat ≤ b := by
    rw [BitVec.toNat_and, BitVec.ofInt_natCast, BitVec.toNat_ofNat]
    exact Nat.le_trans Nat.and_le_right (Nat.mod_le _ _)
  refine ⟨_, Int.ofNat_le.2 hle, ?_⟩
  generalize (BitVec.ofInt k.bits a &&& BitVec.ofInt k.bits (b : Int)).toNat = c at hle ⊢
  rcases hk with rfl | rfl
  · rw [IntKind.wrap_u8]; omega
  · rw [IntKind.wrap_i64]; omega

/-- What is masked by a small number is small. -/
theorem OWp.andR {t t' : TypeId} {x y : Operand} {k : IntKind} {a b : Int} (hg : guardA ops o e = some true) (ho : o.op = .binOp .and t x y t') (hx : rho e x = .int k a) (hy : rho e y = .int k b) (hk : k = .u8 ∨ k = .i64) (hb : 0 ≤ b ∧ b ≤ 127)
    (h : ∀ c : Nat, (c : Int) ≤ b → OWp P prims ops r (putE e o.dst (.int k c)) H Q) : OWp P prims ops (o :: r) e H Q := by
  obtain ⟨c, hc, hw⟩ := and_small k hk a b hb
  refine OWp.step hg (fun call => ?_) rfl (h c hc)
  have hf : flatOp P o (rho e) = some (.int k c) := by
    refine flat_op (by rw [ho]; simp [Op.operands, hx, hy, flatB, flat2, flat1, atomB]) ?_ rfl
    unfold execOp
    rw [ho]
    rw [← hw]
    simp [hx, hy, eqGuard, Go.binOp, Op.intBits]
    rfl
  unfold evOp
  simp only [ho, hx, hy, eqA_int, hf, Option.map_some]

theorem OWp.quoI {t t' : TypeId} {x y : Operand} {a b : Int} (hg : guardA ops o e = some true) (ho : o.op = .binOp .quo t x y t') (hx : rho e x = .int .i64 a) (hy : rho e y = .int .i64 b)
    (hr : 0 ≤ a ∧ a ≤ 9223372036854775807 ∧ 0 < b) (hk : OWp P prims ops r e' H Q) (he : putE e o.dst (.int .i64 (a / b)) = e' := by simp only [putE, rho, List.set_cons_zero, List.set_cons_succ, List.getD_cons_zero, List.getD_cons_succ]; exact rfl) : OWp P prims ops (o :: r) e H Q := by
  refine OWp.step hg (fun call => ?_) he hk
  have hm : a.tdiv b = a / b := Int.tdiv_eq_ediv_of_nonneg hr.1
  have hw : IntKind.i64.wrap (a / b) = a / b := wrap_id (by
    have h1 : 0 ≤ a / b := Int.ediv_nonneg hr.1 (by omega)
    have h2 : a / b ≤ a := Int.ediv_le_self b hr.1
    omega)
  have hf : flatOp P o (rho e) = some (.int .i64 (a / b)) := by
    refine flat_op (by rw [ho]; simp [Op.operands, hx, hy, flatB, flat2, flat1, atomB]) ?_ rfl
    unfold execOp
    rw [ho]
    have hb : ¬ b = 0 := by omega
    simp [hx, hy, eqGuard, Go.binOp, Op.intDiv, hb, hm, hw]; rfl
  unfold evOp
  simp only [ho, hx, hy, eqA_int, hf, Option.map_some]

theorem OWp.remK {t t' : TypeId} {x y : Operand} {k : IntKind} {a b : Int} (hg : guardA ops o e = some true) (ho : o.op = .binOp .rem t x y t') (hx : rho e x = .int k a) (hy : rho e y = .int k b)
    (hb : b ≠ 0) (hk : OWp P prims ops r e' H Q) (he : putE e o.dst (.int k (a.tmod b)) = e' := by simp only [putE, rho, List.set_cons_zero, List.set_cons_succ, List.getD_cons_zero, List.getD_cons_succ]; exact rfl) : OWp P prims ops (o :: r) e H Q := by
  refine OWp.step hg (fun call => ?_) he hk
  have hf : flatOp P o (rho e) = some (.int k (a.tmod b)) := by
    refine flat_op (by rw [ho]; simp [Op.operands, hx, hy, flatB, flat2, flat1, atomB]) ?_ rfl
    unfold execOp
    rw [ho]
    simp [hx, hy, eqGuard, Go.binOp, Op.intDiv, hb]; rfl
  unfold evOp
  simp only [ho, hx, hy, eqA_int, hf, Option.map_some]

/-- A rune as a text. -/
theorem OWp.convStr {src dst : TypeId} {x : Operand} {k k2 : IntKind} {n : Int} (hg : guardA ops o e = some true) (ho : o.op = .convert src dst x) (hs : P.underlying src = some (.int k)) (hd : P.underlying dst = some .string) (hx : rho e x = .int k2 n)
    (hk : OWp P prims ops r e' H Q) (he : putE e o.dst (.string (Utf8.encode n)) = e' := by simp only [putE, rho, List.set_cons_zero, List.set_cons_succ, List.getD_cons_zero, List.getD_cons_succ]; exact rfl) : OWp P prims ops (o :: r) e H Q := by
  refine OWp.step hg (fun call => ?_) he hk
  have hf : flatOp P o (rho e) = some (.string (Utf8.encode n)) := by
    refine flat_op (by rw [ho]; simp [Op.operands, hx, flatB, flat2, flat1, atomB]) ?_ rfl
    unfold execOp
    rw [ho]
    simp only [hx, convert, pr_bind, pr_pure, Option.bind_some, pr_underlying hs, pr_underlying hd, Conv.intToString]
  unfold evOp
  simp only [ho, hx, convertA_int hs, hf, Option.map_some]

/-! ### A text as a row of bytes -/
def byteV (s : ByteArray) : List Value := (s.data.map fun b => Value.int .u8 (b.toNat : Int)).toList
theorem byteV_length (s : ByteArray) : (byteV s).length = s.size := by
  show ((s.data.map fun b => Value.int .u8 (b.toNat : Int)).toList).length = s.data.size
  simp
theorem byteV_get (s : ByteArray) (j : Nat) (h : j < s.size) : (byteV s)[j]? = some (.int .u8 (byteAt s (j : Nat))) := by
  have h2 : j < s.data.size := h
  have e : byteAt s (j : Nat) = ((s.data[j]'h2).toNat : Int) := by
    show ((s.data[j]?.getD 0).toNat : Int) = _
    rw [Array.getElem?_eq_getElem h2]; rfl
  rw [e]
  show (s.data.map fun b => Value.int .u8 (b.toNat : Int)).toList[j]? = _
  rw [Array.getElem?_toList, Array.getElem?_map, Array.getElem?_eq_getElem h2]
  rfl
theorem OWp.convBytes {src dst te : TypeId} {x : Operand} {s : ByteArray} (hw : WfH H) (hg : guardA ops o e = some true) (ho : o.op = .convert src dst x) (hs : P.underlying src = some .string) (hd : P.underlying dst = some (.slice te)) (ht : P.underlying te = some (.int .u8)) (hs1 : szT P te = 1) (hx : rho e x = .string s)
    (hk : ∀ H1 i, WfH H1 → Keeps H H1 → H.next ≤ i → Row H1 (some ⟨i, 0, none⟩) (byteV s) → OWp P prims ops r (putE e o.dst (.slice (some ⟨i, 0, none⟩) s.size s.size)) H1 Q) : OWp P prims ops (o :: r) e H Q := by
  have sh : shapeSame (.cells (s.data.map fun b => Value.int .u8 (b.toNat : Int)) te (s.size, s.size + 1)) (.cells (s.data.map fun b => Value.int .u8 (b.toNat : Int)) te (s.size, s.size + 1)) := ⟨rfl, rfl⟩
  refine OWp.step hg (fun call => ?_) rfl (hk (H.alloc (.cells (s.data.map fun b => Value.int .u8 (b.toNat : Int)) te (s.size, s.size + 1)) false) H.next (hw.alloc sh) (Keeps.alloc hw sh) (Nat.le_refl _) (Own.alloc hw).row)
  unfold evOp
  simp only [ho, hx, convertA, hs, hd, ht, hs1]

/-! ### Rows that are only looked at -/
def View (H : AH) (v : Value) (l : List Value) : Prop := ∃ p c, v = .slice p l.length c ∧ (l = [] ∨ Row H p l)

theorem View.sees {v : Value} {l : List Value} (s : Sees H H1) (h : View H v l) : View H1 v l := by
  obtain ⟨p, c, h1, h2⟩ := h
  exact ⟨p, c, h1, h2.imp id (·.sees s)⟩
theorem Row.view {p : Option Addr} {c : Nat} {l : List Value} (h : Row H p l) : View H (.slice p l.length c) l := ⟨p, c, rfl, .inr h⟩
theorem Grow.view {B : Nat} {v : Value} {t : TypeId} {l : List Value} (h : Grow B H v t l) : View H v l := by
  obtain ⟨p, h1, h2⟩ := h.row
  exact ⟨p, _, h1, .inr h2⟩
end
/-- What stands in the slots that nobody asks for. -/
theorem ex_env {e : List Value} {M : (Nat → Value) → List Value} {R : Prop} (h : e = M fun k => e.getD k undef) (r : R) : ∃ g : Nat → Value, e = M g ∧ R := ⟨_, h, r⟩
section
variable {P : Program} {prims : Prims} {e : List Value} {H : AH} {Q : St → List Value → AH → Prop}
def CutQ (M : List Value → AH → Prop) (Q : St → List Value → AH → Prop) : St → List Value → AH → Prop
  | .nx, e, H => M e H
  | st, e, H => Q st e H
/-- What is known where two ways come together again. -/
theorem CWp.cut {a b : Code} (M : List Value → AH → Prop) (h1 : CWp P prims a e H (CutQ M Q)) (h2 : ∀ e' H', M e' H' → CWp P prims b e' H' Q) : CWp P prims (.seq a b) e H Q :=
  CWp.seq (h1.mono fun st e' H' h => match st, h with
    | .nx, h => h2 _ _ h
    | .ex _, h => h
    | .rt, h => h)
end
end Go.Proofs.YtofigleaealbjaaGreatDoor.Ev
