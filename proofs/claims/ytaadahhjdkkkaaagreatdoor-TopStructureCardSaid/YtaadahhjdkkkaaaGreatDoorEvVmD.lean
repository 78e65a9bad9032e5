/-
  The machine's operations on values: operands, numbers, strings; each says what the evaluator says.
-/
import Derived.Test.YtaadahhjdkkkaaaGreatDoorEvVmD0
import Derived.Test.YtaadahhjdkkkaaaGreatDoorEvFast
namespace Go.Proofs.YtaadahhjdkkkaaaGreatDoor.Ev
set_option linter.unusedVariables false
set_option linter.unusedSimpArgs false
open Go

abbrev CallT := Nat → List FV → (FV → FH → Bool) → FH → Bool
structure BodyK (E : Type) where
  run : CallT → (FV → FH → Bool) → E → FH → Bool
def CallR (call : CallT) (ca : CallA) : Prop := ∀ f args k F H, HR F H → call f args k F = true → ∃ v F' H', ca f (FV.vals args) H = some (FV.val v, H') ∧ HR F' H' ∧ k v F' = true

section
variable {E : Type} {I : EnvI E} {n : Nat} {P : Program}
structure REv (I : EnvI E) (n : Nat) (t : E) (e : List Value) : Prop where
  len : e.length = n
  le : n ≤ I.size
  at_ : ∀ i, i < n → e[i]? = some (I.at_ t i).val

noncomputable def opdS (I : EnvI E) (n : Nat) (x : Operand) : GetK E :=
  match x with
  | .tmp i => Bool.rec (motive := fun _ => GetK E) ⟨fun _ => undefF⟩ (I.sg i) (Nat.blt i n)
  | .const v => Bool.rec (motive := fun _ => GetK E) ⟨fun _ => .oo junk⟩ (convR ⟨fun _ => .oo v⟩ (fun f => ⟨fun _ => f⟩) v) (flatB v)
  | .global _ => ⟨fun _ => .oo junk⟩
  | .func f => ⟨fun _ => .ff f []⟩
theorem opdS_ok {t : E} {e : List Value} (h : REv I n t e) (x : Operand) : ((opdS I n x).run t).val = rho e x := by
  cases x with
  | tmp i =>
    show ((Bool.rec (motive := fun _ => GetK E) ⟨fun _ => undefF⟩ (I.sg i) (Nat.blt i n) : GetK E).run t).val = e.getD i undef
    by_cases hi : i < n
    · rw [show Nat.blt i n = true by simpa using hi]
      show ((I.sg i).run t).val = _
      rw [I.g_ok i (Nat.lt_of_lt_of_le hi h.le), List.getD_eq_getElem?_getD, h.at_ i hi]; rfl
    · rw [show Nat.blt i n = false from Bool.eq_false_iff.2 (by simpa using hi), List.getD_eq_getElem?_getD, List.getElem?_eq_none (by rw [h.len]; exact Nat.le_of_not_lt hi)]; rfl
  | const v =>
    show ((Bool.rec (motive := fun _ => GetK E) ⟨fun _ => .oo junk⟩ (convR ⟨fun _ => .oo v⟩ (fun f => ⟨fun _ => f⟩) v) (flatB v) : GetK E).run t).val = (bif flatB v then v else junk)
    cases hv : flatB v with
    | false => rfl
    | true =>
      show ((convR ⟨fun _ => .oo v⟩ (fun f => ⟨fun _ => f⟩) v : GetK E).run t).val = v
      rcases convR_ok (⟨fun _ => .oo v⟩ : GetK E) (fun f => ⟨fun _ => f⟩) v with h2 | ⟨f, h1, h2⟩
      · rw [h2]; rfl
      · rw [h2]; exact h1
  | «global» g => rfl
  | func f => rfl
noncomputable def rhoV (I : EnvI E) (n : Nat) (t : E) (x : Operand) : Value := ((opdS I n x).run t).val
theorem rhoV_eq {t : E} {e : List Value} (h : REv I n t e) : rhoV I n t = rho e := funext fun x => opdS_ok h x

noncomputable def putS (I : EnvI E) (n : Nat) (d : Option Tmp) : PutK E :=
  match d with
  | none => ⟨fun k _ t => k t⟩
  | some d => Bool.rec (motive := fun _ => PutK E) ⟨fun k _ t => k t⟩ (I.sp d) (Nat.blt d n)
theorem putS_ok {t : E} {e : List Value} (h : REv I n t e) {d : Option Tmp} {k : E → Bool} {v : FV} (hk : (putS I n d).run k v t = true) : ∃ t', k t' = true ∧ REv I n t' (putE e d v.val) := by
  cases d with
  | none => exact ⟨t, hk, h⟩
  | some d =>
    have hk : (Bool.rec (motive := fun _ => PutK E) ⟨fun k _ t => k t⟩ (I.sp d) (Nat.blt d n) : PutK E).run k v t = true := hk
    by_cases hd : d < n
    · rw [show Nat.blt d n = true by simpa using hd] at hk
      obtain ⟨t', h1, h2⟩ := I.p_ok d (Nat.lt_of_lt_of_le hd h.le) k v t hk
      refine ⟨t', h1, by simp [putE, h.len], h.le, fun i hi => ?_⟩
      rw [h2 i (Nat.lt_of_lt_of_le hi h.le)]
      show (e.set d v.val)[i]? = _
      rw [List.getElem?_set]
      split
      · rename_i e1; subst e1; rw [if_pos rfl, if_pos (by rw [h.len]; exact hi)]
      · rename_i e1; rw [if_neg (fun e2 => e1 e2.symm)]; exact h.at_ i hi
    · rw [show Nat.blt d n = false from Bool.eq_false_iff.2 (by simpa using hd)] at hk
      refine ⟨t, hk, ?_⟩
      show REv I n t (e.set d v.val)
      rw [List.set_eq_of_length_le (by rw [h.len]; exact Nat.le_of_not_lt hd)]
      exact h

/-- What a body promises. -/
def BodyOk (I : EnvI E) (n : Nat) (P : Program) (o : Oper) (b : BodyK E) : Prop :=
  ∀ call ca t e F H k, CallR call ca → REv I n t e → HR F H → b.run call k t F = true → ∃ v F' H', evOp P ca o (rho e) H = some (FV.val v, H') ∧ HR F' H' ∧ k v F' = true
def BodyFlat (I : EnvI E) (n : Nat) (P : Program) (o : Oper) (b : BodyK E) : Prop :=
  ∀ call t e F k, REv I n t e → b.run call k t F = true → ∃ v : FV, (∀ ca H, HR F H → evOp P ca o (rho e) H = some (v.val, H)) ∧ k v F = true
theorem BodyFlat.ok {o : Oper} {b : BodyK E} (h : BodyFlat I n P o b) : BodyOk I n P o b := fun call ca t e F H k _ ht hr hb => by
  obtain ⟨v, h1, h2⟩ := h call t e F k ht hb
  exact ⟨v, F, H, h1 ca H hr, hr, h2⟩

/-! ### By hand of the model -/
noncomputable def optK (k : FV → Bool) (x : Option Value) : Bool := Option.rec (motive := fun _ => Bool) false (fun v => convK k v) x
theorem optK_ok {k : FV → Bool} {x : Option Value} (h : optK k x = true) : ∃ f : FV, x = some f.val ∧ k f = true := by
  cases x with
  | none => cases h
  | some v => obtain ⟨f, rfl, h2⟩ := convK_ok h; exact ⟨f, rfl, h2⟩
noncomputable def flatK (I : EnvI E) (n : Nat) (P : Program) (o : Oper) (k : FV → Bool) (t : E) : Bool := optK k (flatOp P o (rhoV I n t))
theorem flatK_ok {o : Oper} {k : FV → Bool} {t : E} {e : List Value} (h : REv I n t e) (hk : flatK I n P o k t = true) : ∃ f : FV, flatOp P o (rho e) = some f.val ∧ k f = true := by
  unfold flatK at hk
  rw [rhoV_eq h] at hk
  exact optK_ok hk

/-! ### Numbers -/
noncomputable def bK (k : FV → Bool) (b : Bool) : Bool := Bool.rec (motive := fun _ => Bool) (k (.bb false)) (k (.bb true)) b
theorem bK_eq (k : FV → Bool) (b : Bool) : bK k b = k (.bb b) := by cases b <;> rfl
abbrev NN := (FV → Bool) → Bool → Nat → Nat → Bool
noncomputable def nnK (k : FV → Bool) (z : Bool) (s : Nat) : Bool := iteK z (k (.nn s)) (Nat.ble s 9223372036854775807)
noncomputable def nnAdd : NN := fun k z a b => natK (nnK k z) (Nat.add a b)
noncomputable def nnMul : NN := fun k z a b => natK (nnK k z) (Nat.mul a b)
noncomputable def nnNg (k : FV → Bool) (z : Bool) (d : Nat) : Bool := iteK z (k (.ii .i64 (.negSucc d))) (Nat.ble d 9223372036854775807)
noncomputable def nnSub : NN := fun k z a b => iteK (natK (nnNg k z) (Nat.pred (Nat.sub b a))) (natK (nnK k z) (Nat.sub a b)) (Nat.ble b a)
noncomputable def nnLt : NN := fun k z a b => bK k (Nat.ble (Nat.succ a) b)
noncomputable def nnLe : NN := fun k z a b => bK k (Nat.ble a b)
noncomputable def nnGt : NN := fun k z a b => bK k (Nat.ble (Nat.succ b) a)
noncomputable def nnGe : NN := fun k z a b => bK k (Nat.ble b a)
noncomputable def nnEq : NN := fun k z a b => bK k (Nat.beq a b)
noncomputable def nnNe : NN := fun k z a b => Bool.rec (motive := fun _ => Bool) (k (.bb true)) (k (.bb false)) (Nat.beq a b)
noncomputable def nnNo : NN := fun k z a b => z
structure NNK where
  run : NN
noncomputable def nnS (op : BinOp) : NNK :=
  match op with
  | .add => ⟨fun k z a b => natK (nnK k z) (Nat.add a b)⟩
  | .sub => ⟨nnSub⟩
  | .mul => ⟨nnMul⟩
  | .eql => ⟨nnEq⟩
  | .neq => ⟨nnNe⟩
  | .lss => ⟨nnLt⟩
  | .leq => ⟨nnLe⟩
  | .gtr => ⟨nnGt⟩
  | .geq => ⟨nnGe⟩
  | _ => ⟨nnNo⟩
theorem nnK_ok {k : FV → Bool} {z : Bool} {s : Nat} {a : Int} (ha : a = (s : Int)) (h : nnK k z s = true) : (∃ v : FV, Value.int .i64 (IntKind.i64.wrap a) = v.val ∧ k v = true) ∨ z = true := by
  subst ha
  rcases iteK_ok h with ⟨_, h1⟩ | ⟨h1, h2⟩
  · exact .inr h1
  · have h1 := Nat.le_of_ble_eq_true h1
    exact .inl ⟨_, by rw [wrap_id (by omega)]; rfl, h2⟩
theorem nnS_ok {op : BinOp} {k : FV → Bool} {z : Bool} {a b : Nat} (h : (nnS op).run k z a b = true) : (∃ v : FV, Ev.binI op .i64 (a : Int) (b : Int) = some v.val ∧ k v = true) ∨ z = true := by
  have cmp : ∀ {q : Prop} [Decidable q] {c : Bool}, c = decide q → bK k c = true → (∃ v : FV, some (Value.bool (decide q)) = some v.val ∧ k v = true) ∨ z = true := fun {q} _ {c} hc hk => by
    rw [bK_eq, hc] at hk
    exact .inl ⟨_, rfl, hk⟩
  cases op with
  | add =>
    have h : natK (nnK k z) (Nat.add a b) = true := h
    rw [natK_eq] at h
    rcases nnK_ok (a := (a : Int) + b) (by simp) h with ⟨v, h1, h2⟩ | h
    · exact .inl ⟨v, congrArg some h1, h2⟩
    · exact .inr h
  | mul =>
    have h : natK (nnK k z) (Nat.mul a b) = true := h
    rw [natK_eq] at h
    rcases nnK_ok (a := (a : Int) * b) (by simp) h with ⟨v, h1, h2⟩ | h
    · exact .inl ⟨v, congrArg some h1, h2⟩
    · exact .inr h
  | sub =>
    have h : iteK (natK (nnNg k z) (Nat.pred (Nat.sub b a))) (natK (nnK k z) (Nat.sub a b)) (Nat.ble b a) = true := h
    rcases iteK_ok h with ⟨h1, h2⟩ | ⟨h1, h2⟩
    · have h1 : a < b := Nat.lt_of_not_le fun hle => by rw [Nat.ble_eq_true_of_le hle] at h1; cases h1
      rw [natK_eq] at h2
      rcases iteK_ok h2 with ⟨_, h3⟩ | ⟨h3, h4⟩
      · exact .inr h3
      · have h3 := Nat.le_of_ble_eq_true h3
        have e : Nat.pred (Nat.sub b a) = b - a - 1 := rfl
        rw [e] at h3 h4
        refine .inl ⟨_, ?_, h4⟩
        show some (Value.int .i64 (IntKind.i64.wrap ((a : Int) - b))) = some (Value.int .i64 (Int.negSucc (b - a - 1)))
        rw [wrap_id (by omega)]
        congr 2
        omega
    · have h1 := Nat.le_of_ble_eq_true h1
      rw [natK_eq] at h2
      rcases nnK_ok (a := (a : Int) - b) (by have : Nat.sub a b = a - b := rfl; omega) h2 with ⟨v, h1, h2⟩ | h
      · exact .inl ⟨v, congrArg some h1, h2⟩
      · exact .inr h
  | eql => exact cmp (by rw [Bool.eq_iff_iff]; simp; omega) h
  | neq =>
    have h : Bool.rec (motive := fun _ => Bool) (k (.bb true)) (k (.bb false)) (Nat.beq a b) = true := h
    cases hb : Nat.beq a b with
    | true =>
      rw [hb] at h
      refine .inl ⟨.bb false, ?_, h⟩
      have := Nat.eq_of_beq_eq_true hb
      simp [Ev.binI, this, FV.val]
    | false =>
      rw [hb] at h
      refine .inl ⟨.bb true, ?_, h⟩
      have : a ≠ b := fun e => by rw [e, Nat.beq_refl] at hb; cases hb
      simp only [Ev.binI, FV.val]
      congr 2
      simp
      omega
  | lss => exact cmp (by rw [Bool.eq_iff_iff]; simp; omega) h
  | leq => exact cmp (by rw [Bool.eq_iff_iff]; simp) h
  | gtr => exact cmp (by rw [Bool.eq_iff_iff]; simp; omega) h
  | geq => exact cmp (by rw [Bool.eq_iff_iff]; simp) h
  | _ => exact .inr h
/-- Numbers of other kinds: what is compared is compared at once where both are no less than 0. -/
abbrev II := (FV → Bool) → Bool → IntKind → Int → Int → Bool
noncomputable def iiSlow (op : BinOp) : II := fun k z kd a b => Option.rec (motive := fun _ => Bool) z (fun v => convK k v) (Ev.binI op kd a b)
noncomputable def iiC2 (f : NN) (k : FV → Bool) (z s : Bool) (b : Int) (m : Nat) : Bool := Int.rec (motive := fun _ => Bool) (fun n => f k z m n) (fun _ => s) b
noncomputable def iiC (op : BinOp) (f : NN) : II := fun k z kd a b => Int.rec (motive := fun _ => Bool) (iiC2 f k z (iiSlow op k z kd a b) b) (fun _ => iiSlow op k z kd a b) a
structure IIK where
  run : II
noncomputable def iiS (op : BinOp) : IIK :=
  match op with
  | .eql => ⟨iiC .eql nnEq⟩
  | .neq => ⟨iiC .neq nnNe⟩
  | .lss => ⟨iiC .lss nnLt⟩
  | .leq => ⟨iiC .leq nnLe⟩
  | .gtr => ⟨iiC .gtr nnGt⟩
  | .geq => ⟨iiC .geq nnGe⟩
  | op => ⟨iiSlow op⟩
theorem iiSlow_ok {op : BinOp} {k : FV → Bool} {z : Bool} {kd : IntKind} {a b : Int} (h : iiSlow op k z kd a b = true) : (∃ v : FV, Ev.binI op kd a b = some v.val ∧ k v = true) ∨ z = true := by
  unfold iiSlow at h
  cases hb : Ev.binI op kd a b with
  | none => rw [hb] at h; exact .inr h
  | some v =>
    rw [hb] at h
    obtain ⟨f, rfl, h2⟩ := convK_ok h
    exact .inl ⟨f, rfl, h2⟩
theorem iiC_ok {op : BinOp} {f : NN} {k : FV → Bool} {z : Bool} {kd : IntKind} {a b : Int} (hf : f = (nnS op).run) (hk : ∀ a b, Ev.binI op kd a b = Ev.binI op .i64 a b) (h : iiC op f k z kd a b = true) : (∃ v : FV, Ev.binI op kd a b = some v.val ∧ k v = true) ∨ z = true := by
  unfold iiC at h
  cases a with
  | negSucc m => exact iiSlow_ok h
  | ofNat m =>
    cases b with
    | negSucc n => exact iiSlow_ok h
    | ofNat n =>
      have h : f k z m n = true := h
      rw [hf] at h
      rw [hk]
      exact nnS_ok h
theorem iiS_ok {op : BinOp} {k : FV → Bool} {z : Bool} {kd : IntKind} {a b : Int} (h : (iiS op).run k z kd a b = true) : (∃ v : FV, Ev.binI op kd a b = some v.val ∧ k v = true) ∨ z = true := by
  cases op with
  | eql => exact iiC_ok (op := .eql) rfl (fun _ _ => rfl) h
  | neq => exact iiC_ok (op := .neq) rfl (fun _ _ => rfl) h
  | lss => exact iiC_ok (op := .lss) rfl (fun _ _ => rfl) h
  | leq => exact iiC_ok (op := .leq) rfl (fun _ _ => rfl) h
  | gtr => exact iiC_ok (op := .gtr) rfl (fun _ _ => rfl) h
  | geq => exact iiC_ok (op := .geq) rfl (fun _ _ => rfl) h
  | _ => exact iiSlow_ok h

/-! ### Strings -/
abbrev SS := (FV → Bool) → Bool → Nat → Nat → Nat → Nat → Bool
noncomputable def maskN (n x : Nat) : Nat := Nat.mod x (Nat.pow 2 (Nat.mul 8 n))
noncomputable def ssEqB (n x m y : Nat) : Bool := Bool.rec (motive := fun _ => Bool) false (Nat.beq (maskN n x) (maskN m y)) (Nat.beq n m)
theorem bytesA_inj {n x m y : Nat} : bytesA n x = bytesA m y ↔ n = m ∧ x % 2 ^ (8 * n) = y % 2 ^ (8 * m) := by
  constructor
  · intro h
    have h1 : bytesL n x = bytesL m y := by
      have := congrArg (fun b : ByteArray => b.data.toList) h
      simpa [bytesA] using this
    have h2 : n = m := by have := congrArg List.length h1; simpa [bytesL_len] using this
    subst h2
    exact ⟨rfl, bytesL_inj _ _ _ h1⟩
  · rintro ⟨rfl, h⟩
    unfold bytesA
    rw [← bytesL_mod n x, ← bytesL_mod n y, h]
theorem ssEqB_eq (n x m y : Nat) : ssEqB n x m y = decide (bytesA n x = bytesA m y) := by
  unfold ssEqB
  by_cases h : n = m
  · subst h
    rw [Nat.beq_refl]
    show Nat.beq (maskN n x) (maskN n y) = _
    rw [Bool.eq_iff_iff, decide_eq_true_iff, bytesA_inj]
    constructor
    · intro h; exact ⟨rfl, Nat.eq_of_beq_eq_true h⟩
    · rintro ⟨_, h⟩
      have e : maskN n x = maskN n y := h
      rw [e]; exact Nat.beq_refl _
  · rw [show Nat.beq n m = false from Bool.eq_false_iff.2 fun e => h (Nat.eq_of_beq_eq_true e)]
    show false = _
    symm
    rw [decide_eq_false_iff_not, bytesA_inj]
    exact fun e => h e.1
noncomputable def ssEq : SS := fun k z n x m y => bK k (ssEqB n x m y)
noncomputable def ssNe : SS := fun k z n x m y => Bool.rec (motive := fun _ => Bool) (k (.bb true)) (k (.bb false)) (ssEqB n x m y)
noncomputable def ssAdd2 (k : FV → Bool) (z : Bool) (x : Nat) (s : Nat) : Bool := iteK z (natK (fun x => k (.ss s x)) x) (Nat.ble s 9223372036854775807)
noncomputable def catN (n x y : Nat) : Nat := Nat.add (maskN n x) (Nat.shiftLeft y (Nat.mul 8 n))
noncomputable def ssAdd : SS := fun k z n x m y => natK (ssAdd2 k z (catN n x y)) (Nat.add n m)
noncomputable def ssNo : SS := fun k z n x m y => z
theorem cat_ok (n x m y : Nat) : bytesA n x ++ bytesA m y = bytesA (n + m) (catN n x y) := by
  have h : bytesL (n + m) (catN n x y) = bytesL n x ++ bytesL m y := bytesL_app m y n x
  apply ByteArray.ext
  rw [ByteArray.data_append]
  apply Array.ext'
  simp [bytesA, h]
structure SSK where
  run : SS
noncomputable def ssS (op : BinOp) : SSK :=
  match op with
  | .eql => ⟨ssEq⟩
  | .neq => ⟨ssNe⟩
  | .add => ⟨ssAdd⟩
  | _ => ⟨ssNo⟩
theorem bytesA_size (n x : Nat) : (bytesA n x).size = n := by
  show (bytesL n x).toArray.size = n
  simp [bytesL_len]
theorem ssS_ok {op : BinOp} {k : FV → Bool} {z : Bool} {n x m y : Nat} (h : (ssS op).run k z n x m y = true) : (∃ v : FV, Ev.binSF op (bytesA n x) (bytesA m y) = some v.val ∧ k v = true) ∨ z = true := by
  cases op with
  | eql =>
    have h : bK k (ssEqB n x m y) = true := h
    rw [bK_eq] at h
    exact .inl ⟨_, by simp only [binSF, eqBytes_str, FV.val, ssEqB_eq], h⟩
  | neq =>
    have h : Bool.rec (motive := fun _ => Bool) (k (.bb true)) (k (.bb false)) (ssEqB n x m y) = true := h
    have e := ssEqB_eq n x m y
    cases hb : ssEqB n x m y with
    | true => rw [hb] at h e; exact .inl ⟨.bb false, by simp only [binSF, eqBytes_str, FV.val, ← e]; rfl, h⟩
    | false => rw [hb] at h e; exact .inl ⟨.bb true, by simp only [binSF, eqBytes_str, FV.val, ← e]; rfl, h⟩
  | add =>
    have h : natK (ssAdd2 k z (catN n x y)) (Nat.add n m) = true := h
    rw [natK_eq] at h
    rcases iteK_ok h with ⟨_, h1⟩ | ⟨h1, h2⟩
    · exact .inr h1
    · have h1 := Nat.le_of_ble_eq_true h1
      rw [natK_eq] at h2
      refine .inl ⟨_, ?_, h2⟩
      have hl : (bytesA n x).data.toList.length + (bytesA m y).data.toList.length ≤ 9223372036854775807 := by
        simpa [bytesA, bytesL_len] using h1
      unfold binSF
      simp only [if_pos hl, FV.val]
      congr 2
      show _ = bytesA (n + m) (catN n x y)
      rw [← cat_ok]
      apply ByteArray.ext
      rw [ByteArray.data_append]
      apply Array.ext'
      simp
  | _ => exact .inr h

/-! ### Two operands -/
noncomputable def b2i (ii : II) (k : FV → Bool) (z : Bool) (kd : IntKind) (a : Int) (kd' : IntKind) (b : Int) : Bool := iteK z (ii k z kd a b) (decide (kd = kd'))
noncomputable def b1n (nn : NN) (k : FV → Bool) (z : Bool) (y : FV) (a : Nat) : Bool := onN (nn k z a) z y
noncomputable def b1i (ii : II) (k : FV → Bool) (z : Bool) (y : FV) (kd : IntKind) (a : Int) : Bool := onInt (fun _ => z) (b2i ii k z kd a) z y
noncomputable def b1s (ss : SS) (k : FV → Bool) (z : Bool) (y : FV) (n x : Nat) : Bool := onS (ss k z n x) z y
noncomputable def binF (nn : NN) (ii : II) (ss : SS) (k : FV → Bool) (z : Bool) (y x : FV) : Bool := onIS (b1n nn k z y) (b1i ii k z y) (b1s ss k z y) z x
theorem binF_ok {op : BinOp} {k : FV → Bool} {z : Bool} {x y : FV} (h : binF (nnS op).run (iiS op).run (ssS op).run k z y x = true) : (∃ v : FV, fastBin op x.val y.val = some v.val ∧ k v = true) ∨ z = true := by
  rcases onIS_ok h with ⟨a, rfl, h⟩ | ⟨kd, a, rfl, h⟩ | ⟨n, a, rfl, h⟩ | h
  · rcases onN_ok h with ⟨b, rfl, h⟩ | h
    · rcases nnS_ok h with ⟨v, h1, h2⟩ | h
      · exact .inl ⟨v, by simp only [fastBin, FV.val]; exact h1, h2⟩
      · exact .inr h
    · exact .inr h
  · rcases onInt_ok h with ⟨b, rfl, h⟩ | ⟨kd', b, rfl, h⟩ | h
    · exact .inr h
    · rcases iteK_ok h with ⟨_, h9⟩ | ⟨hk, h9⟩
      · exact .inr h9
      · have hk : kd = kd' := of_decide_eq_true hk
        subst hk
        rcases iiS_ok h9 with ⟨v, h1, h2⟩ | h
        · exact .inl ⟨v, by simp only [fastBin, FV.val, if_pos rfl]; exact h1, h2⟩
        · exact .inr h
    · exact .inr h
  · rcases onS_ok h with ⟨m, b, rfl, h⟩ | h
    · rcases ssS_ok h with ⟨v, h1, h2⟩ | h
      · exact .inl ⟨v, by simp only [fastBin, FV.val]; exact h1, h2⟩
      · exact .inr h
    · exact .inr h
  · exact .inr h
/-- What is no pointer is held against another without the heap. -/
def ptrB : Value → Bool
  | .pointer (some _) => true
  | _ => false
theorem eqA_any {t : TypeId} {x y : Value} (h : ptrB x = false ∨ ptrB y = false) (H H' : AH) : eqA P H t x y = eqA P H' t x y := by
  unfold eqA
  split <;> first | rfl | (rcases h with h | h <;> cases h)
noncomputable def eqlK (k : FV → Bool) (neg : Bool) (z : Bool) (x : Option Bool) : Bool := Option.rec (motive := fun _ => Bool) z (fun b => Bool.rec (motive := fun _ => Bool) (k (.bb neg)) (k (.bb (!neg))) b) x
noncomputable def eqSlow (I : EnvI E) (n : Nat) (P : Program) (o : Oper) (t : TypeId) (neg : Bool) (k : FV → Bool) (x y : FV) (e : E) : Bool :=
  Bool.rec (motive := fun _ => Bool) false (eqlK k neg (flatK I n P o k e) (eqA P AH.empty t x.val y.val)) (!(ptrB x.val) || !(ptrB y.val))
/-- A block of one's own, nothing of it frozen. -/
noncomputable def plO (k : Bool) (o : FObj) : Bool := FObj.rec (motive := fun _ => Bool) (fun _ _ _ lo hi => ifK (ifK k (Nat.beq hi 0)) (Nat.beq lo 0)) (fun _ _ _ lo hi => ifK (ifK k (Nat.beq hi 0)) (Nat.beq lo 0)) (fun _ _ _ => false) (fun _ _ => false) o
noncomputable def plF (k : Bool) (c : Nat) (t : Q FBlk) (_ _ : Nat) : Bool := Q.getK (fun fb => FBlk.rec (motive := fun _ => Bool) (fun o _ => plO k o) (fun _ _ _ _ _ => false) fb) t c
noncomputable def plK (k : Bool) (F : FH) (c : Nat) : Bool := FH.rec (motive := fun _ => Bool) (plF k c) F
theorem plK_ok {k : Bool} {F : FH} {c : Nat} (h : plK k F c = true) : k = true ∧ ∀ H, HR F H → H.plain c = true := by
  obtain ⟨t, nx, ck⟩ := F
  have h : Q.getK (fun fb => FBlk.rec (motive := fun _ => Bool) (fun o _ => plO k o) (fun _ _ _ _ _ => false) fb) t c = true := h
  obtain ⟨fb, h1, h2⟩ := Q.getK_ok h
  cases fb with
  | gg => cases h2
  | xx o ver =>
    have h2 : plO k o = true := h2
    have key : ∀ (lo hi : Nat), ifK (ifK k (Nat.beq hi 0)) (Nat.beq lo 0) = true → k = true ∧ lo = 0 ∧ hi = 0 := fun lo hi g => by
      obtain ⟨g1, g2⟩ := ifK_ok g
      obtain ⟨g3, g4⟩ := ifK_ok g2
      exact ⟨g4, Nat.eq_of_beq_eq_true g1, Nat.eq_of_beq_eq_true g3⟩
    have hk : k = true := by
      cases o with
      | cl n t e lo hi => exact (key lo hi h2).1
      | yy n x e lo hi => exact (key lo hi h2).1
      | it => cases h2
      | mp => cases h2
    refine ⟨hk, fun H hH => ?_⟩
    obtain ⟨b, hb, ho, _, he, _, hl, _⟩ := hH.xx h1
    unfold AH.plain
    rw [hb]
    simp only [hl, he]
    cases o with
    | cl n t e lo hi =>
      obtain ⟨_, rfl, rfl⟩ := key lo hi h2
      obtain ⟨C, ho, _⟩ := ho
      rw [ho]; rfl
    | yy n x e lo hi =>
      obtain ⟨_, rfl, rfl⟩ := key lo hi h2
      have ho : b.obj = .cells ((bytesL n x).map byteC).toArray e (0, 0) := ho
      rw [ho]; rfl
    | it => cases h2
    | mp => cases h2
noncomputable def eqPP (k : FV → Bool) (neg : Bool) (F : FH) (c o d q : Nat) : Bool :=
  plK (plK (Bool.rec (motive := fun _ => Bool) (k (.bb neg)) (k (.bb (!neg))) (Bool.and (Nat.beq c d) (Nat.beq o q))) F d) F c
/-- Pointers to what has a size may be held against one another. -/
def ptrT (P : Program) (t : TypeId) : Bool := match P.underlying t with
  | some (.pointer e) => !(Nat.beq (szT P e) 0)
  | _ => false
structure SlowK (E : Type) where
  run : (FV → Bool) → FV → FV → E → FH → Bool
noncomputable def eqSlowP (I : EnvI E) (n : Nat) (P : Program) (o : Oper) (t : TypeId) (neg : Bool) (k : FV → Bool) (x y : FV) (e : E) (F : FH) : Bool :=
  onP (fun c a => onP (fun d b => eqPP k neg F c a d b) (eqSlow I n P o t neg k x y e) y) (eqSlow I n P o t neg k x y e) x
noncomputable def slowS (I : EnvI E) (n : Nat) (P : Program) (o : Oper) (op : BinOp) (t : TypeId) : SlowK E :=
  match op with
  | .eql => match ptrT P t with
    | true => ⟨eqSlowP I n P o t false⟩
    | false => ⟨fun k x y e _ => eqSlow I n P o t false k x y e⟩
  | .neq => match ptrT P t with
    | true => ⟨eqSlowP I n P o t true⟩
    | false => ⟨fun k x y e _ => eqSlow I n P o t true k x y e⟩
  | _ => ⟨fun k x y e _ => flatK I n P o k e⟩
theorem eqSlow_ok {o : Oper} {t : TypeId} {neg : Bool} {k : FV → Bool} {x y : FV} {e : E} {en : List Value} (hr : REv I n e en) (h : eqSlow I n P o t neg k x y e = true) :
    ∃ v : FV, k v = true ∧ ∀ H, (∃ b, eqA P H t x.val y.val = some b ∧ v.val = .bool (if neg then !b else b)) ∨ (eqA P H t x.val y.val = none ∧ flatOp P o (rho en) = some v.val) := by
  unfold eqSlow at h
  cases hp : (!(ptrB x.val) || !(ptrB y.val)) with
  | false => rw [hp] at h; cases h
  | true =>
    rw [hp] at h
    have hp : ptrB x.val = false ∨ ptrB y.val = false := by simpa using hp
    have h : eqlK k neg (flatK I n P o k e) (eqA P AH.empty t x.val y.val) = true := h
    cases he : eqA P AH.empty t x.val y.val with
    | none =>
      rw [he] at h
      obtain ⟨v, h1, h2⟩ := flatK_ok hr h
      exact ⟨v, h2, fun H => .inr ⟨by rw [eqA_any hp H AH.empty, he], h1⟩⟩
    | some b =>
      rw [he] at h
      refine ⟨.bb (if neg then !b else b), ?_, fun H => .inl ⟨b, by rw [eqA_any hp H AH.empty, he], rfl⟩⟩
      cases b <;> cases neg <;> exact h
theorem eqSlowP_ok {o : Oper} {t : TypeId} {neg : Bool} {k : FV → Bool} {x y : FV} {e : E} {F : FH} {en : List Value} (hp : ptrT P t = true) (hr : REv I n e en) (h : eqSlowP I n P o t neg k x y e F = true) :
    ∃ v : FV, k v = true ∧ ∀ H, HR F H → (∃ b, eqA P H t x.val y.val = some b ∧ v.val = .bool (if neg then !b else b)) ∨ (eqA P H t x.val y.val = none ∧ flatOp P o (rho en) = some v.val) := by
  have slow : eqSlow I n P o t neg k x y e = true → ∃ v : FV, k v = true ∧ ∀ H, HR F H → (∃ b, eqA P H t x.val y.val = some b ∧ v.val = .bool (if neg then !b else b)) ∨ (eqA P H t x.val y.val = none ∧ flatOp P o (rho en) = some v.val) := fun h => by
    obtain ⟨v, h1, h2⟩ := eqSlow_ok hr h
    exact ⟨v, h1, fun H _ => h2 H⟩
  unfold ptrT at hp
  split at hp
  case h_2 => cases hp
  rename_i el hu
  have hz : szT P el ≠ 0 := fun e0 => by rw [e0] at hp; cases hp
  rcases onP_ok h with ⟨c, a, rfl, h1⟩ | h1
  · rcases onP_ok h1 with ⟨d, b, rfl, h2⟩ | h2
    · obtain ⟨h3, h4⟩ := plK_ok (show plK (plK _ F d) F c = true from h2)
      obtain ⟨h5, h6⟩ := plK_ok h3
      refine ⟨.bb (if neg then !(Nat.beq c d && Nat.beq a b) else (Nat.beq c d && Nat.beq a b)), ?_, fun H hH => .inl ⟨_, ?_, rfl⟩⟩
      · cases hb : (Nat.beq c d && Nat.beq a b) with
        | true =>
          have hb' : Bool.and (Nat.beq c d) (Nat.beq a b) = true := hb
          rw [hb'] at h5
          cases neg <;> exact h5
        | false =>
          have hb' : Bool.and (Nat.beq c d) (Nat.beq a b) = false := hb
          rw [hb'] at h5
          cases neg <;> exact h5
      · simp only [eqA, hu, FV.val]
        rw [if_pos ⟨hz, by trivial, by trivial, h4 H hH, h6 H hH⟩]
    · exact slow h2
  · exact slow h1
/-- Two operands. -/
noncomputable def bin2S (I : EnvI E) (n : Nat) (P : Program) (o : Oper) (op : BinOp) (t : TypeId) (x y : Operand) : BodyK E :=
  NNK.rec (motive := fun _ => BodyK E) (fun nn => IIK.rec (motive := fun _ => BodyK E) (fun ii => SSK.rec (motive := fun _ => BodyK E) (fun ss => SlowK.rec (motive := fun _ => BodyK E) (fun sl =>
    GetK.rec (motive := fun _ => BodyK E) (fun gx => GetK.rec (motive := fun _ => BodyK E) (fun gy => ⟨fun _ k t F => binF nn ii ss (fun v => k v F) (sl (fun v => k v F) (gx t) (gy t) t F) (gy t) (gx t)⟩) (opdS I n y)) (opdS I n x)) (slowS I n P o op t)) (ssS op)) (iiS op)) (nnS op)
theorem bin2S_ok {o : Oper} {op : BinOp} {t t' : TypeId} {x y : Operand} (ho : o.op = .binOp op t x y t') : BodyFlat I n P o (bin2S I n P o op t x y) := fun call e en F k hr h => by
  have h : binF (nnS op).run (iiS op).run (ssS op).run (fun v => k v F) ((slowS I n P o op t).run (fun v => k v F) ((opdS I n x).run e) ((opdS I n y).run e) e F) ((opdS I n y).run e) ((opdS I n x).run e) = true := h
  rcases binF_ok h with ⟨v, h1, h2⟩ | h
  · rw [opdS_ok hr, opdS_ok hr] at h1
    exact ⟨v, fun ca H _ => ev_bin ho h1, h2⟩
  · cases op with
    | eql =>
      have h0 : ∃ v : FV, k v F = true ∧ ∀ H, HR F H → (∃ b, eqA P H t ((opdS I n x).run e).val ((opdS I n y).run e).val = some b ∧ v.val = .bool (if false then !b else b)) ∨ (eqA P H t ((opdS I n x).run e).val ((opdS I n y).run e).val = none ∧ flatOp P o (rho en) = some v.val) := by
        unfold slowS at h
        simp only at h
        split at h
        · rename_i hp; exact eqSlowP_ok (k := fun v => k v F) hp hr h
        · obtain ⟨v, h1, h2⟩ := eqSlow_ok (k := fun v => k v F) hr h
          exact ⟨v, h1, fun H _ => h2 H⟩
      obtain ⟨v, h1, h2⟩ := h0
      refine ⟨v, fun ca H hH => ?_, h1⟩
      have := h2 H hH
      rw [opdS_ok hr, opdS_ok hr] at this
      unfold evOp
      simp only [ho]
      rcases this with ⟨b, h3, h4⟩ | ⟨h3, h4⟩
      · rw [h3, h4]; rfl
      · rw [h3, h4]; rfl
    | neq =>
      have h0 : ∃ v : FV, k v F = true ∧ ∀ H, HR F H → (∃ b, eqA P H t ((opdS I n x).run e).val ((opdS I n y).run e).val = some b ∧ v.val = .bool (if true then !b else b)) ∨ (eqA P H t ((opdS I n x).run e).val ((opdS I n y).run e).val = none ∧ flatOp P o (rho en) = some v.val) := by
        unfold slowS at h
        simp only at h
        split at h
        · rename_i hp; exact eqSlowP_ok (k := fun v => k v F) hp hr h
        · obtain ⟨v, h1, h2⟩ := eqSlow_ok (k := fun v => k v F) hr h
          exact ⟨v, h1, fun H _ => h2 H⟩
      obtain ⟨v, h1, h2⟩ := h0
      refine ⟨v, fun ca H hH => ?_, h1⟩
      have := h2 H hH
      rw [opdS_ok hr, opdS_ok hr] at this
      unfold evOp
      simp only [ho]
      rcases this with ⟨b, h3, h4⟩ | ⟨h3, h4⟩
      · rw [h3, h4]; rfl
      · rw [h3, h4]; rfl
    | _ =>
      obtain ⟨v, h1, h2⟩ := flatK_ok hr h
      refine ⟨v, fun ca H _ => ?_, h2⟩
      unfold evOp
      simp only [ho]
      rw [h1]; rfl

/-! ### Moves, choices, parts -/
noncomputable def moveS (I : EnvI E) (n : Nat) (x : Operand) : BodyK E := GetK.rec (motive := fun _ => BodyK E) (fun gx => ⟨fun _ k t F => k (gx t) F⟩) (opdS I n x)
theorem moveS_run (x : Operand) (call : CallT) (k : FV → FH → Bool) (t : E) (F : FH) : (moveS I n x).run call k t F = k ((opdS I n x).run t) F := rfl
theorem moveS_ok {o : Oper} {x : Operand} (ho : o.op = .move x ∨ o.op = .assign x) : BodyFlat I n P o (moveS I n x) := fun call e en F k hr h => by
  rw [moveS_run] at h
  refine ⟨_, fun ca H _ => ?_, h⟩
  unfold evOp
  rcases ho with ho | ho <;> simp only [ho, opdS_ok hr]
noncomputable def pickS (I : EnvI E) (n : Nat) (c a b : Operand) : BodyK E :=
  GetK.rec (motive := fun _ => BodyK E) (fun gc => GetK.rec (motive := fun _ => BodyK E) (fun ga => GetK.rec (motive := fun _ => BodyK E) (fun gb => ⟨fun _ k t F => onB (iteK (k (gb t) F) (k (ga t) F)) false (gc t)⟩) (opdS I n b)) (opdS I n a)) (opdS I n c)
theorem pickS_ok {o : Oper} {c a b : Operand} (ho : o.op = .pick c a b) : BodyFlat I n P o (pickS I n c a b) := fun call e en F k hr h => by
  have h : onB (iteK (k ((opdS I n b).run e) F) (k ((opdS I n a).run e) F)) false ((opdS I n c).run e) = true := h
  rcases onB_ok h with ⟨bc, hb, h⟩ | h
  · have hc : rho en c = .bool bc := by rw [← opdS_ok hr, hb]; rfl
    rcases iteK_ok h with ⟨rfl, h⟩ | ⟨rfl, h⟩
    · refine ⟨_, fun ca H _ => ?_, h⟩
      unfold evOp
      simp only [ho, hc, opdS_ok hr]
    · refine ⟨_, fun ca H _ => ?_, h⟩
      unfold evOp
      simp only [ho, hc, opdS_ok hr]
  · cases h
/-- One of a list. -/
noncomputable def nthL (k : FV → Bool) (l : List FV) : Nat → Bool := List.rec (motive := fun _ => Nat → Bool) (fun _ => false) (fun x _ ih i => Nat.rec (motive := fun _ => Bool) (k x) (fun j _ => ih j) i) l
theorem nthL_ok {k : FV → Bool} : ∀ {l : List FV} {i : Nat}, nthL k l i = true → ∃ f, l[i]? = some f ∧ k f = true
  | [], i, h => by cases h
  | x :: r, 0, h => ⟨x, rfl, h⟩
  | x :: r, i + 1, h => by
    obtain ⟨f, h1, h2⟩ := nthL_ok (l := r) (i := i) h
    exact ⟨f, by simpa using h1, h2⟩
theorem vals_get {l : List FV} {i : Nat} {f : FV} (h : l[i]? = some f) : (FV.vals l)[i]? = some f.val := by rw [FV.vals_eq, List.getElem?_map, h]; rfl
noncomputable def extrS (I : EnvI E) (n : Nat) (x : Operand) (ix : Nat) : BodyK E := GetK.rec (motive := fun _ => BodyK E) (fun gx => ⟨fun _ k t F => onT (fun l => nthL (fun v => k v F) l ix) false (gx t)⟩) (opdS I n x)
theorem extrS_ok {o : Oper} {x : Operand} {ix : Nat} (ho : o.op = .extract x ix) : BodyFlat I n P o (extrS I n x ix) := fun call e en F k hr h => by
  have h : onT (fun l => nthL (fun v => k v F) l ix) false ((opdS I n x).run e) = true := h
  rcases onT_ok h with ⟨l, hl, h⟩ | h
  · obtain ⟨f, h1, h2⟩ := nthL_ok h
    refine ⟨f, fun ca H _ => ?_, h2⟩
    have hx : rho en x = .tuple (FV.vals l).toArray := by rw [← opdS_ok hr, hl]; rfl
    unfold evOp
    simp only [ho, hx, List.getElem?_toArray, vals_get h1, Option.map_some]
  · cases h
/-- By hand of the model: what is done without the heap. -/
noncomputable def flatS (I : EnvI E) (n : Nat) (P : Program) (o : Oper) : BodyK E := ⟨fun _ k t F => flatK I n P o (fun v => k v F) t⟩
theorem flatS_ok {o : Oper} (he : ∀ ca ρ H, evOp P ca o ρ H = (flatOp P o ρ).map (·, H)) : BodyFlat I n P o (flatS I n P o) := fun call e en F k hr h => by
  obtain ⟨v, h1, h2⟩ := flatK_ok hr (show flatK I n P o (fun v => k v F) e = true from h)
  exact ⟨v, fun ca H _ => by rw [he, h1]; rfl, h2⟩
noncomputable def notS (I : EnvI E) (n : Nat) (P : Program) (o : Oper) (x : Operand) : BodyK E := GetK.rec (motive := fun _ => BodyK E) (fun gx => ⟨fun _ k t F => onB (iteK (k (.bb true) F) (k (.bb false) F)) false (gx t)⟩) (opdS I n x)
theorem notS_ok {o : Oper} {t : TypeId} {x : Operand} (ho : o.op = .unOp .not t x) : BodyFlat I n P o (notS I n P o x) := fun call e en F k hr h => by
  have h : onB (iteK (k (.bb true) F) (k (.bb false) F)) false ((opdS I n x).run e) = true := h
  rcases onB_ok h with ⟨b, hb, h⟩ | h
  · have hx : rho en x = .bool b := by rw [← opdS_ok hr, hb]; rfl
    rcases iteK_ok h with ⟨rfl, h⟩ | ⟨rfl, h⟩
    · exact ⟨_, fun ca H _ => ev_un ho (by rw [hx]; rfl), h⟩
    · exact ⟨_, fun ca H _ => ev_un ho (by rw [hx]; rfl), h⟩
  · cases h

/-! ### Strings' bytes and parts -/
/-- An index, of whatever kind. -/
noncomputable def onX2 (k : Nat → Bool) (_ : IntKind) (i : Int) : Bool := Int.rec (motive := fun _ => Bool) k (fun _ => false) i
noncomputable def onX (k : Nat → Bool) (v : FV) : Bool := onInt k (onX2 k) false v
theorem onX_ok {k : Nat → Bool} {v : FV} (h : onX k v = true) : ∃ kd i, v.val = .int kd (Int.ofNat i) ∧ k i = true := by
  rcases onInt_ok h with ⟨i, rfl, h1⟩ | ⟨kd, i, rfl, h1⟩ | h1
  · exact ⟨_, i, rfl, h1⟩
  · cases i with
    | ofNat m => exact ⟨kd, m, rfl, h1⟩
    | negSucc m => cases h1
  · cases h1
noncomputable def idx2 (k : FV → Bool) (n x : Nat) (i : Nat) : Bool := ifK (natK (byK k) (Nat.mod (Nat.shiftRight x (Nat.mul 8 i)) 256)) (Nat.ble (Nat.succ i) n)
noncomputable def idx1 (k : FV → Bool) (y : FV) (n x : Nat) : Bool := onX (idx2 k n x) y
noncomputable def indexS (I : EnvI E) (n : Nat) (x y : Operand) : BodyK E :=
  GetK.rec (motive := fun _ => BodyK E) (fun gx => GetK.rec (motive := fun _ => BodyK E) (fun gy => ⟨fun _ k t F => onS (idx1 (fun v => k v F) (gy t)) false (gx t)⟩) (opdS I n y)) (opdS I n x)
theorem indexS_ok {o : Oper} {t : TypeId} {x y : Operand} (ho : o.op = .index t x y) (ht : P.underlying t = some .string) : BodyFlat I n P o (indexS I n x y) := fun call e en F k hr h => by
  have h : onS (idx1 (fun v => k v F) ((opdS I n y).run e)) false ((opdS I n x).run e) = true := h
  rcases onS_ok h with ⟨m, s, hx, h⟩ | h
  · obtain ⟨kd, i, hy, h⟩ := onX_ok h
    · obtain ⟨h1, h2⟩ := ifK_ok h
      rw [natK_eq] at h2
      have h1 : i < m := Nat.le_of_ble_eq_true h1
      refine ⟨_, fun ca H _ => ev_index ho ?_, h2⟩
      rw [← opdS_ok hr x, ← opdS_ok hr y, hx, hy]
      have := bytesL_get h1 s
      simp only [fastIndex, ht, FV.val, bytesA, this]
      rw [show (Value.int IntKind.u8 ((UInt8.ofNat (Nat.shiftRight s (8 * i))).toNat : Int)) = byteC (UInt8.ofNat (Nat.shiftRight s (8 * i))) from rfl, byteC_mod]
      rfl
  · cases h
end
end Go.Proofs.YtaadahhjdkkkaaaGreatDoor.Ev
